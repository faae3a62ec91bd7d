/- The walks of the document's safe, between, once, is, add, numberStep (printed by gen_rws.py). A step seen in memory; the walk of the document's over. The walk of the document's rule unused (printed by gen_rwu.py). -/
import Derived.Test.YtamhdmkolfmmdaaGreatDoorsbf
import Derived.Test.YtamhdmkolfmmdaaGreatDoorsaa
import Derived.BigQuiet
import Derived.Test.YtamhdmkolfmmdaaGreatDoorsbg
set_option linter.unusedVariables false
set_option linter.unusedSimpArgs false
namespace Go.Proofs.YtamhdmkolfmmdaaGreatDoor
open Go.RowKit
set_option maxRecDepth 100000
set_option maxHeartbeats 4000000
theorem khB (A : Option Addr) (n c : Nat) (num ty : Int) (text : List UInt8) (w : World) : Calls Tryz.prog 152 #[.agg #[.string ⟨#[110, 117, 109, 98, 101, 114]⟩, .slice A n c, .int .i64 num, .string ⟨text.toArray⟩, .int .i64 ty]] w fun e w' => e = .returned (.bool (decide (num ≤ Oz.maxLn))) ∧ Below w.heap.size w w' := by
 by_cases h : num ≤ 1152921504606846976
 ·
  have hr : decide (num ≤ Oz.maxLn) = true := decide_eq_true h
  rw [hr]
  clear hr
  go_enter Tryz.func152, Tryz.ntmps152
  go_wp2_with fail
  go_ret
  exact ⟨rfl, (Below.refl _ _).alloc (Nat.le_refl _) _⟩
 ·
  have hr : decide (num ≤ Oz.maxLn) = false := decide_eq_false h
  rw [hr]
  clear hr
  go_enter Tryz.func152, Tryz.ntmps152
  go_wp2_with fail
  go_ret
  exact ⟨rfl, (Below.refl _ _).alloc (Nat.le_refl _) _⟩
theorem khA (A : Option Addr) (n c : Nat) (num ty : Int) (text : List UInt8) (w : World) : Calls Tryz.prog 152 #[.agg #[.string ⟨#[115, 116, 114, 105, 110, 103]⟩, .slice A n c, .int .i64 num, .string ⟨text.toArray⟩, .int .i64 ty]] w fun e w' => e = .returned (.bool (decide (text.length ≤ 65536))) ∧ Below w.heap.size w w' := by
 by_cases h : text.length ≤ 65536
 ·
  rw [decide_eq_true h]
  have q0 : (text.length : Int) ≤ 65536 := by omega
  clear h
  go_enter Tryz.func152, Tryz.ntmps152
  go_wp2_with fail
  go_ret
  exact ⟨rfl, (Below.refl _ _).alloc (Nat.le_refl _) _⟩
 ·
  rw [decide_eq_false h]
  have q0 : ¬ ((text.length : Int) ≤ 65536) := by omega
  clear h
  go_enter Tryz.func152, Tryz.ntmps152
  go_wp2_with fail
  go_ret
  exact ⟨rfl, (Below.refl _ _).alloc (Nat.le_refl _) _⟩
theorem kiz (op : List UInt8) (hop : op ∈ ([[108, 101, 110], [115, 105, 122, 101], [99, 111, 109, 109, 111, 110], [109, 105, 110], [109, 97, 120], [61, 61], [33, 61], [60], [60, 61], [97, 110, 100], [111, 114], [110, 111, 116], [119, 105, 116, 104, 105, 110], [111, 118, 101, 114], [109, 105, 110, 117, 115]] : List (List UInt8))) (A : Option Addr) (n c : Nat) (num ty : Int) (text : List UInt8) (w : World) : Calls Tryz.prog 152 #[.agg #[.string ⟨op.toArray⟩, .slice A n c, .int .i64 num, .string ⟨text.toArray⟩, .int .i64 ty]] w fun e w' => e = .returned (.bool true) ∧ Below w.heap.size w w' := by
 simp only [List.mem_cons, List.not_mem_nil, or_false] at hop
 rcases hop with rfl | rfl | rfl | rfl | rfl | rfl | rfl | rfl | rfl | rfl | rfl | rfl | rfl | rfl | rfl
 all_goals
  go_enter Tryz.func152, Tryz.ntmps152
  go_wp2_with fail
  go_ret
  exact ⟨rfl, (Below.refl _ _).alloc (Nat.le_refl _) _⟩
theorem kiy (op : List UInt8) (h0 : op ≠ kab) (h1 : op ≠ kai) (hop : ¬ op ∈ ([[108, 101, 110], [115, 105, 122, 101], [99, 111, 109, 109, 111, 110], [109, 105, 110], [109, 97, 120], [61, 61], [33, 61], [60], [60, 61], [97, 110, 100], [111, 114], [110, 111, 116], [119, 105, 116, 104, 105, 110], [111, 118, 101, 114], [109, 105, 110, 117, 115]] : List (List UInt8))) (A : Option Addr) (n c : Nat) (num ty : Int) (text : List UInt8) (w : World) : Calls Tryz.prog 152 #[.agg #[.string ⟨op.toArray⟩, .slice A n c, .int .i64 num, .string ⟨text.toArray⟩, .int .i64 ty]] w fun e w' => e = .returned (.bool false) ∧ Below w.heap.size w w' := by
 exact y27
theorem kgu (s : St) (A : Option Addr) (n c : Nat) (w : World) : Calls Tryz.prog 152 #[.agg #[.string ⟨s.op.toArray⟩, .slice A n c, .int .i64 s.num, .string ⟨s.text.toArray⟩, .int .i64 s.ty]] w fun e w' => e = .returned (.bool (Oz.safeR s)) ∧ Below w.heap.size w w' := by
 have t170q0 := True.intro
 exact y33
def SbR (w : World) (l : List St) (j d f : Nat) (v : Value) (wr : World) : Prop := ∃ p : Nat, v = .int .i64 ((j : Int) + 1 + (p : Int)) ∧ p ≤ d ∧ d - p < f ∧ Hid (∀ q s, j < q → q < j + 1 + p → l[q]? = some s → Oz.safeR s = true) ∧ Hid (Below w.heap.size w wr)
theorem kds (A : Option Addr) (c : Nat) (l : List St) (w : World) (h : ArgPl w A l) (hn : l.length ≤ 10000) (j i : Nat) (hji : j < i) (hil : i ≤ l.length) :
  Calls Tryz.prog 150 #[.slice A l.length c, .int .i64 j, .int .i64 i] w fun e w' => e = .returned (.bool (Oz.safeB l j i)) ∧ Below w.heap.size w w' := by
 obtain ⟨n, hnn⟩ := xE l.length
 obtain ⟨d, hd⟩ := xE (i - (j + 1))
 have HA := hD h
 have HN := hD hnn
 have HD : Hid (j + 1 + d = i) := hD (by omega)
 have hw0 := IntWalk.wrap64_in ((j : Int) + 1) (by omega)
 rw [← hnn] at hn hil ⊢
 have hdb : d ≤ 10000 := by omega
 have hjb : j ≤ 10000 := by omega
 have HID : Hid (i = j + 1 + d) := hD (by omega)
 clear h hnn hd
 go_enter Tryz.func150, Tryz.ntmps150
 go_wp2_with fail
 go_loopg [7] (d + 1) (fun f v wr => SbR w l j d f v wr)
 case atStart => exact ⟨0, by rw [show (j : Int) + 1 + ((0 : Nat) : Int) = (j : Int) + 1 by omega], by omega, by omega, hD (fun q s h1 h2 _ => by omega), hD (Below.refl _ _)⟩
 case round =>
  clear hw0
  obtain ⟨p, rfl, hp, hpf, HS, HB⟩ := hrel
  obtain ⟨f, rfl⟩ : ∃ f, gk = f + 1 := ⟨gk - 1, by omega⟩
  by_cases hlt : p < d
  ·
   have hmn : j + 1 + p < n := by have := HID.out; omega
   obtain ⟨s, hs⟩ : ∃ s, l[j + 1 + p]? = some s := ⟨l[j + 1 + p]'(by rw [← HN.out]; exact hmn), List.getElem?_eq_getElem _⟩
   obtain ⟨b, o, As, cs, rfl, hbl, x0, x1, x2, x3, x4, _⟩ := (HA.out.below HB.out) (j + 1 + p) s hs
   have p0 : (j : Int) + 1 + (p : Int) < (i : Int) := by have := HID.out; omega
   have p1 : (0 : Int) ≤ (j : Int) + 1 + (p : Int) := by omega
   have p2 : (j : Int) + 1 + (p : Int) < (n : Int) := by omega
   have hw := IntWalk.wrap64_in ((j : Int) + 1 + (p : Int) + 1) (by omega)
   have HSS := hD hs
   have hzr := HB.out.size
   clear hs
   go_wp2_with fail
   refine (kgu s As s.args.length cs _).mono ?_
   rintro e w2 ⟨rfl, hb2⟩
   have HB2 := hD (HB.out.trans (hb2.mono hzr))
   clear hb2 HB x0 x1 x2 x3 x4
   cases hsf : Oz.safeR s with
   | false =>
    have hR : Oz.safeB l j i = false := kfb (q := j + 1 + p) (by omega) (by have := HID.out; omega) HSS.out hsf
    have HRR := hD hR
    clear hR
    go_wp2_with fail
    go_ret
    exact ⟨by rw [HRR.out]; rfl, HB2.out⟩
   | true =>
    have HS2 : Hid (∀ q s, j < q → q < j + 1 + (p + 1) → l[q]? = some s → Oz.safeR s = true) := hD (fun q t h1 h2 ht => by
     by_cases hq : q < j + 1 + p
     ·
      exact HS.out q t h1 hq ht
     ·
      have : q = j + 1 + p := by omega
      subst this
      have := ht.symm.trans HSS.out
      injection this with this
      rw [this]
      exact hsf)
    go_wp2_with fail
    go_roundg f
    case measure => omega
    case rel => exact ⟨p + 1, congrArg (Value.int .i64) (by omega), by omega, by omega, HS2, HB2⟩
  ·
   have hpd : p = d := by omega
   subst hpd
   have p0 : ¬ ((j : Int) + 1 + (p : Int) < (i : Int)) := by have := HID.out; omega
   have hR : Oz.safeB l j i = true := kec (fun q s h1 h2 hs => HS.out q s h1 (by have := HID.out; omega) hs)
   have HRR := hD hR
   clear hR
   go_wp2_with fail
   go_ret
   exact ⟨by rw [HRR.out]; rfl, HB.out⟩
theorem khS (A : Option Addr) (c : Nat) (l : List St) (w : World) (h : ArgPl w A l) (hc : kac l = 0) (j : Nat) (hj : j < l.length) :
  Calls Tryz.prog 147 #[.slice A l.length c, .int .i64 j] w fun e w' => e = .returned (.bool (Rf.onceL l j)) ∧ Below w.heap.size w w' := by
 have HU := hD (khG A c l w h hc)
 have hlen : (kag l).length = l.length := kb4 l _
 obtain ⟨n, hn⟩ := xE l.length
 obtain ⟨u, hu⟩ := xE ((kag l).getD j 0)
 have HG : Hid (∀ w1 g, Blk w1 g 3 (uarr (kag l)) → w1.cell? ⟨g, j, none⟩ = some (.int .i64 u)) := hD (fun w1 g hb => by rw [hb.cell, hu]; exact kco (by omega))
 have HR : Hid (Rf.onceL l j = (u == 1)) := hD (by unfold Rf.onceL; rw [← hu]; rfl)
 rw [← hn] at HU hj ⊢
 have p0 : (j : Int) < (n : Int) := by omega
 have p1 : (0 : Int) ≤ (j : Int) := by omega
 clear h hc hlen hn hu
 go_enter Tryz.func147, Tryz.ntmps147
 go_wp2_with fail
 refine HU.out.mono ?_
 rintro e w1 ⟨rfl, hb1, hb⟩
 have x0 := HG.out w1 _ hb1
 have HB := hD hb
 clear hb1 hb
 go_wp2_with fail
 go_ret
 exact ⟨by rw [HR.out]; rfl, HB.out⟩
theorem kcp (s : St) (A : Option Addr) (n c : Nat) (m : Int) (w : World) : Calls Tryz.prog 181 #[.agg #[.string ⟨s.op.toArray⟩, .slice A n c, .int .i64 s.num, .string ⟨s.text.toArray⟩, .int .i64 s.ty], .int .i64 m] w fun e w' => e = .returned (.bool (decide (s.op = kab ∧ s.num = m))) ∧ Below w.heap.size w w' := by
 obtain ⟨op, args, num, text, ty⟩ := s
 dsimp only
 by_cases h0 : op = kab
 ·
  have hd : decide (op = kab ∧ num = m) = (num == m) := by
   by_cases h1 : num = m
   ·
    rw [decide_eq_true ⟨h0, h1⟩, beq_iff_eq.2 h1]
   ·
    rw [decide_eq_false (fun e => h1 e.2), beq_eq_false_iff_ne.2 h1]
  rw [hd]
  subst h0
  clear hd
  go_enter Tryz.func181, Tryz.ntmps181
  go_wp2_with fail
  go_ret
  exact ⟨rfl, (Below.refl _ _).alloc (Nat.le_refl _) _⟩
 ·
  have hd : decide (op = kab ∧ num = m) = false := decide_eq_false (fun e => h0 e.1)
  rw [hd]
  have e0 : (op == [110, 117, 109, 98, 101, 114]) = false := beq_eq_false_iff_ne.2 h0
  clear hd h0
  go_enter Tryz.func181, Tryz.ntmps181
  go_wp2_with fail
  go_ret
  exact ⟨rfl, (Below.refl _ _).alloc (Nat.le_refl _) _⟩
set_option maxHeartbeats 8000000
structure Vw (w : World) (b o i : Nat) (s : St) (As : Option Addr) (cs : Nat) : Prop where
 lt : b < w.heap.size
 x0 : w.cell? ⟨b, o + i * 5, none⟩ = some (.string ⟨s.op.toArray⟩)
 x1 : w.cell? ⟨b, o + i * 5 + 1, none⟩ = some (.slice As s.args.length cs)
 x2 : w.cell? ⟨b, o + i * 5 + 2, none⟩ = some (.int .i64 s.num)
 x3 : w.cell? ⟨b, o + i * 5 + 3, none⟩ = some (.string ⟨s.text.toArray⟩)
 x4 : w.cell? ⟨b, o + i * 5 + 4, none⟩ = some (.int .i64 s.ty)
 rd : Reads w w.heap.size 1 As s.args.length (s.args.map (Value.int .i64))
theorem Vw.below {w w' : World} {b o i : Nat} {s : St} {As : Option Addr} {cs : Nat} (h : Vw w b o i s As cs) (hb : Below w.heap.size w w') : Vw w' b o i s As cs :=
 ⟨Nat.lt_of_lt_of_le h.lt hb.size, (hb.cell (p := ⟨b, _, none⟩) h.lt).trans h.x0, (hb.cell (p := ⟨b, _, none⟩) h.lt).trans h.x1, (hb.cell (p := ⟨b, _, none⟩) h.lt).trans h.x2, (hb.cell (p := ⟨b, _, none⟩) h.lt).trans h.x3, (hb.cell (p := ⟨b, _, none⟩) h.lt).trans h.x4, (h.rd.below hb).more hb.size⟩
theorem ArgPl.base {w : World} {A : Option Addr} {l : List St} (h : ArgPl w A l) (hl : 0 < l.length) : ∃ b o, A = some ⟨b, o, none⟩ := by
 obtain ⟨b, o, _, _, e, _⟩ := h 0 _ (List.getElem?_eq_getElem hl)
 exact ⟨b, o, e⟩
theorem ArgPl.vw {w : World} {b o i : Nat} {l : List St} (h : ArgPl w (some ⟨b, o, none⟩) l) {s : St} (hs : l[i]? = some s) : ∃ As cs, Vw w b o i s As cs := by
 obtain ⟨b', o', As, cs, e, hl, x0, x1, x2, x3, x4, hr⟩ := h i s hs
 cases e
 exact ⟨As, cs, hl, x0, x1, x2, x3, x4, hr⟩
theorem Vw.ar {w : World} {b o i : Nat} {s : St} {As : Option Addr} {cs : Nat} (h : Vw w b o i s As cs) (hl : 0 < s.args.length) : ∃ ba oa, As = some ⟨ba, oa, none⟩ ∧ ba < w.heap.size ∧ ∀ w', Below w.heap.size w w' → ∀ (k : Nat) (a : Int), s.args[k]? = some a → w'.cell? ⟨ba, oa + k, none⟩ = some (.int .i64 a) := by
 obtain ⟨ba, oa, e, hlt, hc⟩ := h.rd.form hl
 exact ⟨ba, oa, e, hlt, fun w' hb k a ha => (hb.cell (p := ⟨ba, oa + k, none⟩) hlt).trans (hc k _ (by rw [List.getElem?_map, ha]; rfl))⟩
def ovV : Option Nat → Int
 | none => -1
 | some j => (j : Int)
theorem keH {l : List St} (hc : kac l = 0) {i j : Nat} {s : St} (hs : l[i]? = some s) {op below : List UInt8} (hne : s.op = op → 0 < s.args.length) (h : Rf.overL l i op below = some j) :
  s.op = op ∧ ∃ t, l[j]? = some t ∧ j < i ∧ t.op = below ∧ s.args[0]? = some (j : Int) ∧ Oz.arg s 0 = (j : Int) ∧ Oz.at_ l (j : Int) = t := by
 unfold Rf.overL at h
 rw [kad hs] at h
 by_cases h0 : s.op = op
 ·
  obtain ⟨j', t, hj, hji, ht, ha, hat⟩ := kah hc hs (k := 0) (hne h0)
  rw [ha, hat, Int.toNat_natCast] at h
  split at h
  ·
   cases h
  ·
   rename_i hx
   injection h with h
   subst h
   exact ⟨h0, t, ht, hji, Classical.byContradiction (fun e => hx (.inr (.inl e))), hj, ha, hat⟩
 ·
  rw [if_pos (.inl h0)] at h
  cases h
theorem kdt (b o c : Nat) (l : List St) (i : Nat) (s : St) (op below : List UInt8) (w : World) (h : ArgPl w (some ⟨b, o, none⟩) l) (hc : kac l = 0) (hs : l[i]? = some s) (hne : s.op = op → 0 < s.args.length) :
  Calls Tryz.prog 149 #[.slice (some ⟨b, o, none⟩) l.length c, .int .i64 i, .string ⟨op.toArray⟩, .string ⟨below.toArray⟩] w fun e w' => e = .returned (.int .i64 (ovV (Rf.overL l i op below))) ∧ Below w.heap.size w w' := by
 have hil := (gH hs).1
 obtain ⟨R, hR⟩ := xE (Rf.overL l i op below)
 rw [← hR]
 unfold Rf.overL at hR
 rw [kad hs] at hR
 obtain ⟨As, cs, hv⟩ := h.vw hs
 have x0 := hv.x0
 have x1 := hv.x1
 have HB0 := hD (Below.refl w.heap.size w)
 obtain ⟨n, hn⟩ := xE l.length
 have q0 : (i : Int) < (n : Int) := by omega
 have q1 : (0 : Int) ≤ (i : Int) := by omega
 by_cases h0 : s.op = op
 rotate_left
 ·
  have HF : Hid (R = none) := hD (by rw [hR, if_pos (.inl h0)])
  have e0 : (s.op == op) = false := beq_eq_false_iff_ne.2 h0
  rw [← hn]
  clear h hc hs hne hil hR hv x1 h0 hn
  go_enter Tryz.func149, Tryz.ntmps149
  go_wp2_with fail
  go_ret
  exact ⟨by rw [HF.out]; rfl, HB0.out⟩
 have hl := hne h0
 obtain ⟨j, t, hj, hji, ht, ha, hat⟩ := kah hc hs (k := 0) hl
 rw [ha, hat, Int.toNat_natCast] at hR
 obtain ⟨At, ct, hvt⟩ := h.vw ht
 have y0 := hvt.x0
 obtain ⟨ba, oa, rfl, hba, hca⟩ := hv.ar hl
 have z0 : w.cell? ⟨ba, oa, none⟩ = some (.int .i64 j) := hca w (Below.refl _ _) 0 _ hj
 obtain ⟨m, hm⟩ := xE s.args.length
 rw [← hm] at x1 hl
 have q2 : (j : Int) < (n : Int) := by omega
 have q3 : (0 : Int) ≤ (j : Int) := by omega
 have q4 : (0 : Int) < (m : Int) := by omega
 by_cases h1 : t.op = below
 rotate_left
 ·
  have HF : Hid (R = none) := hD (by rw [hR, if_pos (.inr (.inl h1))])
  have e1 : (t.op == below) = false := beq_eq_false_iff_ne.2 h1
  rw [← hn]
  subst h0
  clear h hc hs hne hil hR hv hn h1 hj ht ha hat hvt hca
  go_enter Tryz.func149, Tryz.ntmps149
  go_wp2_with fail
  go_ret
  exact ⟨by rw [HF.out]; rfl, HB0.out⟩
 have hon := khS (some ⟨b, o, none⟩) c l w h hc j (by omega)
 obtain ⟨z, hz⟩ := xE (Rf.onceL l j)
 rw [← hz, ← hn] at hon
 have HON := hD hon
 have HR2 : Hid (R = if z = false then none else some j) := hD (by
  rw [hR, ← hz]
  cases z with
  | false => rw [if_pos (.inr (.inr rfl)), if_pos rfl]
  | true => rw [if_neg (by simp only [not_or, Classical.not_not]; exact ⟨h0, h1, by decide⟩), if_neg (by decide)])
 have HX1 := hD x1
 have HX2 := hD z0
 have hbl := hv.lt
 rw [← hn]
 subst h0 h1
 clear h hc hs hne hil hR hv hn hj ht ha hat hvt hca hon hz
 go_enter Tryz.func149, Tryz.ntmps149
 go_wp2_with fail
 refine HON.out.mono ?_
 rintro e w1 ⟨rfl, hb1⟩
 have HB1 := hD hb1
 have r1 := (hb1.cell (p := ⟨b, o + i * 5 + 1, none⟩) hbl).trans HX1.out
 have r2 := (hb1.cell (p := ⟨ba, oa, none⟩) hba).trans HX2.out
 clear hb1 x0 x1 y0 z0 HON
 cases z with
 | false =>
  have HF : Hid (R = none) := hD (by rw [HR2.out]; rfl)
  go_wp2_with fail
  go_ret
  exact ⟨by rw [HF.out]; rfl, HB1.out⟩
 | true =>
  have HF : Hid (R = some j) := hD (by rw [HR2.out]; rfl)
  go_wp2_with fail
  go_ret
  exact ⟨by rw [HF.out]; rfl, HB1.out⟩
theorem kix (A : Option Addr) (c : Nat) (l : List St) (i : Nat) (s : St) (w : World) (h : ArgPl w A l) (hcap : l.length ≤ c) (hc : kac l = 0) (hs : l[i]? = some s) :
  Calls Tryz.prog 109 #[.slice A l.length c, .int .i64 i] w (kal w (Rf.unusedL l i)) := by
 have hil := (gH hs).1
 have _ := hcap
 obtain ⟨b, o, rfl⟩ := h.base (by omega)
 have hb := kcW hc
 have hlen := hb.len
 obtain ⟨R, hR⟩ := xE (Rf.unusedL l i)
 rw [← hR]
 unfold Rf.unusedL at hR
 rw [kad hs] at hR
 have HU := hD (fun w' (hb' : Below w.heap.size w w') => khG (some ⟨b, o, none⟩) c l w' (h.below hb') hc)
 have hul : (kag l).length = l.length := kb4 l _
 obtain ⟨u, hu⟩ := xE ((kag l).getD i 0)
 have HG : Hid (∀ w1 g, Blk w1 g 3 (uarr (kag l)) → w1.cell? ⟨g, i, none⟩ = some (.int .i64 u)) := hD (fun w1 g hb => by rw [hb.cell, hu]; exact kco (by omega))
 have HRM := hD (fun w' (hb' : Below w.heap.size w w') => kcR (some ⟨b, o, none⟩) c l w' (h.below hb') hb i hil)
 obtain ⟨As, cs, hv⟩ := h.vw hs
 have x0 := hv.x0
 have x1 := hv.x1
 have x2 := hv.x2
 have x3 := hv.x3
 have x4 := hv.x4
 obtain ⟨LR, hLR⟩ := xE (Rf.removeL l i)
 rw [← hu, ← hLR] at hR
 rw [← hLR] at HRM
 have HR := hD hR
 obtain ⟨n, hn⟩ := xE l.length
 have HN := hD hn
 rw [← hn] at HU HRM hil hlen ⊢
 have q0 : (i : Int) < (n : Int) := by omega
 have q1 : (0 : Int) ≤ (i : Int) := by omega
 have hw1 := IntWalk.wrap64_in ((n : Int) - 1) (by omega)
 have HB0 := hD (Below.refl w.heap.size w)
 have HSF := hD (kgu s As s.args.length cs w)
 obtain ⟨z, hz⟩ := xE (Oz.safeR s)
 rw [← hz] at HSF
 have HZ := hD hz
 obtain ⟨m, hm⟩ := xE s.args.length
 rw [← hm] at x1 HSF
 clear h hcap hc hs hb hR hul hu hv hLR hn hz hm
 by_cases h0 : i + 1 = n
 ·
  have he : ((i : Int) == (n : Int) - 1) = true := beq_iff_eq.2 (by omega)
  have HRN : Hid (R = none) := hD (by rw [HR.out, if_pos (.inl (by rw [← HN.out]; exact h0))])
  clear x0 x1 x2 x3 x4
  go_enter Tryz.func109, Tryz.ntmps109
  go_wp2_with fail
  go_ret2
  unfold kal
  rw [HRN.out]
  exact ⟨HB0.out, rfl⟩
 have he : ((i : Int) == (n : Int) - 1) = false := beq_eq_false_iff_ne.2 (by omega)
 go_enter Tryz.func109, Tryz.ntmps109
 go_wp2_with fail
 refine HSF.out.mono ?_
 rintro e w1 ⟨rfl, hb1⟩
 have HB1 := hD hb1
 have HU1 := hD (HU.out w1 hb1)
 clear hb1 HSF HU x0 x1 x2 x3 x4
 cases z with
 | false =>
  have HRN : Hid (R = none) := hD (by rw [HR.out, if_pos (.inr (.inl HZ.out.symm))])
  go_wp2_with fail
  go_ret2
  unfold kal
  rw [HRN.out]
  exact ⟨HB1.out, rfl⟩
 | true =>
  go_wp2_with fail
  refine HU1.out.mono ?_
  rintro e w2 ⟨rfl, hbu, hb2⟩
  have HB2 := hD (HB1.out.trans (hb2.mono HB1.out.size))
  have y0 := HG.out w2 _ hbu
  have HRM2 := hD (HRM.out w2 HB2.out)
  clear hb2 hbu HU1 HRM
  by_cases hu0 : u = 0
  ·
   have e1 : (u == 0) = true := beq_iff_eq.2 hu0
   have HRN : Hid (R = some LR) := hD (by rw [HR.out, if_neg (by simp only [not_or, Classical.not_not]; exact ⟨by rw [← HN.out]; exact h0, by rw [← HZ.out]; decide, hu0⟩)])
   go_wp2_with fail
   refine HRM2.out.mono ?_
   rintro e wz ⟨hbz, Az, cz, he, hcz, hpz⟩
   have HBZ := hD (HB2.out.trans (hbz.mono HB2.out.size))
   exact z3
  ·
   have e1 : (u == 0) = false := beq_eq_false_iff_ne.2 hu0
   have HRN : Hid (R = none) := hD (by rw [HR.out, if_pos (.inr (.inr hu0))])
   go_wp2_with fail
   go_ret2
   unfold kal
   rw [HRN.out]
   exact ⟨HB2.out, rfl⟩
end Go.Proofs.YtamhdmkolfmmdaaGreatDoor
