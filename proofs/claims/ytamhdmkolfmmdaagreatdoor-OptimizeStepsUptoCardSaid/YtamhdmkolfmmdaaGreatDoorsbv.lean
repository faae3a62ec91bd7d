/- The walks of the document's apply, Step and Of (printed by gen_rva.py). The walk of the document's Of. -/
import Derived.Test.YtamhdmkolfmmdaaGreatDoorsbh
import Derived.Test.YtamhdmkolfmmdaaGreatDoorsbp
import Derived.Test.YtamhdmkolfmmdaaGreatDoorsbo
import Derived.Test.YtamhdmkolfmmdaaGreatDoorsbr
import Derived.Test.YtamhdmkolfmmdaaGreatDoorsbu
import Derived.Test.YtamhdmkolfmmdaaGreatDoorsbn
import Derived.Test.YtamhdmkolfmmdaaGreatDoorsaa
set_option linter.unusedVariables false
set_option linter.unusedSimpArgs false
namespace Go.Proofs.YtamhdmkolfmmdaaGreatDoor
open Go.RowKit
set_option maxRecDepth 100000
set_option maxHeartbeats 8000000
theorem y35 {P : Prop} (h : P := by
 have _ := hcap
 have _ := htx
 first
 | guard_hyp t195q0
   have HR := hD (kf6 A c l i s w h hcap hc hs)
   obtain ⟨R, hR⟩ := xE (Rf.firstFindL l i)
 | guard_hyp t195q1
   have HR := hD (klz A c l i s w htx h hc hs)
   obtain ⟨R, hR⟩ := xE (Rf.foldL l i)
 | guard_hyp t195q2
   have HR := hD (kkg A c l i s w h hcap hc hs)
   obtain ⟨R, hR⟩ := xE (Rf.shareL l i)
 | guard_hyp t195q3
   have HR := hD (kix A c l i s w h hcap hc hs)
   obtain ⟨R, hR⟩ := xE (Rf.unusedL l i)
 | guard_hyp t195q4
   have HR := hD (kiC A c l i s w h hcap hc hs)
   obtain ⟨R, hR⟩ := xE (Rf.lenRepL l i)
 | guard_hyp t195q5
   have HR := hD (kiB A c l i s w h hcap hc hs)
   obtain ⟨R, hR⟩ := xE (Rf.lenSumL l i)
 | guard_hyp t195q6
   have HR := hD (kiD A c l i s w h hcap hc hs)
   obtain ⟨R, hR⟩ := xE (Rf.lenCutL l i)
 | guard_hyp t195q7
   have HR := hD (kiI A c l i s w h hcap hc hs)
   obtain ⟨R, hR⟩ := xE (Oz.commonR l i)
 | guard_hyp t195q8
   have HR := hD (kiA A c l i s w h hcap hc hs)
   obtain ⟨R, hR⟩ := xE (Rf.negateL l i)
 | guard_hyp t195q9
   have HR := hD (khD A c l i s w h hcap hc hs)
   obtain ⟨R, hR⟩ := xE (Rf.matchesL l i)
 | have HR := hD (khC A c l i s w h hcap hc hs)
   obtain ⟨R, hR⟩ := xE (Rf.neutralL l i)
 rw [← hR] at HR ⊢
 obtain ⟨n, hn⟩ := xE l.length
 rw [← hn] at HR ⊢
 have HB0 := hD (Below.refl w.heap.size w)
 clear h hcap hc hs hR hn htx
 go_enter Tryz.func62, Tryz.ntmps62
 go_wp2_with fail
 refine HR.out.mono ?_
 rintro e wz ⟨hbz, hz⟩
 have HBZ := hD (HB0.out.trans (hbz.mono HB0.out.size))
 clear hbz
 cases R with
 | none =>
  exact z23
 | some L =>
  exact z7) : P := h
theorem khF (A : Option Addr) (c : Nat) (l : List St) (i : Nat) (s : St) (w : World) (htx : TxB l) (h : ArgPl w A l) (hcap : l.length ≤ c) (hc : kac l = 0) (hs : l[i]? = some s) :
  Calls Tryz.prog 62 #[.slice A l.length c, .string ⟨#[115, 104, 97, 114, 101]⟩, .int .i64 i] w (kal w (Rf.shareL l i)) := by
 have t195q2 := True.intro
 exact y35
theorem kiJ (A : Option Addr) (c : Nat) (l : List St) (i : Nat) (s : St) (w : World) (htx : TxB l) (h : ArgPl w A l) (hcap : l.length ≤ c) (hc : kac l = 0) (hs : l[i]? = some s) :
  Calls Tryz.prog 62 #[.slice A l.length c, .string ⟨#[102, 111, 108, 100]⟩, .int .i64 i] w (kal w (Rf.foldL l i)) := by
 have t195q1 := True.intro
 exact y35
theorem kga (A : Option Addr) (c : Nat) (l : List St) (i : Nat) (s : St) (w : World) (htx : TxB l) (h : ArgPl w A l) (hcap : l.length ≤ c) (hc : kac l = 0) (hs : l[i]? = some s) :
  Calls Tryz.prog 62 #[.slice A l.length c, .string ⟨#[110, 101, 117, 116, 114, 97, 108]⟩, .int .i64 i] w (kal w (Rf.neutralL l i)) := by
 exact y35
theorem kgW (A : Option Addr) (c : Nat) (l : List St) (i : Nat) (s : St) (w : World) (htx : TxB l) (h : ArgPl w A l) (hcap : l.length ≤ c) (hc : kac l = 0) (hs : l[i]? = some s) :
  Calls Tryz.prog 62 #[.slice A l.length c, .string ⟨#[110, 101, 103, 97, 116, 101]⟩, .int .i64 i] w (kal w (Rf.negateL l i)) := by
 have t195q8 := True.intro
 exact y35
theorem kg0 (A : Option Addr) (c : Nat) (l : List St) (i : Nat) (s : St) (w : World) (htx : TxB l) (h : ArgPl w A l) (hcap : l.length ≤ c) (hc : kac l = 0) (hs : l[i]? = some s) :
  Calls Tryz.prog 62 #[.slice A l.length c, .string ⟨#[99, 111, 109, 109, 111, 110]⟩, .int .i64 i] w (kal w (Oz.commonR l i)) := by
 have t195q7 := True.intro
 exact y35
theorem kgb (A : Option Addr) (c : Nat) (l : List St) (i : Nat) (s : St) (w : World) (htx : TxB l) (h : ArgPl w A l) (hcap : l.length ≤ c) (hc : kac l = 0) (hs : l[i]? = some s) :
  Calls Tryz.prog 62 #[.slice A l.length c, .string ⟨#[109, 97, 116, 99, 104, 101, 115]⟩, .int .i64 i] w (kal w (Rf.matchesL l i)) := by
 have t195q9 := True.intro
 exact y35
theorem kfs (A : Option Addr) (c : Nat) (l : List St) (i : Nat) (s : St) (w : World) (htx : TxB l) (h : ArgPl w A l) (hcap : l.length ≤ c) (hc : kac l = 0) (hs : l[i]? = some s) :
  Calls Tryz.prog 62 #[.slice A l.length c, .string ⟨#[102, 105, 114, 115, 116, 102, 105, 110, 100]⟩, .int .i64 i] w (kal w (Rf.firstFindL l i)) := by
 have t195q0 := True.intro
 exact y35
theorem kgZ (A : Option Addr) (c : Nat) (l : List St) (i : Nat) (s : St) (w : World) (htx : TxB l) (h : ArgPl w A l) (hcap : l.length ≤ c) (hc : kac l = 0) (hs : l[i]? = some s) :
  Calls Tryz.prog 62 #[.slice A l.length c, .string ⟨#[108, 101, 110, 99, 117, 116]⟩, .int .i64 i] w (kal w (Rf.lenCutL l i)) := by
 have t195q6 := True.intro
 exact y35
theorem kgX (A : Option Addr) (c : Nat) (l : List St) (i : Nat) (s : St) (w : World) (htx : TxB l) (h : ArgPl w A l) (hcap : l.length ≤ c) (hc : kac l = 0) (hs : l[i]? = some s) :
  Calls Tryz.prog 62 #[.slice A l.length c, .string ⟨#[108, 101, 110, 115, 117, 109]⟩, .int .i64 i] w (kal w (Rf.lenSumL l i)) := by
 have t195q5 := True.intro
 exact y35
theorem kgY (A : Option Addr) (c : Nat) (l : List St) (i : Nat) (s : St) (w : World) (htx : TxB l) (h : ArgPl w A l) (hcap : l.length ≤ c) (hc : kac l = 0) (hs : l[i]? = some s) :
  Calls Tryz.prog 62 #[.slice A l.length c, .string ⟨#[108, 101, 110, 114, 101, 112]⟩, .int .i64 i] w (kal w (Rf.lenRepL l i)) := by
 have t195q4 := True.intro
 exact y35
theorem kgV (A : Option Addr) (c : Nat) (l : List St) (i : Nat) (s : St) (w : World) (htx : TxB l) (h : ArgPl w A l) (hcap : l.length ≤ c) (hc : kac l = 0) (hs : l[i]? = some s) :
  Calls Tryz.prog 62 #[.slice A l.length c, .string ⟨#[117, 110, 117, 115, 101, 100]⟩, .int .i64 i] w (kal w (Rf.unusedL l i)) := by
 have t195q3 := True.intro
 exact y35
theorem kkl (A : Option Addr) (c : Nat) (l : List St) (i k : Nat) (s : St) (name : List UInt8) (w : World) (htx : TxB l) (h : ArgPl w A l) (hcap : l.length ≤ c) (hc : kac l = 0) (hs : l[i]? = some s) (hk : namesR[k]? = some name) :
  Calls Tryz.prog 62 #[.slice A l.length c, .string ⟨name.toArray⟩, .int .i64 i] w (kal w (Rf.applyL k l i)) := by
 have hkl : k < 11 := (gH hk).1
 have hk' : k = 0 ∨ k = 1 ∨ k = 2 ∨ k = 3 ∨ k = 4 ∨ k = 5 ∨ k = 6 ∨ k = 7 ∨ k = 8 ∨ k = 9 ∨ k = 10 := by omega
 rcases hk' with e | e | e | e | e | e | e | e | e | e | e
 ·
  subst e
  injection hk with hk
  subst hk
  exact khF A c l i s w htx h hcap hc hs
 ·
  subst e
  injection hk with hk
  subst hk
  exact kiJ A c l i s w htx h hcap hc hs
 ·
  subst e
  injection hk with hk
  subst hk
  exact kga A c l i s w htx h hcap hc hs
 ·
  subst e
  injection hk with hk
  subst hk
  exact kgW A c l i s w htx h hcap hc hs
 ·
  subst e
  injection hk with hk
  subst hk
  exact kg0 A c l i s w htx h hcap hc hs
 ·
  subst e
  injection hk with hk
  subst hk
  exact kgb A c l i s w htx h hcap hc hs
 ·
  subst e
  injection hk with hk
  subst hk
  exact kfs A c l i s w htx h hcap hc hs
 ·
  subst e
  injection hk with hk
  subst hk
  exact kgZ A c l i s w htx h hcap hc hs
 ·
  subst e
  injection hk with hk
  subst hk
  exact kgX A c l i s w htx h hcap hc hs
 ·
  subst e
  injection hk with hk
  subst hk
  exact kgY A c l i s w htx h hcap hc hs
 ·
  subst e
  injection hk with hk
  subst hk
  exact kgV A c l i s w htx h hcap hc hs
def StRel (w : World) (l : List St) (k f : Nat) (v : Value) (wr : World) : Prop := ∃ p : Nat, v = .int .i64 p ∧ p ≤ l.length ∧ l.length - p < f ∧ Hid (∀ (q x : Nat), q < p → (List.range l.length)[q]? = some x → Rf.applyL k l x = none) ∧ Hid (Below w.heap.size w wr)
def StpR (w : World) (l : List St) (r : Option (List St)) (e : Ending) (w' : World) : Prop := Below w.heap.size w w' ∧ ∃ A c, e = .returned (.tuple #[.slice A (r.getD l).length c, .bool r.isSome]) ∧ (r.getD l).length ≤ c ∧ ArgPl w' A (r.getD l)
theorem kgv (A : Option Addr) (c : Nat) (l : List St) (k : Nat) (name : List UInt8) (w : World) (htx : TxB l) (h : ArgPl w A l) (hcap : l.length ≤ c) (hc : kac l = 0) (hk : namesR[k]? = some name) :
  Calls Tryz.prog 36 #[.slice A l.length c, .string ⟨name.toArray⟩] w (StpR w l (Rf.stepL k l)) := by
 obtain ⟨R, hR⟩ := xE (Rf.stepL k l)
 rw [← hR]
 unfold Rf.stepL at hR
 have HR := hD hR
 have HA := hD h
 have HTX := hD htx
 have HCAP := hD hcap
 have HC := hD hc
 have HK := hD hk
 have hl0 := (check_fit.1 hc).1
 have hlen := (kcW hc).len
 obtain ⟨n, hn⟩ := xE l.length
 have HN := hD hn
 have HL0 : Hid (0 < l.length) := hD hl0
 have hn0 : n ≤ 10000 := by omega
 rw [← hn]
 clear h hcap hc hk hR hn hl0 hlen htx
 go_enter Tryz.func36, Tryz.ntmps36
 go_wp2_with fail
 go_loopg [6, 7, 8, 11] (n + 1) (fun f _ _ _ v wr => StRel w l k f v wr)
 case atStart => exact ⟨0, rfl, by omega, by have := HN.out; omega, hD (fun q x hq => by omega), hD (Below.refl _ _)⟩
 case round =>
  obtain ⟨p, rfl, hp, hpf, HNO, HB⟩ := hrel
  obtain ⟨f, rfl⟩ : ∃ f, gk = f + 1 := ⟨gk - 1, by omega⟩
  rw [← HN.out] at hp hpf
  by_cases hlt : p < n
  ·
   obtain ⟨s, hs⟩ : ∃ s, l[p]? = some s := ⟨l[p]'(by rw [← HN.out]; exact hlt), List.getElem?_eq_getElem _⟩
   have p0 : (p : Int) < (n : Int) := by omega
   have p1 : (0 : Int) ≤ (p : Int) := by omega
   have hap := kkl A c l p k s name wr HTX.out (HA.out.below HB.out) HCAP.out HC.out hs HK.out
   obtain ⟨r, hr⟩ := xE (Rf.applyL k l p)
   rw [← hr, ← HN.out] at hap
   have HAP := hD hap
   have HRR := hD hr
   have HRG : Hid ((List.range l.length)[p]? = some p) := hD (by rw [List.getElem?_range (by rw [← HN.out]; exact hlt)])
   clear hap hr hs
   go_wp2_with fail
   refine HAP.out.mono ?_
   rintro e w2 ⟨hb2, h2⟩
   have HB2 := hD (HB.out.trans (hb2.mono HB.out.size))
   clear hb2 HAP
   cases r with
   | none =>
    have h2 : e = .returned (.tuple #[.slice none 0 0, .bool false]) := h2
    subst h2
    have HNO2 : Hid (∀ (q x : Nat), q < p + 1 → (List.range l.length)[q]? = some x → Rf.applyL k l x = none) := hD (fun q x hq hx => by
     by_cases e : q = p
     ·
      subst e
      have := hx.symm.trans HRG.out
      injection this with this
      rw [this]
      exact HRR.out.symm
     ·
      exact HNO.out q x (by omega) hx)
    go_wp2_with fail
    go_roundg f
    case measure => omega
    case rel => exact ⟨p + 1, by go_num, by rw [← HN.out]; omega, by rw [← HN.out]; omega, HNO2, HB2⟩
   | some L =>
    obtain ⟨Az, cz, he, hcz, hpz⟩ := h2
    have HRN : Hid (R = some L) := hD (by rw [HR.out]; exact fs_at HNO.out HRG.out HRR.out.symm)
    obtain ⟨mz, hmz⟩ := xE L.length
    rw [← hmz] at he
    subst he
    have HPZ := hD hpz
    have HCZ := hD hcz
    have HMZ := hD hmz
    clear hpz hcz hmz
    go_wp2_with fail
    go_ret2
    unfold StpR
    rw [HRN.out]
    exact ⟨HB2.out, Az, cz, by rw [HMZ.out]; rfl, HCZ.out, HPZ.out⟩
  ·
   have hpn : p = n := by omega
   subst hpn
   have p0 : ¬ ((p : Int) < (p : Int)) := by omega
   have HRN : Hid (R = none) := hD (by rw [HR.out]; exact kgk (fun q x hq hx => HNO.out q x (by rw [List.length_range, ← HN.out] at hq; exact hq) hx))
   have hcy := kdy A c l wr (HA.out.below HB.out) (kcW HC.out) HL0.out
   rw [← HN.out] at hcy
   have HCY := hD hcy
   clear hcy
   go_wp2_with fail
   refine HCY.out.mono ?_
   rintro e w2 ⟨hb2, gs, cap, vs, he2, hcap2, hx2⟩
   rw [← HN.out] at he2
   subst he2
   have HB2 := hD (HB.out.trans (hb2.mono HB.out.size))
   have HX2 := hD hx2
   have HCP := hD hcap2
   clear hb2 hx2 hcap2 HCY
   go_wp2_with fail
   go_ret2
   unfold StpR
   rw [HRN.out]
   exact ⟨HB2.out, some ⟨gs, 0, none⟩, cap, by rw [show ((none : Option (List St)).getD l) = l from rfl, ← HN.out]; rfl, HCP.out, HX2.out.arg⟩
def OuRfOf (w : World) (l : List St) (f : Nat) (v b : Value) (wr : World) : Prop := ∃ (lc : List St) (A : Option Addr) (c : Nat) (z : Bool), v = .slice A lc.length c ∧ b = .bool z ∧ (kap lc).toNat + (if z then 1 else 0) < f ∧ Hid (lc.length ≤ c) ∧ Hid (kac lc = 0) ∧ Hid (TxB lc) ∧ Hid (ofR lc = ofR l) ∧ Hid (z = false → Oz.anyR lc = none) ∧ Hid (ArgPl wr A lc) ∧ Hid (Below w.heap.size w wr)
def IsRfOf (wb : World) (lc : List St) (A : Option Addr) (n c f : Nat) (v b i : Value) (wr : World) : Prop := ∃ k : Nat, v = .slice A n c ∧ b = .bool false ∧ i = .int .i64 k ∧ k ≤ 11 ∧ 11 - k < f ∧ Hid (∀ (q x : Nat), q < k → (List.range 11)[q]? = some x → Oz.applyR x lc = none) ∧ Hid (Below wb.heap.size wb wr)
theorem rOf_any (A : Option Addr) (c : Nat) (l : List St) (w : World) (htx : TxB l) (h : ArgPl w A l) (hcap : l.length ≤ c) (hc : kac l = 0) :
  Calls Tryz.prog 14 #[.slice A l.length c] w (kbd w (ofR l)) := by
 obtain ⟨B, hB⟩ := xE ((kap l).toNat)
 have HA := hD h
 have HCAP := hD hcap
 have HC := hD hc
 have HBB := hD hB
 have HB0 := hD (Below.refl w.heap.size w)
 have HTX := hD htx
 clear h hcap hc hB htx
 go_enter Tryz.func14, Tryz.ntmps14
 go_wp2_with fail
 go_loopg [0, 3, 5, 6, 7] (B + 2) (fun f v b _ _ _ wr => OuRfOf w l f v b wr)
 case atStart => exact ⟨l, A, c, true, rfl, rfl, by have := HBB.out; simp; omega, HCAP, HC, HTX, hD rfl, hD (fun e => by cases e), HA, HB0⟩
 case round =>
  clear HA HCAP HC HBB HB0 HTX
  obtain ⟨lc, Ac, cc, z, rfl, rfl, hf, HCAP, HC, HTX, HOF, HST, HA, HB⟩ := hrel
  obtain ⟨f, rfl⟩ : ∃ f, gk = f + 1 := ⟨gk - 1, by omega⟩
  obtain ⟨n, hn⟩ := xE lc.length
  rw [← hn]
  have HN := hD hn
  have HF := hD hf
  clear hn hf
  cases z with
  | false =>
   have hl0 := (check_fit.1 HC.out).1
   have hcy := kdy Ac cc lc wr HA.out (kcW HC.out) hl0
   rw [← HN.out] at hcy
   have HCY := hD hcy
   have HEQ : Hid (ofR l = lc) := hD (by rw [← HOF.out]; exact kft (HST.out rfl))
   clear hcy hl0
   go_wp2_with fail
   refine HCY.out.mono ?_
   rintro e w2 ⟨hb2, gs, cap, vs, he2, hcap2, hx2⟩
   rw [← HN.out] at he2
   subst he2
   have HB2 := hD (HB.out.trans (hb2.mono HB.out.size))
   have HX2 := hD hx2
   have HCP := hD hcap2
   clear hb2 hx2 hcap2 HCY
   go_wp2_with fail
   go_ret
   unfold kbd
   rw [HEQ.out]
   exact ⟨HB2.out, some ⟨gs, 0, none⟩, cap, by rw [← HN.out]; rfl, HCP.out, HX2.out.arg⟩
  | true =>
   obtain ⟨wo, hwo⟩ := xE wr
   subst hwo
   go_wp2_with fail
   refine (kfN _).mono ?_
   rintro e wb ⟨rfl, hnb, hbb⟩
   have HBb := hD (HB.out.trans (hbb.mono HB.out.size))
   have HAb := hD (HA.out.below hbb)
   have HNb := hD hnb
   clear hbb hnb
   go_wp2_with fail
   go_loopg [0, 3, 5, 6, 7, 11] (11 + 1) (fun f v b _ _ _ ix wr => IsRfOf wb lc Ac n cc f v b ix wr)
   case atStart => exact ⟨0, rfl, rfl, rfl, by omega, by omega, hD (fun q x hq => by omega), hD (Below.refl _ _)⟩
   case round =>
    obtain ⟨k, rfl, rfl, rfl, hk, hkf, HNO, HBI⟩ := hrel
    obtain ⟨f2, rfl⟩ : ∃ f2, gk = f2 + 1 := ⟨gk - 1, by omega⟩
    by_cases hlt : k < 11
    ·
     obtain ⟨name, hname⟩ : ∃ s, namesR[k]? = some s := ⟨namesR[k]'hlt, List.getElem?_eq_getElem _⟩
     have c0 := ((HNb.out.below HBI.out HNb.out.lt).cell k).trans (kdF hname)
     have p0 : (k : Int) < 11 := by omega
     have p1 : (0 : Int) ≤ (k : Int) := by omega
     have hst := kgv Ac cc lc k name wr HTX.out (HAb.out.below HBI.out) HCAP.out HC.out hname
     rw [khw HC.out hlt] at hst
     obtain ⟨r, hr⟩ := xE (Oz.applyR k lc)
     rw [← hr, ← HN.out] at hst
     have HSTP := hD hst
     have HRR := hD hr
     have HRG : Hid ((List.range 11)[k]? = some k) := hD (by rw [List.getElem?_range hlt])
     clear hst hr hname
     go_wp2_with fail
     refine HSTP.out.mono ?_
     rintro e w2 ⟨hb2, A2, c2, he2, hcap2, hp2⟩
     have HBI2 := hD (HBI.out.trans (hb2.mono HBI.out.size))
     clear hb2 HSTP c0
     cases r with
     | none =>
      have he2 : e = .returned (.tuple #[.slice A2 lc.length c2, .bool false]) := he2
      rw [← HN.out] at he2
      subst he2
      have HNO2 : Hid (∀ (q x : Nat), q < k + 1 → (List.range 11)[q]? = some x → Oz.applyR x lc = none) := hD (fun q x hq hx => by
       by_cases e : q = k
       ·
        subst e
        have := hx.symm.trans HRG.out
        injection this with this
        rw [this]
        exact HRR.out.symm
       ·
        exact HNO.out q x (by omega) hx)
      clear hp2 hcap2
      go_wp2_with fail
      go_roundg f2
      case measure => omega
      case rel => exact ⟨k + 1, rfl, rfl, by go_num, by omega, by omega, HNO2, HBI2⟩
     | some L =>
      have he2 : e = .returned (.tuple #[.slice A2 L.length c2, .bool true]) := he2
      have HAN : Hid (Oz.anyR lc = some L) := hD (by unfold Oz.anyR; exact fs_at HNO.out HRG.out HRR.out.symm)
      have hd := kdY HC.out HRR.out.symm
      have HCL := hD hd.check
      have HCOST := hD hd.cost
      have HOF2 : Hid (ofR L = ofR l) := hD (by rw [← HOF.out]; exact (kfu HC.out HAN.out).symm)
      have HTX2 := hD (kk1 HTX.out HRR.out.symm)
      have HP2 := hD hp2
      have HCP2 := hD hcap2
      obtain ⟨m, hm⟩ := xE L.length
      rw [← hm] at he2
      subst he2
      have HM := hD hm
      clear hp2 hcap2 hd hm
      go_wp2_with fail
      go_roundg f
      case measure => omega
      case rel => exact ⟨L, A2, c2, true, by rw [← HM.out], rfl, by (have := HF.out; have := HCOST.out; have := kbl L; simp at *; omega), HCP2, HCL, HTX2, HOF2, hD (fun e => by cases e), HP2, hD (HBb.out.trans (HBI2.out.mono HBb.out.size))⟩
    ·
     have hk11 : k = 11 := by omega
     subst hk11
     have HAN : Hid (Oz.anyR lc = none) := hD (by unfold Oz.anyR; exact kgk (fun q x hq hx => HNO.out q x (by simpa using hq) hx))
     go_wp2_with fail
     go_roundg f
     case measure => omega
     case rel => exact ⟨lc, Ac, cc, false, by rw [← HN.out], rfl, by (have := HF.out; simp at *; omega), HCAP, HC, HTX, HOF, hD (fun _ => HAN.out), hD (HAb.out.below HBI.out), hD (HBb.out.trans (HBI.out.mono HBb.out.size))⟩
end Go.Proofs.YtamhdmkolfmmdaaGreatDoor
