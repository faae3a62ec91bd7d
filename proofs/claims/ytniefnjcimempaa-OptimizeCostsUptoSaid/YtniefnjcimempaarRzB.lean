/- A region that draws its order and ends in a store that waits for all: what the loads read need not hold behind it. No function of the program is named. The walk of steps of the laws on plans: the program's plan of the steps that came in. The walk of to of the laws on optimize: the program's plan of the steps that came in (printed by gen_ort.py out of XStp). The walk of from of the laws on optimize: the document's steps of a plan of the program (printed by gen_frm.py out of XOrT). -/
import Derived.OrdersHeld
import Derived.Deep.RegionHeld
import Derived.Test.YtniefnjcimempaarRm
import Derived.Deep.RegionHeld3
import Derived.Deep.LoopGhost
import Derived.IntWalk
import Derived.Deep.Cut
namespace Go.Proofs.Ytniefnjcimempaa
open Go
section
variable {P : Program} {ops : Array Oper} {Q : Exit → Act → World → Prop} {md : Region.Mode} {S : World → Prop}
def wpAnyZ (P : Program) (md : Region.Mode) (ops : Array Oper) (Q : Exit → Act → World → Prop) (S : World → Prop) (z : Nat) : Nat → Array Bool → Act → World → Prop
  | 0, listed, a, w => Region.ready md ops listed = [] ∧ Q .normal a w
  | fuel + 1, listed, a, w =>
    (Region.ready md ops listed = [] → Q .normal a w) ∧
    ∀ i ∈ Region.ready md ops listed, wpOp P ops Q i (fun a' w' => (i ≠ z → S w') ∧ wpAnyZ P md ops Q S z fuel (listed.setIfInBounds i true) a' w') a w
theorem wpAny_of_Z {z : Nat} : ∀ (fuel : Nat) (listed : Array Bool) (a : Act) (w : World), wpAnyZ P md ops Q S z fuel listed a w → wpAny P md ops Q fuel listed a w
  | 0, _, _, _, h => h
  | fuel + 1, _, _, _, h => ⟨h.1, fun i hi => wpOp_mono (fun a' w' h' => wpAny_of_Z fuel _ a' w' h'.2) (h.2 i hi)⟩
def sinkZ (md : Region.Mode) (ops : Array Oper) (z i : Nat) : Bool := match ops[z]? with
  | some oz => oz.after.any fun e => Region.binds md e && e.on == i
  | none => false
theorem sinkZ_spec {z i : Nat} (h : sinkZ md ops z i = true) : ∃ oz, ops[z]? = some oz ∧ ∃ e ∈ oz.after, Region.binds md e = true ∧ e.on = i := by
  unfold sinkZ at h
  split at h
  · rename_i oz hz
    obtain ⟨e, he, hb⟩ := Array.any_eq_true'.1 h
    simp only [Bool.and_eq_true, beq_iff_eq] at hb
    exact ⟨oz, hz, e, he, hb.1, hb.2⟩
  · cases h
theorem wpAnyZ_first {i z : Nat} {oi : Oper} {v : Value} (hi : ops[i]? = some oi) (hz : sinkZ md ops z i = true) (hsel : ∀ (j : Nat) (o : Oper) cs b, ops[j]? = some o → o.op ≠ .select cs b)
    (hQ : ∀ c a w, Q (.panic c) (a.put oi.dst v) w → Q (.panic c) a w) :
    ∀ (fuel : Nat) (listed : Array Bool) (a : Act) (w : World),
      (∀ j oj, ops[j]? = some oj → j ≠ i → listed.getD j true = false → (∀ e ∈ oj.after, Region.binds md e = true → e.on ≠ i) → oi.apart ops oj = true) →
      i ∈ Region.ready md ops listed → YieldsIf P ops S oi v a → S w →
      wpAnyZ P md ops Q S z fuel (listed.setIfInBounds i true) (a.put oi.dst v) w → wpAnyZ P md ops Q S z (fuel + 1) listed a w := by
  intro fuel
  induction fuel with
  | zero =>
    intro listed a w _ hr hy hS H
    refine ⟨fun h => (by rw [h] at hr; cases hr), fun j hj => ?_⟩
    by_cases hji : j = i
    · subst hji; exact hy.wpOp hi hS ⟨fun _ => hS, H⟩
    · have := ready_mono hj hji
      rw [H.1] at this
      cases this
  | succ fuel ih =>
    intro listed a w hfree hr hy hS H
    refine ⟨fun h => (by rw [h] at hr; cases hr), fun j hj => ?_⟩
    by_cases hji : j = i
    · subst hji; exact hy.wpOp hi hS ⟨fun _ => hS, H⟩
    · have h1 := H.2 j (ready_mono hj hji)
      obtain ⟨hjun, oj, hoj, hall⟩ := mem_ready.1 hj
      have hnot : ∀ e ∈ oj.after, Region.binds md e = true → e.on ≠ i := fun e he hb heq => by
        have h1 := hall e he hb
        have h0 := (mem_ready.1 hr).1
        rw [heq] at h1
        rcases Nat.lt_or_ge i listed.size with h' | h'
        · simp [h'] at h0 h1; rw [h0] at h1; cases h1
        · simp [Array.getElem?_eq_none h'] at h1
      have hjz : j ≠ z := fun e => by
        subst e
        obtain ⟨oz, h2, e, he, hb, heq⟩ := sinkZ_spec hz
        rw [hoj] at h2
        injection h2 with h2
        subst h2
        exact hnot e he hb heq
      have h2 := wpOp_putIf hoj (hfree j oj hoj hji hjun hnot) (fun cs b => hsel i oi cs b hi) (fun cs b => hsel j oj cs b hoj) hQ hy (wpOp_mono (fun a' w' h => (⟨h.1 hjz, h⟩ : S w' ∧ _)) h1)
      have hfree' : ∀ k ok, ops[k]? = some ok → k ≠ i → (listed.setIfInBounds j true).getD k true = false →
          (∀ e ∈ ok.after, Region.binds md e = true → e.on ≠ i) → oi.apart ops ok = true := fun k ok hk hki hun hno => by
        refine hfree k ok hk hki ?_ hno
        by_cases hjk : j = k
        · subst hjk; exact hjun
        · rw [getD_set_ne true hjk] at hun; exact hun
      refine wpOp_mono (fun a' w' h3 => ⟨fun _ => h3.2.1, ih (listed.setIfInBounds j true) a' w' hfree' (ready_mono hr (Ne.symm hji)) h3.1 h3.2.1 ?_⟩) h2
      rw [Array.setIfInBounds_comm _ _ hji]
      exact h3.2.2.2
theorem wpAnyZ_take {i z : Nat} {oi : Oper} {v : Value} {fuel : Nat} {listed : Array Bool} {a : Act} {w : World} (hi : ops[i]? = some oi) (hz : sinkZ md ops z i = true)
    (hs : Region.noSelect ops = true) (hf : Region.free md ops listed i = true) (hr : (Region.ready md ops listed).contains i = true)
    (hQ : ∀ c a w, Q (.panic c) (a.put oi.dst v) w → Q (.panic c) a w) (hy : YieldsIf P ops S oi v a) (hS : S w)
    (h : wpAnyZ P md ops Q S z fuel (listed.setIfInBounds i true) (a.put oi.dst v) w) : wpAnyZ P md ops Q S z (fuel + 1) listed a w :=
  wpAnyZ_first hi hz (Region.noSelect_spec hs) hQ fuel listed a w (Region.free_spec hi hf) (by simpa using hr) hy hS h
theorem wpAnyZ_one {i z : Nat} {o : Oper} {fuel : Nat} {listed : Array Bool} {a : Act} {w : World} (hr : Region.ready md ops listed = [i]) (ho : ops[i]? = some o)
    (h : ∀ K' : Act → World → Prop, Shut (∀ a w, (i ≠ z → S w) → wpAnyZ P md ops Q S z fuel (listed.setIfInBounds i true) a w → K' a w) → if Region.wanted o (yielded ops a.tmps) = true then Oper.wp P o a w K' Q else K' (a.put o.dst undef) w) : wpAnyZ P md ops Q S z (fuel + 1) listed a w :=
  by
  refine ⟨fun h0 => (by rw [hr] at h0; cases h0), fun j hj => ?_⟩
  rw [hr] at hj
  have : j = i := by simpa using hj
  subst this
  exact wpOp_step ho (fun K' hK => h K' (fun a w hS hW => hK a w ⟨hS, hW⟩))
theorem wpAnyZ_done {z : Nat} {listed : Array Bool} {a : Act} {w : World} (hr : Region.ready md ops listed = []) (h : Q .normal a w) : ∀ fuel, wpAnyZ P md ops Q S z fuel listed a w
  | 0 => ⟨hr, h⟩
  | _ + 1 => ⟨fun _ => h, by rw [hr]; simp⟩
theorem wp_region_Z {id z : Nat} {a : Act} {w : World} (hm : P.follows .mixedOrders = true) (hS : S w.drew)
    (h : S w.drew → wpAnyZ P .any ops Q S z ops.size (Array.replicate ops.size false) a w.drew) : (Code.region id ops true).wp P Q a w :=
  wp_region_any hm (wpAny_of_Z _ _ _ _ (h hS))
end
end Go.Proofs.Ytniefnjcimempaa
namespace Go.Proofs.Ytniefnjcimempaa
open Go.RowKit
def ArgPl (w : World) (A : Option Addr) (l : List St) : Prop := ∀ (i : Nat) (s : St), l[i]? = some s → ∃ b o As c, A = some ⟨b, o, none⟩ ∧ b < w.heap.size ∧ w.cell? ⟨b, o + i * 5, none⟩ = some (.string ⟨s.op.toArray⟩) ∧ w.cell? ⟨b, o + i * 5 + 1, none⟩ = some (.slice As s.args.length c) ∧
  w.cell? ⟨b, o + i * 5 + 2, none⟩ = some (.int .i64 s.num) ∧ w.cell? ⟨b, o + i * 5 + 3, none⟩ = some (.string ⟨s.text.toArray⟩) ∧ w.cell? ⟨b, o + i * 5 + 4, none⟩ = some (.int .i64 s.ty) ∧ Reads w w.heap.size 1 As s.args.length (s.args.map (Value.int .i64))
theorem ArgPl.below {w w' : World} {A : Option Addr} {l : List St} (h : ArgPl w A l) (hb : Below w.heap.size w w') : ArgPl w' A l := fun i s hs => by
  obtain ⟨b, o, As, c, e, hl, c0, c1, c2, c3, c4, hr⟩ := h i s hs
  exact ⟨b, o, As, c, e, Nat.lt_of_lt_of_le hl hb.size, (hb.cell (p := ⟨b, _, none⟩) hl).trans c0, (hb.cell (p := ⟨b, _, none⟩) hl).trans c1, (hb.cell (p := ⟨b, _, none⟩) hl).trans c2, (hb.cell (p := ⟨b, _, none⟩) hl).trans c3, (hb.cell (p := ⟨b, _, none⟩) hl).trans c4, (hr.below hb).more hb.size⟩
def StpEnd (w : World) (l : List St) (e : Ending) (w' : World) : Prop := Below w.heap.size w w' ∧ ∃ A c, e = .returned (.agg #[.slice A l.length c]) ∧ PlAt w' (fun i => w.heap.size ≤ i ∧ i < w'.heap.size) A l
def SpRel (w : World) (l : List St) (f : Nat) (i : Value) (wr : World) : Prop := ∃ (k : Nat) (A : Option Addr) (c : Nat) (css : List Value), i = .int .i64 k ∧ k ≤ l.length ∧ l.length - k < f ∧ Hid (Blk wr (w.heap.size + 1) 28 #[.slice A k c]) ∧ Hid (Blk wr w.heap.size 28 #[.slice none 0 0]) ∧
  Hid (wr.ownsRow (w.heap.size + 1) 25 5 (.slice A k c) k css) ∧ Hid (StVs wr (stF wr (w.heap.size + 1) []) (l.take k) css) ∧ Hid (Below w.heap.size w wr)
theorem infoStepS : (Try.prog.info? 25).map (fun i => (i.zero, i.size, i.bytes)) = some (some (.agg #[.string ⟨#[]⟩, .slice none 0 0, .int .i64 0, .string ⟨#[]⟩, .int .i64 0]), 5, 72) := by kernel_rfl
theorem infoIntS : (Try.prog.info? 3).map (fun i => (i.zero, i.size, i.bytes)) = some (some (.int .i64 0), 1, 8) := by kernel_rfl
end Go.Proofs.Ytniefnjcimempaa
namespace Go.Proofs.Ytniefnjcimempaa
open Go.RowKit
set_option maxRecDepth 100000 in
set_option maxHeartbeats 4000000 in
theorem to_any (A : Option Addr) (c : Nat) (l : List St) (w : World) (h : ArgPl w A l) (hn : l.length ≤ 100000) (ha : ∀ s ∈ l, s.args.length ≤ 2000000) :
    Calls Try.prog 18 #[.slice A l.length c] w (StpEnd w l) := by
  have HA := Lib.hid h
  have HM := Lib.hid ha
  have HR0 := Lib.hid ((Blk.new w 28 #[.slice none 0 0]).alloc (.cells #[.slice none 0 0] 28))
  have HP0 := Lib.hid (Blk.new (w.alloc (.cells #[.slice none 0 0] 28)) 28 #[.slice none 0 0])
  have hsz : (w.alloc (.cells #[.slice none 0 0] 28)).heap.size = w.heap.size + 1 := by simp
  rw [hsz] at HP0
  have HB0 := Lib.hid ((below_alloc w (.cells #[.slice none 0 0] 28)).alloc (by simp) (.cells #[.slice none 0 0] 28))
  clear h ha hsz
  go_enter Try.func18, Try.ntmps18
  go_wp2_with fail
  go_loopg [5, 8] (l.length + 1) (fun f _ i wr => SpRel w l f i wr)
  case atStart => exact ⟨0, none, 0, [], rfl, by omega, by omega, HP0, HR0, Lib.hid ⟨rfl, .inl ⟨rfl, rfl⟩⟩, Lib.hid rfl, HB0⟩
  case round =>
    clear HP0 HR0 HB0
    obtain ⟨k, Ap, cp, css, rfl, hk, hkf, HP, HR, HV, HT, HB⟩ := hrel
    obtain ⟨f, rfl⟩ : ∃ f, gk = f + 1 := ⟨gk - 1, by omega⟩
    have hgl := HP.out.lt
    have hzr := HB.out.size
    by_cases hlt : k < l.length
    · obtain ⟨s, hs⟩ : ∃ s, l[k]? = some s := ⟨l[k], List.getElem?_eq_getElem hlt⟩
      obtain ⟨b0, o, As, cs, rfl, hbl0, x0, x1, x2, x3, x4, hrd⟩ := (HA.out.below HB.out) k s hs
      have hal := HM.out s (List.mem_of_getElem? hs)
      have HS := Lib.hid hs
      obtain ⟨op, args, num, text, ty⟩ := s
      dsimp only at x0 x1 x2 x3 x4 hrd hal
      have q0 : (k : Int) < (l.length : Int) := by omega
      have q1 : (0 : Int) ≤ (k : Int) := by omega
      go_upto_region 5 with (fail)
      obtain ⟨wq, hwq⟩ : ∃ wq, wq = wr.alloc (.cells #[.string ⟨op.toArray⟩, .slice As args.length cs, .int .i64 num, .string ⟨text.toArray⟩, .int .i64 ty] 49) := ⟨_, rfl⟩
      rw [← hwq]
      have hbq : Below wr.heap.size wr wq := by rw [hwq]; exact below_alloc _ _
      have hkb : Blk wq wr.heap.size 49 #[.string ⟨op.toArray⟩, .slice As args.length cs, .int .i64 num, .string ⟨text.toArray⟩, .int .i64 ty] := by rw [hwq]; exact Blk.new _ _ _
      have HPq := Lib.hid (HP.out.below hbq hgl)
      have HRq := Lib.hid (HR.out.below hbq HR.out.lt)
      have HVq := Lib.hid (own_below HV.out hbq)
      have HTq := Lib.hid (StVs.keep_int HT.out (w' := wq) (fun i cur _ hb => hbq.block i hb.lt) hbq.size (fun i _ h => h))
      have HBq := Lib.hid (HB.out.trans (hbq.mono hzr))
      replace hrd := (hrd.below hbq).more hbq.size
      replace x0 := hkb.cell 0
      replace x1 := hkb.cell 1
      replace x2 := hkb.cell 2
      replace x3 := hkb.cell 3
      replace x4 := hkb.cell 4
      simp only [List.getElem?_toArray, List.getElem?_cons_zero, List.getElem?_cons_succ] at x0 x1 x2 x3 x4
      have hglq : w.heap.size + 1 < wq.heap.size := HPq.out.lt
      have hzrq := HBq.out.size
      have hbl := hkb.lt
      obtain ⟨b, hbb0⟩ : ∃ b, b = wr.heap.size := ⟨_, rfl⟩
      rw [← hbb0] at x0 x1 x2 x3 x4 hbl ⊢
      have hblo : w.heap.size + 1 < b := by omega
      have hown : ∀ g, (Value.slice Ap k cp).ownBlock = some g → g ≠ b := fun g hg => by
        obtain ⟨_, cur, hc⟩ := own_lo HV.out hg
        have := hc.lt
        omega
      have HOWN := Lib.hid hown
      clear hwq hbq hkb HP HR HV HT HB hgl hzr hbl0 hbb0 hown
      have p0 := HPq.out.cell 0
      have pf := HPq.out.frozen 0
      simp only [List.getElem?_toArray, List.getElem?_cons_zero] at p0
      obtain ⟨m, hm⟩ : ∃ m, m = args.length := ⟨_, rfl⟩
      obtain ⟨zs, hzs⟩ : ∃ zs, zs = args.map (Value.int .i64) := ⟨_, rfl⟩
      rw [← hm, ← hzs] at hrd
      rw [← hm] at x1 hal
      have HRD := Lib.hid hrd
      have HZS := Lib.hid hzs
      have HMM := Lib.hid hm
      have hone1 : ∀ u ∈ zs, u.oneCell' = true := by rw [hzs]; intro u hu; obtain ⟨z, _, rfl⟩ := List.mem_map.1 hu; rfl
      have HO1 := Lib.hid hone1
      have ho1 := World.ownsRow_lit (base := w.heap.size + 1) (e := 3) (size := 1) wq #[] 0 (by omega) (by decide) rfl
      have hoo1 := own_below ho1 ((Below.refl _ _).drew)
      have hrd1 : Reads (wq.alloc (.cells #[] 3)).drew wq.heap.size 1 As m zs := (hrd.alloc (Nat.le_refl _) _).drew
      have hq1 : 0 + m ≤ maxLen := by unfold maxLen; omega
      have hq2 : (0 + m) * 8 ≤ 140737488355328 := by omega
      have hq3 : w.heap.size + 1 ≤ (wq.alloc (.cells #[] 3)).drew.heap.size := by have := ((below_alloc wq (.cells #[] 3)).drew).size; omega
      have hq4 : k + 1 ≤ maxLen := by unfold maxLen; omega
      have hq5 : (k + 1) * 72 ≤ 140737488355328 := by omega
      have K1 := Lib.hid (show ∀ W, Below wq.heap.size wq W → W.cell? ⟨w.heap.size + 1, 0, none⟩ = some (.slice Ap k cp) ∧ W.cell? ⟨b, 0, none⟩ = some (.string ⟨op.toArray⟩) ∧ W.cell? ⟨b, 1, none⟩ = some (.slice As m cs) ∧ W.cell? ⟨b, 2, none⟩ = some (.int .i64 num) ∧ W.cell? ⟨b, 3, none⟩ = some (.string ⟨text.toArray⟩) ∧ W.cell? ⟨b, 4, none⟩ = some (.int .i64 ty) from
        fun W hW => ⟨(hW.cell (p := ⟨w.heap.size + 1, 0, none⟩) hglq).trans p0, (hW.cell (p := ⟨b, _, none⟩) hbl).trans x0, (hW.cell (p := ⟨b, _, none⟩) hbl).trans x1, (hW.cell (p := ⟨b, _, none⟩) hbl).trans x2, (hW.cell (p := ⟨b, _, none⟩) hbl).trans x3, (hW.cell (p := ⟨b, _, none⟩) hbl).trans x4⟩)
      have K2 := Lib.hid (show ∀ W, Below wq.heap.size wq W → W.ownsRow (w.heap.size + 1) 25 5 (.slice Ap k cp) k css from fun W hW => own_below HVq.out hW)
      have K3 := Lib.hid (show ∀ W W7, Below wq.heap.size wq W → W.grownBy W7 (Value.slice Ap k cp).ownBlock → Blk W7 (w.heap.size + 1) 28 #[.slice Ap k cp] from fun W W7 hW hg => (HPq.out.below hW HPq.out.lt).grown hg (fun e => own_blk_ne HVq.out HPq.out (by decide) e.symm))
      have K4 := Lib.hid (show ∀ W W7, Below wq.heap.size wq W → W.grownBy W7 (Value.slice Ap k cp).ownBlock → W7.cell? ⟨b, 0, none⟩ = some (.string ⟨op.toArray⟩) ∧ W7.cell? ⟨b, 1, none⟩ = some (.slice As m cs) ∧ W7.cell? ⟨b, 2, none⟩ = some (.int .i64 num) ∧ W7.cell? ⟨b, 3, none⟩ = some (.string ⟨text.toArray⟩) ∧ W7.cell? ⟨b, 4, none⟩ = some (.int .i64 ty) from fun W W7 hW hg => by
        have hc : ∀ i, W7.cell? ⟨b, i, none⟩ = wq.cell? ⟨b, i, none⟩ := fun i => (World.cell?_of_block (a := ⟨b, i, none⟩) (hg.block b (Nat.lt_of_lt_of_le hbl hW.size) (fun e => HOWN.out b e.symm rfl))).trans (hW.cell (p := ⟨b, i, none⟩) hbl)
        exact ⟨(hc _).trans x0, (hc _).trans x1, (hc _).trans x2, (hc _).trans x3, (hc _).trans x4⟩)
      obtain ⟨pa, _, _, _, _, _⟩ := K1.out _ (below_alloc wq (.cells #[] 3)).drew
      obtain ⟨pb, _, _, _, _, _⟩ := K1.out _ (below_alloc wq (.cells #[] 3))
      have hwb : ¬ (w.heap.size + 1 = wq.heap.size) := by omega
      have hbg1 : ¬ (b = w.heap.size + 1) := by omega
      have hbg2 : ¬ (w.heap.size + 1 = b) := by omega
      have hbb : ¬ (b = wq.heap.size) := by omega
      have hwb' : ¬ (wq.heap.size = w.heap.size + 1) := by omega
      have hbb' : ¬ (wq.heap.size = b) := by omega
      clear hs hrd hzs hm ho1
      go_wp2_with fail
      obtain ⟨i1, hinf1, hz10, hz11, hz12⟩ := info_parts infoIntS
      obtain ⟨i0, hinf0, hz00, hz01, hz02⟩ := info_parts infoStepS
      refine wp_region_noPanic ?_
      refine wp_region_Z (z := 18) (S := (fun w' => w'.cell? ⟨w.heap.size + 1, 0, none⟩ = some (.slice Ap k cp) ∧ w'.cell? ⟨b, 0, none⟩ = some (.string ⟨op.toArray⟩) ∧ w'.cell? ⟨b, 1, none⟩ = some (.slice As m cs) ∧ w'.cell? ⟨b, 2, none⟩ = some (.int .i64 num) ∧ w'.cell? ⟨b, 3, none⟩ = some (.string ⟨text.toArray⟩) ∧ w'.cell? ⟨b, 4, none⟩ = some (.int .i64 ty))) (by kernel_rfl) (K1.out _ (Below.refl _ _).drew) (fun hHeld => ?_)
      refine wpAnyZ_take (i := 0) (v := ?_) rfl (by kernel_rfl) (by kernel_rfl) (by kernel_rfl) (by kernel_rfl) (fun _ _ _ h => h) (Or.inl ⟨by rfl, ?_⟩) hHeld ?_
      rotate_left
      · intro w' hSw
        (try dsimp only at hSw)
        go_simp <;> with_reducible rfl
      try simp only [Act.put, List.setIfInBounds_toArray]
      refine wpAnyZ_take (i := 1) (v := ?_) rfl (by kernel_rfl) (by kernel_rfl) (by kernel_rfl) (by kernel_rfl) (fun _ _ _ h => h) (Or.inl ⟨by rfl, ?_⟩) hHeld ?_
      rotate_left
      · intro w' hSw
        (try dsimp only at hSw)
        go_simp <;> with_reducible rfl
      try simp only [Act.put]
      refine wpAnyZ_take (i := 2) (v := ?_) rfl (by kernel_rfl) (by kernel_rfl) (by kernel_rfl) (by kernel_rfl) (fun _ _ _ h => h) (Or.inl ⟨by rfl, ?_⟩) hHeld ?_
      rotate_left
      · intro w' hSw
        (try dsimp only at hSw)
        go_simp <;> with_reducible rfl
      try simp only [Act.put]
      refine wpAnyZ_take (i := 3) (v := ?_) rfl (by kernel_rfl) (by kernel_rfl) (by kernel_rfl) (by kernel_rfl) (fun _ _ _ h => h) (Or.inl ⟨by rfl, ?_⟩) hHeld ?_
      rotate_left
      · intro w' hSw
        (try dsimp only at hSw)
        go_simp <;> with_reducible rfl
      try simp only [Act.put]
      refine wpAnyZ_take (i := 5) (v := ?_) rfl (by kernel_rfl) (by kernel_rfl) (by kernel_rfl) (by kernel_rfl) (fun _ _ _ h => h) (Or.inl ⟨by rfl, ?_⟩) hHeld ?_
      rotate_left
      · intro w' hSw
        (try dsimp only at hSw)
        go_simp <;> with_reducible rfl
      try simp only [Act.put]
      refine wpAnyZ_take (i := 6) (v := ?_) rfl (by kernel_rfl) (by kernel_rfl) (by kernel_rfl) (by kernel_rfl) (fun _ _ _ h => h) (Or.inl ⟨by rfl, ?_⟩) hHeld ?_
      rotate_left
      · intro w' hSw
        (try dsimp only at hSw)
        go_simp <;> with_reducible rfl
      try simp only [Act.put]
      refine wpAnyZ_take (i := 8) (v := ?_) rfl (by kernel_rfl) (by kernel_rfl) (by kernel_rfl) (by kernel_rfl) (fun _ _ _ h => h) (Or.inl ⟨by rfl, ?_⟩) hHeld ?_
      rotate_left
      · intro w' hSw
        (try dsimp only at hSw)
        go_simp <;> with_reducible rfl
      try simp only [Act.put]
      refine wpAnyZ_take (i := 9) (v := ?_) rfl (by kernel_rfl) (by kernel_rfl) (by kernel_rfl) (by kernel_rfl) (fun _ _ _ h => h) (Or.inl ⟨by rfl, ?_⟩) hHeld ?_
      rotate_left
      · intro w' hSw
        (try dsimp only at hSw)
        go_simp <;> with_reducible rfl
      try simp only [Act.put]
      refine wpAnyZ_take (i := 10) (v := ?_) rfl (by kernel_rfl) (by kernel_rfl) (by kernel_rfl) (by kernel_rfl) (fun _ _ _ h => h) (Or.inl ⟨by rfl, ?_⟩) hHeld ?_
      rotate_left
      · intro w' hSw
        (try dsimp only at hSw)
        go_simp <;> with_reducible rfl
      try simp only [Act.put]
      refine wpAnyZ_take (i := 11) (v := ?_) rfl (by kernel_rfl) (by kernel_rfl) (by kernel_rfl) (by kernel_rfl) (fun _ _ _ h => h) (Or.inl ⟨by rfl, ?_⟩) hHeld ?_
      rotate_left
      · intro w' hSw
        (try dsimp only at hSw)
        go_simp <;> with_reducible rfl
      try simp only [Act.put]
      refine wpAnyZ_take (i := 12) (v := ?_) rfl (by kernel_rfl) (by kernel_rfl) (by kernel_rfl) (by kernel_rfl) (fun _ _ _ h => h) (Or.inl ⟨by rfl, ?_⟩) hHeld ?_
      rotate_left
      · intro w' hSw
        (try dsimp only at hSw)
        go_simp <;> with_reducible rfl
      try simp only [Act.put]
      refine wpAnyZ_take (i := 13) (v := ?_) rfl (by kernel_rfl) (by kernel_rfl) (by kernel_rfl) (by kernel_rfl) (fun _ _ _ h => h) (Or.inl ⟨by rfl, ?_⟩) hHeld ?_
      rotate_left
      · intro w' hSw
        (try dsimp only at hSw)
        go_simp <;> with_reducible rfl
      try simp only [Act.put]
      clear hHeld
      refine wpAnyZ_one (i := 4) (by kernel_rfl) rfl (fun K hK => ?_)
      go_simp
      refine hK.out _ _ (fun _ => K1.out _ (below_alloc wq (.cells #[] 3)).drew) ?_
      clear hK K
      try simp only [Act.put, List.setIfInBounds_toArray, List.set_cons_zero, List.set_cons_succ]
      refine wpAnyZ_one (i := 7) (by kernel_rfl) rfl (fun K hK => ?_)
      refine step_append_any _ rfl (.tmp 16) (.tmp 18) 23 rfl (w.heap.size + 1) 3 i1 (.int .i64 0) 1 8 Try.underlying23 hinf1 hz10 hz11 hz12 rfl (by decide) (.slice (some ⟨wq.heap.size, 0, none⟩) 0 0) 0 [] rfl hoo1 wq.heap.size As m cs zs rfl hrd1 HO1.out hq1 hq2 hq3 ?_
      intro v5 w5 hown5 hg5 hv5
      rw [Nat.zero_add] at hown5
      obtain ⟨A5, c5, rfl⟩ := own_form hown5
      have hb5 : Below wq.heap.size wq w5 := ((below_alloc wq (.cells #[] 3)).drew).grown hg5 (by simp) (fun j e => by have e : some wq.heap.size = some j := e; injection e with e; omega)
      obtain ⟨p5, y0, y1, y2, y3, y4⟩ := K1.out w5 hb5
      obtain ⟨p6, _, _, _, _, _⟩ := K1.out _ (hb5.alloc hb5.size (.cells #[.string ⟨op.toArray⟩, .slice A5 m c5, .int .i64 num, .string ⟨text.toArray⟩, .int .i64 ty] 25))
      have ho6 := K2.out _ (hb5.alloc hb5.size (.cells #[.string ⟨op.toArray⟩, .slice A5 m c5, .int .i64 num, .string ⟨text.toArray⟩, .int .i64 ty] 25))
      have hr6 := reads5 w5 (.string ⟨op.toArray⟩) (.slice A5 m c5) (.int .i64 num) (.string ⟨text.toArray⟩) (.int .i64 ty) 25
      have hq6 : w.heap.size + 1 ≤ (w5.alloc (.cells #[.string ⟨op.toArray⟩, .slice A5 m c5, .int .i64 num, .string ⟨text.toArray⟩, .int .i64 ty] 25)).heap.size := Nat.le_trans (show w.heap.size + 1 ≤ w5.heap.size by (have := hb5.size; omega)) (below_alloc w5 _).size
      have HB5 := Lib.hid hb5
      have HO5 := Lib.hid hown5
      have hz5 := hb5.size
      have hHeld := K1.out w5 hb5
      clear hb5 hown5 hg5 hv5
      refine hK.out _ _ (fun _ => hHeld) ?_
      clear hK K
      try simp only [Act.put, List.setIfInBounds_toArray]
      refine wpAnyZ_take (i := 14) (v := ?_) rfl (by kernel_rfl) (by kernel_rfl) (by kernel_rfl) (by kernel_rfl) (fun _ _ _ h => h) (Or.inl ⟨by rfl, ?_⟩) hHeld ?_
      rotate_left
      · intro w' hSw
        (try dsimp only at hSw)
        go_simp <;> with_reducible rfl
      try simp only [Act.put]
      clear hHeld
      refine wpAnyZ_one (i := 15) (by kernel_rfl) rfl (fun K hK => ?_)
      go_simp
      refine hK.out _ _ (fun _ => K1.out _ (HB5.out.alloc HB5.out.size (.cells #[.string ⟨op.toArray⟩, .slice A5 m c5, .int .i64 num, .string ⟨text.toArray⟩, .int .i64 ty] 25))) ?_
      clear hK K
      try simp only [Act.put, List.setIfInBounds_toArray, List.set_cons_zero, List.set_cons_succ]
      refine wpAnyZ_one (i := 16) (by kernel_rfl) rfl (fun K hK => ?_)
      refine step_append_any _ rfl (.tmp 13) (.tmp 27) 26 rfl (w.heap.size + 1) 25 i0 (.agg #[.string ⟨#[]⟩, .slice none 0 0, .int .i64 0, .string ⟨#[]⟩, .int .i64 0]) 5 72 Try.underlying26 hinf0 hz00 hz01 hz02 rfl (by decide) (.slice Ap k cp) k css rfl ho6 (w5.heap.size + 1) (some ⟨w5.heap.size, 0, none⟩) 1 1 [.string ⟨op.toArray⟩, .slice A5 m c5, .int .i64 num, .string ⟨text.toArray⟩, .int .i64 ty] rfl hr6 (by simp [Value.oneCell']) hq4 hq5 hq6 ?_
      intro v7 w7 hown7 hg7 hv7
      obtain ⟨A7, c7, rfl⟩ := own_form hown7
      have HB6 := Lib.hid (HB5.out.alloc HB5.out.size (.cells #[.string ⟨op.toArray⟩, .slice A5 m c5, .int .i64 num, .string ⟨text.toArray⟩, .int .i64 ty] 25))
      have hp7 := K3.out _ w7 HB6.out hg7
      have p7 := hp7.cell 0
      have f7 := hp7.frozen 0
      obtain ⟨t0, t1, t2, t3, t4⟩ := K4.out _ w7 HB6.out hg7
      have HP7 := Lib.hid hp7
      have HO7 := Lib.hid hown7
      have HG7 := Lib.hid hg7
      have hHeld7 := And.intro p7 (And.intro t0 (And.intro t1 (And.intro t2 (And.intro t3 t4))))
      clear hp7 hown7 hg7 hv7
      refine hK.out _ _ (fun _ => hHeld7) ?_
      clear hK K
      try simp only [Act.put, List.setIfInBounds_toArray]
      refine wpAnyZ_take (i := 17) (v := ?_) rfl (by kernel_rfl) (by kernel_rfl) (by kernel_rfl) (by kernel_rfl) (fun _ _ _ h => h) (Or.inl ⟨by rfl, ?_⟩) hHeld7 ?_
      rotate_left
      · intro w' hSw
        (try dsimp only at hSw)
        go_simp <;> with_reducible rfl
      try simp only [Act.put]
      clear hHeld7
      refine wpAnyZ_one (i := 18) (by kernel_rfl) rfl (fun K hK => ?_)
      go_simp
      refine hK.out _ _ (fun h => absurd rfl h) ?_
      refine wpAnyZ_done (by kernel_rfl) ?_ _
      refine NoPanic.normal ?_
      clear hK K
      try simp only [Act.put, List.setIfInBounds_toArray, List.set_cons_zero, List.set_cons_succ]
      all_goals
        have hg2 : wq.grownBy w7 (Value.slice Ap k cp).ownBlock := (only_of_below HB6.out _).trans HG7.out
        have hI7 : w7.ownsRow (w.heap.size + 1) 3 1 (.slice A5 m c5) m zs := own_same (own_below HO5.out (below_alloc w5 _)) (fun g hg => by
          obtain ⟨_, cur, hc⟩ := own_lo HO5.out hg
          exact HG7.out.block g (hc.alloc _).lt (fun e => own_blk_ne (own_below HVq.out HB6.out) (hc.alloc _) (by decide) e.symm))
        have hI8 := own_far (p := ⟨w.heap.size + 1, 0, none⟩) hI7 (own_blk_ne hI7 HP7.out (by decide)) (.slice A7 (k + 1) c7)
        have HP8 := Lib.hid (HP7.out.set_ 0 (.slice A7 (k + 1) c7))
        have HR8 := Lib.hid ((HRq.out.grown hg2 (fun e => by have := (own_lo HVq.out e.symm).1; omega)).far (p := ⟨w.heap.size + 1, 0, none⟩) (by show w.heap.size ≠ w.heap.size + 1; omega) (.slice A7 (k + 1) c7))
        have HV8 := Lib.hid (own_far (p := ⟨w.heap.size + 1, 0, none⟩) HO7.out (own_blk_ne HO7.out HP7.out (by decide)) (.slice A7 (k + 1) c7))
        have HB8 := Lib.hid ((HBq.out.grown hg2 hzrq (fun j e => by have := (own_lo HVq.out e).1; omega)).setCell (p := ⟨w.heap.size + 1, 0, none⟩) (by show w.heap.size ≤ w.heap.size + 1; omega) (.slice A7 (k + 1) c7))
        have HT8 : Hid (StVs (w7.setCell ⟨w.heap.size + 1, 0, none⟩ (.slice A7 (k + 1) c7)) (stF (w7.setCell ⟨w.heap.size + 1, 0, none⟩ (.slice A7 (k + 1) c7)) (w.heap.size + 1) []) (l.take (k + 1)) (css ++ [.string ⟨op.toArray⟩, .slice A5 m c5, .int .i64 num, .string ⟨text.toArray⟩, .int .i64 ty])) := Lib.hid (by
          have hk : ∀ i cur, Blk wq i 3 cur → (w7.setCell ⟨w.heap.size + 1, 0, none⟩ (.slice A7 (k + 1) c7)).heap[i]? = wq.heap[i]? := fun i cur hb =>
            (Below.heap_setCell w7 ⟨w.heap.size + 1, 0, none⟩ _ i (Blk.ne_ hb HPq.out (by decide))).trans (hg2.block i hb.lt (fun e => own_blk_ne HVq.out hb (by decide) e.symm))
          rw [List.take_add_one, HS.out]
          have hmm := HMM.out
          rw [HZS.out] at hI8
          refine StVs.append (StVs.keep_int HTq.out (fun i cur _ hb => hk i cur hb) (by have := hg2.size; simpa using this) (fun i _ h => h)) (StVs.one ⟨A5, c5, by rw [hmm], ?_⟩)
          show RdF _ _ 1 A5 args.length (args.map (Value.int .i64))
          rw [hmm] at hI8
          refine ⟨hI8.1, fun hn => ?_⟩
          obtain ⟨gi, c', hvi, _, hbg, hglq, hc⟩ := own_at hI8 hn
          injection hvi with hA
          subst hA
          obtain ⟨_, cur, hb⟩ := own_lo hI8 (g := gi) rfl
          exact ⟨gi, 0, rfl, ⟨hbg, hglq, by simp, cur, hb⟩, hglq, fun j u hj => by rw [Nat.zero_add]; exact hc j u hj⟩)
        clear hg2 hI7 hI8 HB6 HG7 HO7 HP7 HO5 HB5 K1 K2 K3 K4 HPq HRq HVq HTq HBq ho6 hr6 hoo1 hrd1 HO1 HRD HZS HMM HS p0 pf pa pb p5 p6 p7 f7 x0 x1 x2 x3 x4 y0 y1 y2 y3 y4 t0 t1 t2 t3 t4 hinf1 hz10 hz11 hz12 hinf0 hz00 hz01 hz02
        generalize w7.setCell ⟨w.heap.size + 1, 0, none⟩ (.slice A7 (k + 1) c7) = wz at *
        go_wp2_with fail
        go_roundg f
        case measure => omega
        case rel => exact ⟨k + 1, A7, c7, _, by go_num, by omega, by omega, HP8, HR8, HV8, HT8, HB8⟩
    · have hkl : k = l.length := by omega
      subst hkl
      have q0 : ¬ ((l.length : Int) < (l.length : Int)) := by omega
      have p0 := HP.out.cell 0
      have r0 := HR.out.cell 0
      have rf := HR.out.frozen 0
      have hrl := HR.out.lt
      simp only [List.getElem?_toArray, List.getElem?_cons_zero] at p0 r0
      have hT := HT.out
      rw [List.take_length] at hT
      have HPA := Lib.hid (show PlAt wr (fun i => w.heap.size + 1 ≤ i ∧ i < wr.heap.size) Ap l from ⟨css, rdF_own HV.out (fun g h1 h2 => ⟨h1, h2⟩), hT.keep (w' := wr) (fun _ _ _ => rfl) (Nat.le_refl _) (fun i hi _ => ⟨hi.1, hi.2.1⟩)⟩)
      go_wp2_with fail
      refine bodyPost_ret (v := .agg #[.slice Ap l.length cp]) (by simp [results, Try.results18, go_sem, r0]) rfl ?_
      refine ⟨HB.out.setCell (p := ⟨w.heap.size, 0, none⟩) (Nat.le_refl _) _, Ap, cp, rfl, ?_⟩
      exact PlAt.keep (fun i hi _ => Below.heap_setCell wr ⟨w.heap.size, 0, none⟩ _ i (by have := hi.1; show i ≠ w.heap.size; omega)) (by simp) (fun i hi _ => ⟨by have := hi.1; omega, by simpa using hi.2⟩) HPA.out
end Go.Proofs.Ytniefnjcimempaa
namespace Go.Proofs.Ytniefnjcimempaa
open Go.RowKit
theorem PlAt.arg {w : World} {A : Option Addr} {l : List St} (h : PlAt w (fun i => i < w.heap.size) A l) : ArgPl w A l := fun i s hs => by
  obtain ⟨b, o, A', c, e, _, hb, x0, x1, x2, x3, x4, hr⟩ := h.step hs
  exact ⟨b, o, A', c, e, hb, x0, x1, x2, x3, x4, hr.reads⟩
theorem infoRStep : (Try.prog.info? 49).map (fun i => (i.zero, i.size, i.bytes)) = some (some (.agg #[.string ⟨#[]⟩, .slice none 0 0, .int .i64 0, .string ⟨#[]⟩, .int .i64 0]), 5, 72) := by kernel_rfl
def FmRel (w : World) (l : List St) (f : Nat) (v i : Value) (wr : World) : Prop := ∃ (k : Nat) (A : Option Addr) (c : Nat) (css : List Value), i = .int .i64 k ∧ v = .slice A k c ∧ k ≤ l.length ∧ l.length - k < f ∧ w.heap.size + 1 ≤ wr.heap.size ∧
  Hid (wr.ownsRow (w.heap.size + 1) 49 5 (.slice A k c) k css) ∧ Hid (StVs wr (stF wr (w.heap.size + 1) []) (l.take k) css) ∧ Hid (Below w.heap.size w wr)
def FmEnd (w : World) (l : List St) (e : Ending) (w' : World) : Prop := Below w.heap.size w w' ∧ ∃ A c, e = .returned (.slice A l.length c) ∧ ArgPl w' A l
set_option maxRecDepth 100000 in
set_option maxHeartbeats 4000000 in
theorem from_any (A : Option Addr) (c : Nat) (l : List St) (w : World) (h : PlAt w (fun i => i < w.heap.size) A l) (hn : l.length ≤ 100000) (ha : ∀ s ∈ l, s.args.length ≤ 2000000) :
    Calls Try.prog 23 #[.agg #[.slice A l.length c]] w (FmEnd w l) := by
  have HA := Lib.hid h.arg
  have HM := Lib.hid ha
  have HB0 := Lib.hid (below_alloc w (.cells #[.slice A l.length c] 28))
  have HX0 := Lib.hid (Blk.new w 28 #[.slice A l.length c])
  have hsz : w.heap.size + 1 ≤ (w.alloc (.cells #[.slice A l.length c] 28)).heap.size := by simp
  clear h ha
  go_enter Try.func23, Try.ntmps23
  go_wp2_with fail
  go_loopg [3, 5, 9] (l.length + 1) (fun f v _ i wr => FmRel w l f v i wr)
  case atStart => exact ⟨0, none, 0, [], rfl, rfl, by omega, by omega, hsz, Lib.hid ⟨rfl, .inl ⟨rfl, rfl⟩⟩, Lib.hid rfl, HB0⟩
  case round =>
    clear HB0 hsz HX0
    obtain ⟨k, Ap, cp, css, rfl, rfl, hk, hkf, hz1, HV, HT, HB⟩ := hrel
    obtain ⟨f, rfl⟩ : ∃ f, gk = f + 1 := ⟨gk - 1, by omega⟩
    have hzr := HB.out.size
    by_cases hlt : k < l.length
    · obtain ⟨s, hs⟩ : ∃ s, l[k]? = some s := ⟨l[k], List.getElem?_eq_getElem hlt⟩
      obtain ⟨b0, o, As, cs, rfl, hbl0, x0, x1, x2, x3, x4, hrd⟩ := (HA.out.below HB.out) k s hs
      have hal := HM.out s (List.mem_of_getElem? hs)
      have HS := Lib.hid hs
      obtain ⟨op, args, num, text, ty⟩ := s
      dsimp only at x0 x1 x2 x3 x4 hrd hal
      have q0 : (k : Int) < (l.length : Int) := by omega
      have q1 : (0 : Int) ≤ (k : Int) := by omega
      go_upto_region 5 with (fail)
      obtain ⟨wq, hwq⟩ : ∃ wq, wq = wr.alloc (.cells #[.string ⟨op.toArray⟩, .slice As args.length cs, .int .i64 num, .string ⟨text.toArray⟩, .int .i64 ty] 25) := ⟨_, rfl⟩
      rw [← hwq]
      have hbq : Below wr.heap.size wr wq := by rw [hwq]; exact below_alloc _ _
      have hkb : Blk wq wr.heap.size 25 #[.string ⟨op.toArray⟩, .slice As args.length cs, .int .i64 num, .string ⟨text.toArray⟩, .int .i64 ty] := by rw [hwq]; exact Blk.new _ _ _
      have HVq := Lib.hid (own_below HV.out hbq)
      have HTq := Lib.hid (StVs.keep_int HT.out (w' := wq) (fun i cur _ hb => hbq.block i hb.lt) hbq.size (fun i _ h => h))
      have HBq := Lib.hid (HB.out.trans (hbq.mono hzr))
      replace hrd := (hrd.below hbq).more hbq.size
      replace x0 := hkb.cell 0
      replace x1 := hkb.cell 1
      replace x2 := hkb.cell 2
      replace x3 := hkb.cell 3
      replace x4 := hkb.cell 4
      simp only [List.getElem?_toArray, List.getElem?_cons_zero, List.getElem?_cons_succ] at x0 x1 x2 x3 x4
      have hz2 : w.heap.size + 1 ≤ wq.heap.size := Nat.le_trans hz1 hbq.size
      have hzrq := HBq.out.size
      have hbl := hkb.lt
      obtain ⟨b, hbb0⟩ : ∃ b, b = wr.heap.size := ⟨_, rfl⟩
      rw [← hbb0] at x0 x1 x2 x3 x4 hbl ⊢
      have hblo : w.heap.size + 1 ≤ b := by omega
      have hown : ∀ g, (Value.slice Ap k cp).ownBlock = some g → g ≠ b := fun g hg => by
        obtain ⟨_, cur, hc⟩ := own_lo HV.out hg
        have := hc.lt
        omega
      have HOWN := Lib.hid hown
      clear hwq hbq hkb HV HT HB hzr hbl0 hbb0 hown
      obtain ⟨m, hm⟩ : ∃ m, m = args.length := ⟨_, rfl⟩
      obtain ⟨zs, hzs⟩ : ∃ zs, zs = args.map (Value.int .i64) := ⟨_, rfl⟩
      rw [← hm, ← hzs] at hrd
      rw [← hm] at x1 hal
      have HRD := Lib.hid hrd
      have HZS := Lib.hid hzs
      have HMM := Lib.hid hm
      have hone1 : ∀ u ∈ zs, u.oneCell' = true := by rw [hzs]; intro u hu; obtain ⟨z, _, rfl⟩ := List.mem_map.1 hu; rfl
      have HO1 := Lib.hid hone1
      have ho1 := World.ownsRow_lit (base := w.heap.size + 1) (e := 3) (size := 1) wq #[] 0 (by omega) (by decide) rfl
      have hoo1 := own_below ho1 ((Below.refl _ _).drew)
      have hrd1 : Reads (wq.alloc (.cells #[] 3)).drew wq.heap.size 1 As m zs := (hrd.alloc (Nat.le_refl _) _).drew
      have hq1 : 0 + m ≤ maxLen := by unfold maxLen; omega
      have hq2 : (0 + m) * 8 ≤ 140737488355328 := by omega
      have hq3 : w.heap.size + 1 ≤ (wq.alloc (.cells #[] 3)).drew.heap.size := by have := ((below_alloc wq (.cells #[] 3)).drew).size; omega
      have hq4 : k + 1 ≤ maxLen := by unfold maxLen; omega
      have hq5 : (k + 1) * 72 ≤ 140737488355328 := by omega
      have K1 := Lib.hid (show ∀ W, Below wq.heap.size wq W → W.cell? ⟨b, 0, none⟩ = some (.string ⟨op.toArray⟩) ∧ W.cell? ⟨b, 1, none⟩ = some (.slice As m cs) ∧ W.cell? ⟨b, 2, none⟩ = some (.int .i64 num) ∧ W.cell? ⟨b, 3, none⟩ = some (.string ⟨text.toArray⟩) ∧ W.cell? ⟨b, 4, none⟩ = some (.int .i64 ty) from
        fun W hW => ⟨(hW.cell (p := ⟨b, _, none⟩) hbl).trans x0, (hW.cell (p := ⟨b, _, none⟩) hbl).trans x1, (hW.cell (p := ⟨b, _, none⟩) hbl).trans x2, (hW.cell (p := ⟨b, _, none⟩) hbl).trans x3, (hW.cell (p := ⟨b, _, none⟩) hbl).trans x4⟩)
      have K2 := Lib.hid (show ∀ W, Below wq.heap.size wq W → W.ownsRow (w.heap.size + 1) 49 5 (.slice Ap k cp) k css from fun W hW => own_below HVq.out hW)
      have K4 := Lib.hid (show ∀ W W7, Below wq.heap.size wq W → W.grownBy W7 (Value.slice Ap k cp).ownBlock → W7.cell? ⟨b, 0, none⟩ = some (.string ⟨op.toArray⟩) ∧ W7.cell? ⟨b, 1, none⟩ = some (.slice As m cs) ∧ W7.cell? ⟨b, 2, none⟩ = some (.int .i64 num) ∧ W7.cell? ⟨b, 3, none⟩ = some (.string ⟨text.toArray⟩) ∧ W7.cell? ⟨b, 4, none⟩ = some (.int .i64 ty) from fun W W7 hW hg => by
        have hc : ∀ i, W7.cell? ⟨b, i, none⟩ = wq.cell? ⟨b, i, none⟩ := fun i => (World.cell?_of_block (a := ⟨b, i, none⟩) (hg.block b (Nat.lt_of_lt_of_le hbl hW.size) (fun e => HOWN.out b e.symm rfl))).trans (hW.cell (p := ⟨b, i, none⟩) hbl)
        exact ⟨(hc _).trans x0, (hc _).trans x1, (hc _).trans x2, (hc _).trans x3, (hc _).trans x4⟩)
      have hbb : ¬ (b = wq.heap.size) := by omega
      have hbb' : ¬ (wq.heap.size = b) := by omega
      clear hs hrd hzs hm ho1
      go_wp2_with fail
      obtain ⟨i1, hinf1, hz10, hz11, hz12⟩ := info_parts infoIntS
      obtain ⟨i0, hinf0, hz00, hz01, hz02⟩ := info_parts infoRStep
      refine wp_region_noPanic ?_
      refine wp_region_Z (z := 16) (S := (fun w' => w'.cell? ⟨b, 0, none⟩ = some (.string ⟨op.toArray⟩) ∧ w'.cell? ⟨b, 1, none⟩ = some (.slice As m cs) ∧ w'.cell? ⟨b, 2, none⟩ = some (.int .i64 num) ∧ w'.cell? ⟨b, 3, none⟩ = some (.string ⟨text.toArray⟩) ∧ w'.cell? ⟨b, 4, none⟩ = some (.int .i64 ty))) (by kernel_rfl) (K1.out _ (Below.refl _ _).drew) (fun hHeld => ?_)
      refine wpAnyZ_take (i := 0) (v := ?_) rfl (by kernel_rfl) (by kernel_rfl) (by kernel_rfl) (by kernel_rfl) (fun _ _ _ h => h) (Or.inl ⟨by rfl, ?_⟩) hHeld ?_
      rotate_left
      · intro w' hSw
        (try dsimp only at hSw)
        go_simp <;> with_reducible rfl
      try simp only [Act.put, List.setIfInBounds_toArray]
      refine wpAnyZ_take (i := 1) (v := ?_) rfl (by kernel_rfl) (by kernel_rfl) (by kernel_rfl) (by kernel_rfl) (fun _ _ _ h => h) (Or.inl ⟨by rfl, ?_⟩) hHeld ?_
      rotate_left
      · intro w' hSw
        (try dsimp only at hSw)
        go_simp <;> with_reducible rfl
      try simp only [Act.put]
      refine wpAnyZ_take (i := 2) (v := ?_) rfl (by kernel_rfl) (by kernel_rfl) (by kernel_rfl) (by kernel_rfl) (fun _ _ _ h => h) (Or.inl ⟨by rfl, ?_⟩) hHeld ?_
      rotate_left
      · intro w' hSw
        (try dsimp only at hSw)
        go_simp <;> with_reducible rfl
      try simp only [Act.put]
      refine wpAnyZ_take (i := 4) (v := ?_) rfl (by kernel_rfl) (by kernel_rfl) (by kernel_rfl) (by kernel_rfl) (fun _ _ _ h => h) (Or.inl ⟨by rfl, ?_⟩) hHeld ?_
      rotate_left
      · intro w' hSw
        (try dsimp only at hSw)
        go_simp <;> with_reducible rfl
      try simp only [Act.put]
      refine wpAnyZ_take (i := 5) (v := ?_) rfl (by kernel_rfl) (by kernel_rfl) (by kernel_rfl) (by kernel_rfl) (fun _ _ _ h => h) (Or.inl ⟨by rfl, ?_⟩) hHeld ?_
      rotate_left
      · intro w' hSw
        (try dsimp only at hSw)
        go_simp <;> with_reducible rfl
      try simp only [Act.put]
      refine wpAnyZ_take (i := 7) (v := ?_) rfl (by kernel_rfl) (by kernel_rfl) (by kernel_rfl) (by kernel_rfl) (fun _ _ _ h => h) (Or.inl ⟨by rfl, ?_⟩) hHeld ?_
      rotate_left
      · intro w' hSw
        (try dsimp only at hSw)
        go_simp <;> with_reducible rfl
      try simp only [Act.put]
      refine wpAnyZ_take (i := 8) (v := ?_) rfl (by kernel_rfl) (by kernel_rfl) (by kernel_rfl) (by kernel_rfl) (fun _ _ _ h => h) (Or.inl ⟨by rfl, ?_⟩) hHeld ?_
      rotate_left
      · intro w' hSw
        (try dsimp only at hSw)
        go_simp <;> with_reducible rfl
      try simp only [Act.put]
      refine wpAnyZ_take (i := 9) (v := ?_) rfl (by kernel_rfl) (by kernel_rfl) (by kernel_rfl) (by kernel_rfl) (fun _ _ _ h => h) (Or.inl ⟨by rfl, ?_⟩) hHeld ?_
      rotate_left
      · intro w' hSw
        (try dsimp only at hSw)
        go_simp <;> with_reducible rfl
      try simp only [Act.put]
      refine wpAnyZ_take (i := 10) (v := ?_) rfl (by kernel_rfl) (by kernel_rfl) (by kernel_rfl) (by kernel_rfl) (fun _ _ _ h => h) (Or.inl ⟨by rfl, ?_⟩) hHeld ?_
      rotate_left
      · intro w' hSw
        (try dsimp only at hSw)
        go_simp <;> with_reducible rfl
      try simp only [Act.put]
      refine wpAnyZ_take (i := 11) (v := ?_) rfl (by kernel_rfl) (by kernel_rfl) (by kernel_rfl) (by kernel_rfl) (fun _ _ _ h => h) (Or.inl ⟨by rfl, ?_⟩) hHeld ?_
      rotate_left
      · intro w' hSw
        (try dsimp only at hSw)
        go_simp <;> with_reducible rfl
      try simp only [Act.put]
      refine wpAnyZ_take (i := 12) (v := ?_) rfl (by kernel_rfl) (by kernel_rfl) (by kernel_rfl) (by kernel_rfl) (fun _ _ _ h => h) (Or.inl ⟨by rfl, ?_⟩) hHeld ?_
      rotate_left
      · intro w' hSw
        (try dsimp only at hSw)
        go_simp <;> with_reducible rfl
      try simp only [Act.put]
      clear hHeld
      refine wpAnyZ_one (i := 3) (by kernel_rfl) rfl (fun K hK => ?_)
      go_simp
      refine hK.out _ _ (fun _ => K1.out _ (below_alloc wq (.cells #[] 3)).drew) ?_
      clear hK K
      try simp only [Act.put, List.setIfInBounds_toArray, List.set_cons_zero, List.set_cons_succ]
      refine wpAnyZ_one (i := 6) (by kernel_rfl) rfl (fun K hK => ?_)
      refine step_append_any _ rfl (.tmp 16) (.tmp 18) 23 rfl (w.heap.size + 1) 3 i1 (.int .i64 0) 1 8 Try.underlying23 hinf1 hz10 hz11 hz12 rfl (by decide) (.slice (some ⟨wq.heap.size, 0, none⟩) 0 0) 0 [] rfl hoo1 wq.heap.size As m cs zs rfl hrd1 HO1.out hq1 hq2 hq3 ?_
      intro v5 w5 hown5 hg5 hv5
      rw [Nat.zero_add] at hown5
      obtain ⟨A5, c5, rfl⟩ := own_form hown5
      have hb5 : Below wq.heap.size wq w5 := ((below_alloc wq (.cells #[] 3)).drew).grown hg5 (by simp) (fun j e => by have e : some wq.heap.size = some j := e; injection e with e; omega)
      obtain ⟨y0, y1, y2, y3, y4⟩ := K1.out w5 hb5
      have ho6 := K2.out _ (hb5.alloc hb5.size (.cells #[.string ⟨op.toArray⟩, .slice A5 m c5, .int .i64 num, .string ⟨text.toArray⟩, .int .i64 ty] 49))
      have hr6 := reads5 w5 (.string ⟨op.toArray⟩) (.slice A5 m c5) (.int .i64 num) (.string ⟨text.toArray⟩) (.int .i64 ty) 49
      have hq6 : w.heap.size + 1 ≤ (w5.alloc (.cells #[.string ⟨op.toArray⟩, .slice A5 m c5, .int .i64 num, .string ⟨text.toArray⟩, .int .i64 ty] 49)).heap.size := Nat.le_trans (show w.heap.size + 1 ≤ w5.heap.size by (have := hb5.size; omega)) (below_alloc w5 _).size
      have HB5 := Lib.hid hb5
      have HO5 := Lib.hid hown5
      have hz5 := hb5.size
      have hHeld := K1.out w5 hb5
      clear hb5 hown5 hg5 hv5
      refine hK.out _ _ (fun _ => hHeld) ?_
      clear hK K
      try simp only [Act.put, List.setIfInBounds_toArray]
      refine wpAnyZ_take (i := 13) (v := ?_) rfl (by kernel_rfl) (by kernel_rfl) (by kernel_rfl) (by kernel_rfl) (fun _ _ _ h => h) (Or.inl ⟨by rfl, ?_⟩) hHeld ?_
      rotate_left
      · intro w' hSw
        (try dsimp only at hSw)
        go_simp <;> with_reducible rfl
      try simp only [Act.put]
      clear hHeld
      refine wpAnyZ_one (i := 14) (by kernel_rfl) rfl (fun K hK => ?_)
      go_simp
      refine hK.out _ _ (fun _ => K1.out _ (HB5.out.alloc HB5.out.size (.cells #[.string ⟨op.toArray⟩, .slice A5 m c5, .int .i64 num, .string ⟨text.toArray⟩, .int .i64 ty] 49))) ?_
      clear hK K
      try simp only [Act.put, List.setIfInBounds_toArray, List.set_cons_zero, List.set_cons_succ]
      refine wpAnyZ_one (i := 15) (by kernel_rfl) rfl (fun K hK => ?_)
      refine step_append_any _ rfl (.tmp 13) (.tmp 27) 41 rfl (w.heap.size + 1) 49 i0 (.agg #[.string ⟨#[]⟩, .slice none 0 0, .int .i64 0, .string ⟨#[]⟩, .int .i64 0]) 5 72 Try.underlying41 hinf0 hz00 hz01 hz02 rfl (by decide) (.slice Ap k cp) k css rfl ho6 (w5.heap.size + 1) (some ⟨w5.heap.size, 0, none⟩) 1 1 [.string ⟨op.toArray⟩, .slice A5 m c5, .int .i64 num, .string ⟨text.toArray⟩, .int .i64 ty] rfl hr6 (by simp [Value.oneCell']) hq4 hq5 hq6 ?_
      intro v7 w7 hown7 hg7 hv7
      obtain ⟨A7, c7, rfl⟩ := own_form hown7
      have HB6 := Lib.hid (HB5.out.alloc HB5.out.size (.cells #[.string ⟨op.toArray⟩, .slice A5 m c5, .int .i64 num, .string ⟨text.toArray⟩, .int .i64 ty] 49))
      obtain ⟨t0, t1, t2, t3, t4⟩ := K4.out _ w7 HB6.out hg7
      have HO7 := Lib.hid hown7
      have HG7 := Lib.hid hg7
      have hHeld7 := And.intro t0 (And.intro t1 (And.intro t2 (And.intro t3 t4)))
      clear hown7 hg7 hv7
      refine hK.out _ _ (fun _ => hHeld7) ?_
      clear hK K
      try simp only [Act.put, List.setIfInBounds_toArray]
      clear hHeld7
      refine wpAnyZ_one (i := 16) (by kernel_rfl) rfl (fun K hK => ?_)
      go_simp
      refine hK.out _ _ (fun h => absurd rfl h) ?_
      refine wpAnyZ_done (by kernel_rfl) ?_ _
      refine NoPanic.normal ?_
      clear hK K
      try simp only [Act.put, List.setIfInBounds_toArray, List.set_cons_zero, List.set_cons_succ]
      all_goals
        have hg2 : wq.grownBy w7 (Value.slice Ap k cp).ownBlock := (only_of_below HB6.out _).trans HG7.out
        have hI7 : w7.ownsRow (w.heap.size + 1) 3 1 (.slice A5 m c5) m zs := own_same (own_below HO5.out (below_alloc w5 _)) (fun g hg => by
          obtain ⟨_, cur, hc⟩ := own_lo HO5.out hg
          exact HG7.out.block g (hc.alloc _).lt (fun e => own_blk_ne (own_below HVq.out HB6.out) (hc.alloc _) (by decide) e.symm))
        have hI8 := hI7
        have HV8 := HO7
        have HB8 := Lib.hid (HBq.out.grown hg2 hzrq (fun j e => by have := (own_lo HVq.out e).1; omega))
        have HT8 : Hid (StVs w7 (stF w7 (w.heap.size + 1) []) (l.take (k + 1)) (css ++ [.string ⟨op.toArray⟩, .slice A5 m c5, .int .i64 num, .string ⟨text.toArray⟩, .int .i64 ty])) := Lib.hid (by
          have hk : ∀ i cur, Blk wq i 3 cur → w7.heap[i]? = wq.heap[i]? := fun i cur hb =>
            hg2.block i hb.lt (fun e => own_blk_ne HVq.out hb (by decide) e.symm)
          rw [List.take_add_one, HS.out]
          have hmm := HMM.out
          rw [HZS.out] at hI8
          refine StVs.append (StVs.keep_int HTq.out (fun i cur _ hb => hk i cur hb) (hg2.size) (fun i _ h => h)) (StVs.one ⟨A5, c5, by rw [hmm], ?_⟩)
          show RdF _ _ 1 A5 args.length (args.map (Value.int .i64))
          rw [hmm] at hI8
          refine ⟨hI8.1, fun hn => ?_⟩
          obtain ⟨gi, c', hvi, _, hbg, hglq, hc⟩ := own_at hI8 hn
          injection hvi with hA
          subst hA
          obtain ⟨_, cur, hb⟩ := own_lo hI8 (g := gi) rfl
          exact ⟨gi, 0, rfl, ⟨hbg, hglq, by simp, cur, hb⟩, hglq, fun j u hj => by rw [Nat.zero_add]; exact hc j u hj⟩)
        have hz7 : w.heap.size + 1 ≤ w7.heap.size := Nat.le_trans hz2 hg2.size
        clear hg2 hI7 hI8 HB6 HG7 HO5 HB5 K1 K2 K4 HVq HTq HBq ho6 hr6 hoo1 hrd1 HO1 HRD HZS HMM HS x0 x1 x2 x3 x4 y0 y1 y2 y3 y4 t0 t1 t2 t3 t4 hinf1 hz10 hz11 hz12 hinf0 hz00 hz01 hz02
        go_wp2_with fail
        go_roundg f
        case measure => omega
        case rel => exact ⟨k + 1, A7, c7, _, by go_num, rfl, by omega, by omega, hz7, HV8, HT8, HB8⟩
    · have hkl : k = l.length := by omega
      subst hkl
      have q0 : ¬ ((l.length : Int) < (l.length : Int)) := by omega
      have hT := HT.out
      rw [List.take_length] at hT
      have HPA := Lib.hid (show PlAt wr (fun i => i < wr.heap.size) Ap l from ⟨css, rdF_own HV.out (fun g _ h2 => h2), hT.keep (w' := wr) (fun _ _ _ => rfl) (Nat.le_refl _) (fun i hi _ => hi.2.1)⟩)
      go_wp2_with fail
      go_ret
      exact ⟨HB.out, Ap, cp, rfl, HPA.out.arg⟩
end Go.Proofs.Ytniefnjcimempaa
