/- The walk of plan.Of. -/
import Derived.Test.YtoegklpomlhneaaGreatDoorqRm
import Derived.Lib.QuietBelow
import Derived.StillTailTactics
import Derived.Deep.DeepCutAuto
namespace Go.Proofs.YtoegklpomlhneaaGreatDoor
open Go.RowKit
/-- What plan.Of answers. -/
def PlEnd (w : World) (τ : Tx) (e : Ending) (w' : World) : Prop := Below w.heap.size w w' ∧
  if τ.all isNT = true then (match typT τ with
    | .ok _ => ∃ A c, e = .returned (.tuple #[.agg #[.slice A (planT τ).length c], .nilIface]) ∧ PlAt w' (fun i => w.heap.size ≤ i ∧ i < w'.heap.size) A (planT τ)
    | .error u => e = .returned (.tuple #[.agg #[.slice none 0 0], u]))
  else e = .returned (.tuple #[.agg #[.slice none 0 0], .iface 51 (.int .i64 4)])
def PoRel (w : World) (base : Nat) (root : Lx) (gp gr : Nat) (f : Nat) (v : Value) (wr : World) : Prop := ∃ st P, Hid (PoOk root st P) ∧ muV st < f ∧ Hid (PoS wr base root gp v st P) ∧ Hid (Blk wr gr 29 #[.slice none 0 0]) ∧ Hid (Below w.heap.size w wr)
theorem opsN_small (x : Tx) : opsN x ≤ 3 := by
  unfold opsN
  split
  · unfold opZ
    cases h : opR x.text with
    | none => exact Nat.zero_le _
    | some o => exact opR_small h
  · exact Nat.zero_le _
theorem infoVisit : (Tryz.prog.info? 95).map (fun i => (i.zero, i.size, i.bytes)) = some (some (.agg #[.pointer none, .slice none 0 0]), 2, 32) := by kernel_rfl
theorem infoStepP : (Tryz.prog.info? 74).map (fun i => (i.zero, i.size, i.bytes)) = some (some (.agg #[.string ⟨#[]⟩, .slice none 0 0, .int .i64 0, .string ⟨#[]⟩, .int .i64 0]), 5, 72) := by kernel_rfl
set_option maxRecDepth 100000 in
set_option maxHeartbeats 8000000 in
theorem plan_of (τ : Tx) (cs : List Value) (w : World) (h : NodeV w (fun i => i < w.heap.size) τ cs) (hsz : τ.size ≤ 900000) (hsh : τ.all (shortT 9223372036854775807) = true) :
    Calls Tryz.prog 20 #[.agg cs.toArray] w (PlEnd w τ) := by
  obtain ⟨A, c, l, rfl, hle, hls⟩ := h
  obtain ⟨root, hroot⟩ : ∃ r, r = Lx.node ⟨w.heap.size, 0, none⟩ τ.kind τ.text τ.num l := ⟨_, rfl⟩
  have her : root.er = τ := by rw [hroot]; cases τ; rw [Lx.er, hle]; rfl
  obtain ⟨W0, hW0⟩ : ∃ W0, W0 = (w.alloc (.cells #[.int .i64 τ.kind, .string ⟨τ.text.toArray⟩, .int .i64 τ.num, .slice A τ.args.length c] 41)).alloc (.cells #[.slice none 0 0] 29) := ⟨_, rfl⟩
  have hs0 : W0.heap.size = w.heap.size + 2 := by rw [hW0]; simp
  have hb0 : Below w.heap.size w W0 := by rw [hW0]; exact (below_alloc w _).alloc (by simp) _
  have hn0 : NodeV W0 (fun i => i < W0.heap.size) τ [.int .i64 τ.kind, .string ⟨τ.text.toArray⟩, .int .i64 τ.num, .slice A τ.args.length c] := NodeV.below (w := w) ⟨A, c, l, rfl, hle, hls⟩ hb0
  have hlen : τ.args.length = l.length := by rw [← hle, erL_length]
  have hr0 : LxAt W0 (fun i => i < w.heap.size + 2) root := by
    rw [hroot]
    unfold LxAt
    refine ⟨w.heap.size, 0, A, c, 41, _, rfl, by omega, by rw [hW0]; exact (Blk.new _ _ _).alloc _, rfl, rfl, rfl, by rw [← hlen]; rfl, ?_⟩
    exact LxAts.keep (F := fun i => i < w.heap.size) (fun i hi _ => hb0.block i hi) (fun i hi _ => by omega) A 0 l hls
  have hrad : root.ad = ⟨w.heap.size, 0, none⟩ := by rw [hroot]; rfl
  have hof := of_tx τ _ W0 hn0 hsz hsh
  have hR0 : Blk W0 (w.heap.size + 1) 29 #[.slice none 0 0] := by
    rw [hW0]
    have := Blk.new (w.alloc (.cells #[.int .i64 τ.kind, .string ⟨τ.text.toArray⟩, .int .i64 τ.num, .slice A τ.args.length c] 41)) 29 #[.slice none 0 0]
    simpa using this
  have hE0 : Blk W0 w.heap.size 41 #[.int .i64 τ.kind, .string ⟨τ.text.toArray⟩, .int .i64 τ.num, .slice A τ.args.length c] := by rw [hW0]; exact (Blk.new _ _ _).alloc _
  rw [hW0] at hof
  have HOF := Lib.hid hof
  have HR0 := Lib.hid hr0
  have HB0 := Lib.hid hb0
  have HS0 := Lib.hid hs0
  have HER := Lib.hid her
  have HRAD := Lib.hid hrad
  have HRB := Lib.hid hR0
  have HW0 := Lib.hid hW0
  have HSZ := Lib.hid hsz
  obtain ⟨kd, hkd⟩ : ∃ kd, kd = τ.kind := ⟨_, rfl⟩
  obtain ⟨tx, htx⟩ : ∃ tx, tx = τ.text := ⟨_, rfl⟩
  obtain ⟨nm, hnm⟩ : ∃ nm, nm = τ.num := ⟨_, rfl⟩
  obtain ⟨ln, hln⟩ : ∃ ln, ln = τ.args.length := ⟨_, rfl⟩
  show Calls _ _ #[.agg #[.int .i64 τ.kind, .string ⟨τ.text.toArray⟩, .int .i64 τ.num, .slice A τ.args.length c]] _ _
  rw [← hkd, ← htx, ← hnm, ← hln] at HOF HW0 ⊢
  clear hof hr0 hb0 hs0 her hrad hR0 hE0 hW0 hsz hsh hn0 hls hle hlen hroot hkd htx hnm hln
  go_enter Tryz.func20, Tryz.ntmps20
  go_wp2_with fail
  refine HOF.out.mono ?_
  rintro e w1 ⟨rfl, hb1⟩
  rw [← HW0.out] at hb1
  have HB1 := Lib.hid (HB0.out.trans (hb1.mono HB0.out.size))
  have HRB1 := Lib.hid (HRB.out.below hb1 HRB.out.lt)
  have HR1 := Lib.hid (LxAt.keep (w' := w1) (G := fun i => i < w.heap.size + 2) (fun i hi _ => hb1.block i (by have := HS0.out; omega)) (fun _ h _ => h) root HR0.out)
  have hz1 : w.heap.size + 2 ≤ w1.heap.size := by have := hb1.size; have := HS0.out; omega
  clear hb1
  have r0 := HRB1.out.cell 0
  have rf := HRB1.out.frozen 0
  simp only [List.getElem?_toArray, List.getElem?_cons_zero] at r0
  unfold ofT
  by_cases hall : τ.all isNT = true
  · rw [if_pos hall]
    have HAL := Lib.hid hall
    clear hall
    cases hty : typT τ with
    | error u =>
      obtain ⟨ec, hec, rfl⟩ := typ_err root u (by rw [typX_er, HER.out]; exact hty)
      have HTY := Lib.hid hty
      clear hty
      go_wp2_with fail
      refine bodyPost_ret (v := .tuple #[.agg #[.slice none 0 0], .iface 51 (.int .i64 ec)]) (by simp [results, Tryz.results20, go_sem, r0]) rfl ?_
      refine ⟨HB1.out.setCell (p := ⟨w.heap.size + 1, 0, none⟩) (by show w.heap.size ≤ w.heap.size + 1; omega) _, ?_⟩
      rw [if_pos HAL.out, HTY.out]
    | ok t =>
      have HTX := Lib.hid (show typX root = .ok t by rw [typX_er, HER.out]; exact hty)
      have HTY := Lib.hid hty
      clear hty
      have hL0 : LxAt ((w1.alloc (.cells #[.slice none 0 0] 29)).alloc (.cells #[.pointer (some ⟨w.heap.size, 0, none⟩), .slice none 0 0] 95)) (fun i => i < w.heap.size + 2) root :=
        LxAt.keep (F := fun i => i < w.heap.size + 2) (fun i hi hl => (Below.heap_alloc _ _ i (by simp; omega)).trans (Below.heap_alloc _ _ i hl)) (fun _ h _ => h) root HR1.out
      have hv0 := World.ownsRow_lit (base := w.heap.size + 2) (e := 95) (size := 2) (w1.alloc (.cells #[.slice none 0 0] 29)) #[.pointer (some ⟨w.heap.size, 0, none⟩), .slice none 0 0] 1 (by simp; omega) (by decide) rfl
      have HP0 := Lib.hid (PoS.first (w1 := w1) (v := .slice (some ⟨w1.heap.size + 1, 0, none⟩) 1 1) (gp := w1.heap.size) ((Blk.new w1 29 #[.slice none 0 0]).alloc _) hz1 (by simp; omega) hL0 (by rw [HRAD.out]; simpa using hv0))
      have HBB0 := Lib.hid ((HB1.out.alloc (by omega) (.cells #[.slice none 0 0] 29)).alloc (by simp; omega) (.cells #[.pointer (some ⟨w.heap.size, 0, none⟩), .slice none 0 0] 95))
      have HRR0 := Lib.hid ((HRB1.out.alloc (.cells #[.slice none 0 0] 29)).alloc (.cells #[.pointer (some ⟨w.heap.size, 0, none⟩), .slice none 0 0] 95))
      clear hL0 hv0
      go_wp2_with fail
      clear r0 rf
      go_loopg [7, 8, 9] (2 * root.size + 1) (fun f v _ _ wr => PoRel w (w.heap.size + 2) root w1.heap.size (w.heap.size + 1) f v wr)
      case atStart =>
        have h0 := PoOk.start HTX.out
        exact ⟨[(root, [])], [], Lib.hid h0, by have := h0.2.2.2; simp at this; omega, HP0, HRR0, HBB0⟩
      case round =>
        clear HP0 HRR0 HBB0 HRB1 HR1 HB1 HRB HB0 HR0
        obtain ⟨st, P, HOK, hm, HS, HR, HB⟩ := hrel
        obtain ⟨f, rfl⟩ : ∃ f, gk = f + 1 := ⟨gk - 1, by omega⟩
        obtain ⟨xs, D, Ap, cp, css, hown, hV, hbp, hS, hT, hL, hgp, hbs⟩ := HS.out
        have hpl : P.length + muV st ≤ 2000000 := by
          have h1 := HOK.out.2.2.2
          have h2 := HSZ.out
          have h3 := size_er root
          rw [HER.out] at h3
          omega
        cases st with
        | nil =>
          obtain ⟨A1, c1, rfl⟩ := own_form hown
          obtain ⟨rfl, rfl⟩ := hV
          have hP : P = planT τ := by rw [← HER.out]; exact HOK.out.1
          have p0 := hbp.cell 0
          have pf := hbp.frozen 0
          have r0 := HR.out.cell 0
          have rf := HR.out.frozen 0
          simp only [List.getElem?_toArray, List.getElem?_cons_zero] at p0 r0
          simp only [List.length_nil] at hown ⊢
          have HRES := Lib.hid (show PlAt wr (fun i => w.heap.size + 2 ≤ i ∧ i < wr.heap.size) Ap P from ⟨css, rdF_own hS (fun g h1 h2 => ⟨h1, h2⟩), hT.keep (w' := wr) (fun _ _ _ => rfl) (Nat.le_refl _) (fun i hi _ => ⟨hi.1, hi.2.1⟩)⟩)
          clear hown hT hS hL hbp
          have hlr := HR.out.lt
          go_wp2_with fail
          refine bodyPost_ret (v := .tuple #[.agg #[.slice Ap (planT τ).length cp], .nilIface]) (by simp [results, Tryz.results20, go_sem, r0]) rfl ?_
          refine ⟨HB.out.setCell (p := ⟨w.heap.size + 1, 0, none⟩) (by show w.heap.size ≤ w.heap.size + 1; omega) _, ?_⟩
          rw [if_pos HAL.out, HTY.out]
          refine ⟨Ap, cp, rfl, ?_⟩
          exact PlAt.keep (w := wr) (w' := wr.setCell ⟨w.heap.size + 1, 0, none⟩ (.slice Ap (planT τ).length cp)) (F := fun i => w.heap.size + 2 ≤ i ∧ i < wr.heap.size) (fun i hi _ => Below.heap_setCell wr ⟨w.heap.size + 1, 0, none⟩ _ i (by have := hi.1; show i ≠ w.heap.size + 1; omega)) (by simp) (fun i hi _ => ⟨by have := hi.1; omega, by simpa using hi.2⟩) (hP ▸ HRES.out)
        | cons q st =>
          obtain ⟨x, idx⟩ := q
          obtain ⟨xs', Ai, ci, D', rfl, rfl, hD, hI, hV⟩ := hV
          obtain ⟨g, c, cur, rfl, hnc, hbg, hbl, hcz, htk, hback⟩ := own_full hown (by simp)
          have hl2 := hV.len
          obtain ⟨n, hn⟩ : ∃ n, n = st.length := ⟨_, rfl⟩
          have hn1 : ((x, idx) :: st).length = n + 1 := by rw [hn]; rfl
          rw [← hn] at hl2
          rw [hn1] at hown hnc htk hback ⊢
          obtain ⟨e0, e1⟩ := last_cells2 htk hl2
          have hgl := hbl.lt
          have hn3 : n ≤ 2000000 := by
            have h1 := muT_len st
            have h2 : muV ((x, idx) :: st) = 2 * sizeXL (x.args.drop idx.length) + 1 + muT st := rfl
            omega
          have hw1 : IntKind.i64.wrap (((n + 1 : Nat) : Int) - 1) = (n : Int) := by rw [show ((n + 1 : Nat) : Int) - 1 = (n : Int) by omega]; exact IntWalk.i64_in _ (by omega)
          have t1 : decide ((n : Int) < ((n + 1 : Nat) : Int)) = true := by simp; omega
          have t2 : decide (0 < n + 1) = true := by simp
          have hsub := HOK.out.2.1 (x, idx) (List.mem_cons_self ..)
          have hLx := LxAt.sub hsub.1 hL
          have HOWN := Lib.hid hown
          have HBK := Lib.hid hback
          have HTK := Lib.hid htk
          have HBL := Lib.hid hbl
          have HV := Lib.hid hV
          have HDD := Lib.hid hD
          have HI := Lib.hid hI
          have HST := Lib.hid hS
          have HT := Lib.hid hT
          have HLX := Lib.hid hL
          have HBP := Lib.hid hbp
          have HN := Lib.hid hn
          have HLXX := Lib.hid hLx
          have HSUB := Lib.hid hsub
          have e0 : wr.cell? ⟨g, n * 2, none⟩ = some (.pointer (some x.ad)) := (hbl.cell _).trans e0
          have e1 : wr.cell? ⟨g, n * 2 + 1, none⟩ = some (.slice Ai idx.length ci) := (hbl.cell _).trans e1
          clear hown hback htk hV hD hI hS hT hL hn hbl hn1 hsub hLx hbp
          have k0 := cell_regrown e0
          have k1 := cell_regrown e1
          have cO : ∀ d os, Calls Tryz.prog 38 #[.pointer (some x.ad)] (Go.Sort.grow (redrawn wr d) os) fun e w'' => e = .returned (.int .i64 (opsN x.er : Int)) ∧ ∃ p : Regrown, w'' = Go.Sort.grow (redrawn wr p.d) p.os :=
            fun d os => Calls.regrown_of (operands_any x (fun i => i < w.heap.size + 2) _ (LxAt.keep (F := fun i => i < w.heap.size + 2) (fun i hi hl => (below_regrown wr d os).block i hl) (fun _ h _ => h) x HLXX.out))
          go_wp2_with fail
          refine wp_region_quiet_below (by kernel_rfl) (by kernel_rfl) ?_
          repeat (quiet_step (exact cO _ _))
          refine wpQuiet_nil ?_
          intro _ hw'
          obtain ⟨⟨dq, osq⟩, hw''⟩ := hw'
          subst hw''
          have hq := below_regrown wr dq osq
          simp only
          have hgl2 : g < (Go.Sort.grow (redrawn wr dq) osq).heap.size := Nat.lt_of_lt_of_le hgl hq.size
          have e0 := (hq.cell (p := ⟨g, n * 2, none⟩) hgl).trans e0
          have e1 := (hq.cell (p := ⟨g, n * 2 + 1, none⟩) hgl).trans e1
          have HOWN := Lib.hid (own_below HOWN.out hq)
          have HBL := Lib.hid (HBL.out.below hq hgl)
          have HV := Lib.hid (HV.out.keep_int (fun i cur _ hb => hq.block i hb.lt))
          have HI := Lib.hid (own_below HI.out hq)
          have HST := Lib.hid (own_below HST.out hq)
          have HT := Lib.hid (HT.out.keep_int (fun i cur _ hb => hq.block i hb.lt) hq.size (fun i _ h => h))
          have HLX := Lib.hid (LxAt.keep (F := fun i => i < w.heap.size + 2) (fun i hi hl => hq.block i hl) (fun _ h _ => h) root HLX.out)
          have HLXX := Lib.hid (LxAt.keep (F := fun i => i < w.heap.size + 2) (fun i hi hl => hq.block i hl) (fun _ h _ => h) x HLXX.out)
          have HBP := Lib.hid (HBP.out.below hq HBP.out.lt)
          have HB := Lib.hid (HB.out.trans (hq.mono HB.out.size))
          have HR := Lib.hid (HR.out.below hq HR.out.lt)
          have hbs : w.heap.size + 2 ≤ (Go.Sort.grow (redrawn wr dq) osq).heap.size := Nat.le_trans hbs hq.size
          clear hq cO k0 k1 HS
          generalize Go.Sort.grow (redrawn wr dq) osq = w2 at *
          by_cases hlt : idx.length < opsN x.er
          · obtain ⟨y, hy⟩ : ∃ y, x.args[idx.length]? = some y := ⟨x.args[idx.length]'(by have := laid_ops (typ_laid HSUB.out.2.choose_spec); omega), List.getElem?_eq_getElem _⟩
            obtain ⟨bx, ox, Ax, cx, had, _, hbx, _, _, _, d3, hAx⟩ := HLXX.out.cells
            obtain ⟨⟨by', oy, hAe, hyad⟩, _⟩ := hAx.get _ y hy
            subst hAe
            have hkl : idx.length < x.args.length := (List.getElem?_eq_some_iff.1 hy).1
            have t3 : decide (idx.length < opsN x.er) = true := by simpa using hlt
            have t4 : ((idx.length : Nat) : Int) < ((x.args.length : Nat) : Int) := by omega
            have t5 : (0 : Int) ≤ ((idx.length : Nat) : Int) := by omega
            have hok := HOK.out.push hlt hy
            have HOK2 := Lib.hid hok.1
            have hmu := hok.2
            have HAD := Lib.hid had
            have HYAD := Lib.hid hyad
            rw [had] at e0
            rw [t3]
            clear hok hy hyad hAx had
            obtain ⟨wd, hwd⟩ : ∃ wd, wd = (w2.alloc (.cells #[.pointer (some ⟨by', oy + idx.length * 4, none⟩), .slice none 0 0] 95)).drew := ⟨_, rfl⟩
            have HBD := Lib.hid (show Below w2.heap.size w2 wd by rw [hwd]; exact (below_alloc _ _).drew)
            have ho5 := own_below HOWN.out HBD.out
            have hrr : Reads wd (w2.heap.size + 1) 2 (some ⟨w2.heap.size, 0, none⟩) 1 [.pointer (some ⟨by', oy + idx.length * 4, none⟩), .slice none 0 0] := by rw [hwd]; exact (reads2 w2 _ _ 95).drew
            have hone : ∀ u ∈ ([.pointer (some ⟨by', oy + idx.length * 4, none⟩), .slice none 0 0] : List Value), u.oneCell' = true := by simp [Value.oneCell']
            have hq1 : n + 1 + 1 ≤ maxLen := by unfold maxLen; omega
            have hq2 : (n + 1 + 1) * 32 ≤ 140737488355328 := by omega
            have hq3 : w.heap.size + 2 ≤ wd.heap.size := Nat.le_trans hbs HBD.out.size
            rw [hwd] at ho5 hrr hq3
            have HWD := Lib.hid hwd
            clear hwd
            go_upto_region 9 with (fail)
            obtain ⟨i0, hinf, hz0, hz1, hz2⟩ := info_parts infoVisit
            go_region_law
              (first | (refine step_append_any _ rfl (.tmp 40) (.tmp 55) 96 rfl (w.heap.size + 2) 95 i0 (.agg #[.pointer none, .slice none 0 0]) 2 32 Tryz.underlying96 hinf hz0 hz1 hz2 rfl (by decide) (.slice (some ⟨g, 0, none⟩) (n + 1) c) (n + 1) (xs' ++ [.pointer (some x.ad), .slice Ai idx.length ci]) rfl ho5 (w2.heap.size + 1) (some ⟨w2.heap.size, 0, none⟩) 1 1 [.pointer (some ⟨by', oy + idx.length * 4, none⟩), .slice none 0 0] rfl hrr hone hq1 hq2 hq3 ?_; intro v5 w5 hown5 hg5 hv5; have HO5 := Lib.hid hown5; have HG5 := Lib.hid hg5; clear hown5 hg5 hv5))
            all_goals
              rw [← HWD.out] at HG5
              have hg2 : w2.grownBy w5 (Value.slice (some ⟨g, 0, none⟩) (n + 1) c).ownBlock := (only_of_below HBD.out _).trans HG5.out
              have HR5 := Lib.hid (HR.out.grown hg2 (fun e => by have e : some (w.heap.size + 1) = some g := e; injection e with e; omega))
              have HB5 := Lib.hid (HB.out.grown hg2 HB.out.size (fun j e => by have e : some g = some j := e; injection e with e; omega))
              have HS5 : Hid (PoS w5 (w.heap.size + 2) root w1.heap.size v5 ((y, []) :: (x, idx) :: st) P) := Lib.hid (by
                have hn := HN.out
                have ho := HO5.out
                have hv := HOWN.out
                have hy2 := HYAD.out
                rw [Nat.zero_add] at hy2
                subst hn
                rw [← hy2] at ho
                exact PoS.push (st := (x, idx) :: st) hv ⟨xs', Ai, ci, D', rfl, rfl, HDD.out, HI.out, HV.out⟩ HBP.out HST.out HT.out HLX.out hgp hbs hg2 ho)
              clear hg2 e0 e1 d3 ho5 hrr
              go_wp2_with fail
              go_roundg f
              case measure => omega
              case rel => exact ⟨_, P, HOK2, by omega, HS5, HR5, HB5⟩
          · have t3 : decide (idx.length < opsN x.er) = false := by simpa using hlt
            have hk14 : x.kind = 1 ∨ x.kind = 2 ∨ x.kind = 3 ∨ x.kind = 4 := kind_of (by rw [HER.out]; exact HAL.out) HSUB.out.1
            have hst := fun W (hW : Below w2.heap.size w2 W) => stepOf_any x (fun i => i < w.heap.size + 2) Ai ci idx W (LxAt.keep (F := fun i => i < w.heap.size + 2) (fun i hi hl => hW.block i hl) (fun _ h _ => h) x HLXX.out) (typ_laid HSUB.out.2.choose_spec) hk14
            obtain ⟨so, sA, sn, sc, sm, stx, sty, hsc⟩ : ∃ so sA sn sc sm stx sty, stepC x.er Ai ci idx = [.string so, .slice sA sn sc, .int .i64 sm, .string stx, .int .i64 sty] := by
              unfold stepC; split <;> exact ⟨_, _, _, _, _, _, _, rfl⟩
            rw [hsc] at hst
            have HSC := Lib.hid hsc
            have K1 := Lib.hid (show ∀ W, Below w2.heap.size w2 W → Calls Tryz.prog 39 #[.pointer (some x.ad), .slice Ai idx.length ci] W (fun e w' => e = .returned (.agg #[.string so, .slice sA sn sc, .int .i64 sm, .string stx, .int .i64 sty]) ∧ Below w2.heap.size w2 w') from fun W hW => (hst W hW).mono (fun e w' h => ⟨h.1, hW.trans (h.2.mono hW.size)⟩))
            have K2 := Lib.hid (show ∀ W, Below w2.heap.size w2 W → W.cell? ⟨w1.heap.size, 0, none⟩ = some (.slice Ap P.length cp) ∧ W.cell? ⟨g, n * 2, none⟩ = some (.pointer (some x.ad)) ∧ W.cell? ⟨g, n * 2 + 1, none⟩ = some (.slice Ai idx.length ci) from fun W hW => ⟨(HBP.out.below hW HBP.out.lt).cell 0, (hW.cell (p := ⟨g, n * 2, none⟩) hgl2).trans e0, (hW.cell (p := ⟨g, n * 2 + 1, none⟩) hgl2).trans e1⟩)
            have K3 := Lib.hid (show ∀ W, Below w2.heap.size w2 W → W.ownsRow (w.heap.size + 2) 74 5 (.slice Ap P.length cp) P.length css from fun W hW => own_below HST.out hW)
            have K4 := Lib.hid (show ∀ W W5, Below w2.heap.size w2 W → W.grownBy W5 (Value.slice Ap P.length cp).ownBlock → Blk W5 w1.heap.size 29 #[.slice Ap P.length cp] from fun W W5 hW hg => (HBP.out.below hW HBP.out.lt).grown hg (fun e => own_blk_ne HST.out HBP.out (by decide) e.symm))
            obtain ⟨p0, _, _⟩ := K2.out w2 (Below.refl _ _)
            have pf := HBP.out.frozen 0
            have hq1 : P.length + 1 ≤ maxLen := by unfold maxLen; omega
            have hq2 : (P.length + 1) * 72 ≤ 140737488355328 := by omega
            rw [t3]
            clear hst hsc
            go_upto_region 10 with (fail)
            go_cut [] (fun wc => Hid (PoS wc (w.heap.size + 2) root w1.heap.size (.slice (some ⟨g, 0, none⟩) n c) st (P ++ [stepR x.er idx])) ∧ Hid (Blk wc (w.heap.size + 1) 29 #[.slice none 0 0]) ∧ Hid (Below w.heap.size w wc))
            case first =>
              obtain ⟨i0, hinf, hz0, hz1, hz2⟩ := info_parts infoStepP
              go_region_law
                (first
                  | (refine step_append_any _ rfl (.tmp 58) (.tmp 68) 27 rfl (w.heap.size + 2) 74 i0 (.agg #[.string ⟨#[]⟩, .slice none 0 0, .int .i64 0, .string ⟨#[]⟩, .int .i64 0]) 5 72 Tryz.underlying27 hinf hz0 hz1 hz2 rfl (by decide) (.slice Ap P.length cp) P.length css rfl ho3 (w3.heap.size + 1) (some ⟨w3.heap.size, 0, none⟩) 1 1 [.string so, .slice sA sn sc, .int .i64 sm, .string stx, .int .i64 sty] rfl hr3 (by simp [Value.oneCell']) hq1 hq2 (Nat.le_trans hbs HB3.out.size) ?_; intro v5 w5 hown5 hg5 hv5; obtain ⟨A5, c5, rfl⟩ := own_form hown5; have hk5 := K4.out _ w5 HB3.out hg5; have q6 := hk5.cell 0; have q7 := hk5.frozen 0; have HO5 := Lib.hid hown5; have HG5 := Lib.hid hg5; have HK5 := Lib.hid hk5; clear hown5 hg5 hv5 hk5)
                  | (go_simp; go_at_call 39; refine (K1.out w2.drew (Below.drew (Below.refl _ _))).mono ?_; rintro e w3 ⟨rfl, hb3⟩; have ho3 := K3.out _ (hb3.alloc hb3.size (.cells #[.string so, .slice sA sn sc, .int .i64 sm, .string stx, .int .i64 sty] 74)); have hr3 := reads5 w3 (.string so) (.slice sA sn sc) (.int .i64 sm) (.string stx) (.int .i64 sty) 74; obtain ⟨q0, q1, q2⟩ := K2.out _ hb3; obtain ⟨q3, q4, q5⟩ := K2.out _ (hb3.alloc hb3.size (.cells #[.string so, .slice sA sn sc, .int .i64 sm, .string stx, .int .i64 sty] 74)); have HB3 := Lib.hid (hb3.alloc hb3.size (.cells #[.string so, .slice sA sn sc, .int .i64 sm, .string stx, .int .i64 sty] 74)); clear hb3))
              all_goals
                have hdk := done_keep (u := .slice A5 (P.length + 1) c5) HB3.out HG5.out HST.out HBP.out hbs hgp
                have hSP5 := own_far (p := ⟨w1.heap.size, 0, none⟩) HO5.out (own_blk_ne HO5.out HK5.out (by decide)) (.slice A5 (P.length + 1) c5)
                have hg2 : w2.grownBy w5 (Value.slice Ap P.length cp).ownBlock := (only_of_below HB3.out _).trans HG5.out
                have HR6 := Lib.hid ((HR.out.grown hg2 (fun e => by have := (own_lo HST.out e.symm).1; omega)).far (p := ⟨w1.heap.size, 0, none⟩) (by show w.heap.size + 1 ≠ w1.heap.size; omega) (.slice A5 (P.length + 1) c5))
                have HB6 := Lib.hid ((HB.out.grown hg2 HB.out.size (fun j e => by have := (own_lo HST.out e).1; omega)).setCell (p := ⟨w1.heap.size, 0, none⟩) (by show w.heap.size ≤ w1.heap.size; omega) (.slice A5 (P.length + 1) c5))
                have HS6 : Hid (PoS (w5.setCell ⟨w1.heap.size, 0, none⟩ (.slice A5 (P.length + 1) c5)) (w.heap.size + 2) root w1.heap.size (.slice (some ⟨g, 0, none⟩) n c) st (P ++ [stepR x.er idx])) := Lib.hid (by
                  have hn := HN.out
                  have hv := HOWN.out
                  rw [← HSC.out] at hSP5
                  subst hn
                  exact PoS.done hv HV.out HDD.out HI.out HST.out HT.out HLX.out hgp hbs hdk.1 hdk.2.1 hdk.2.2 (HK5.out.set_ 0 _) hSP5)
                go_wp2_with fail
                go_meet
                case rel => exact ⟨HS6, HR6, HB6⟩
            case rest =>
              obtain ⟨HS6, HR6, HB6⟩ := hcut
              obtain ⟨wq, hwq⟩ : ∃ wq, wq = wc := ⟨_, rfl⟩
              subst hwq
              clear K1 K2 K3 K4 HSC HI HT HLX HLXX HST HV HDD HBP HOWN HBL HTK HR HB p0 pf e0 e1
              have hn0 := HN.out
              cases st with
              | nil =>
                have hn0 : n = 0 := hn0
                have t6 : ¬ (0 < n) := by omega
                have t7 : decide (0 < n) = false := by simpa using t6
                have t8 : decide ((0 : Int) < (n : Int)) = false := by simpa using t6
                have t9 : (n : Int) ≤ ((n + 1 : Nat) : Int) := by omega
                have HOK3 := Lib.hid (HOK.out.last (by omega))
                have hmm : muV [] < f := by
                  have : 2 * sizeXL (x.args.drop idx.length) + 1 + 0 < f + 1 := hm
                  show 0 < f
                  omega
                rw [hn0] at HS6
                clear hn0
                go_wp2_with fail
                go_roundg f
                case measure => omega
                case rel => exact ⟨[], _, HOK3, hmm, HS6, HR6, HB6⟩
              | cons q st =>
                obtain ⟨y, jdx⟩ := q
                obtain ⟨m, hm0⟩ : ∃ m, m = st.length := ⟨_, rfl⟩
                have hnm : n = m + 1 := by rw [hn0, hm0]; rfl
                have HOK3 := Lib.hid (HOK.out.done (by omega))
                obtain ⟨xs2, D2, Ap2, cp2, css2, hown2, hV2, hbp2, hS2, hT2, hL2, hgp2, hbs2⟩ := HS6.out
                obtain ⟨xs3, Aj, cj, D3, rfl, rfl, hD3, hI3, hV3⟩ := hV2
                obtain ⟨g4, c4, cur4, hv4, hnc4, hbg4, hbl4, hcz4, htk4, hback4⟩ := own_full hown2 (by simp)
                injection hv4 with h41 h42 h43
                injection h41 with h41
                injection h41 with h41
                subst h41 h43 hnm
                have hl4 := hV3.len
                rw [← hm0] at hl4
                have hn5 : ((y, jdx) :: st).length = m + 1 := by rw [hm0]; rfl
                rw [hn5] at hown2 htk4 hback4
                have HM0 := Lib.hid hm0
                clear hm0 hn5 hn0 h42 hnc4
                obtain ⟨z0, z1⟩ := last_cells2 htk4 hl4
                have z0 : wq.cell? ⟨g, m * 2, none⟩ = some (.pointer (some y.ad)) := (hbl4.cell _).trans z0
                have z1 : wq.cell? ⟨g, m * 2 + 1, none⟩ = some (.slice Aj jdx.length cj) := (hbl4.cell _).trans z1
                have zp := hbp2.cell 0
                have hgl4 := hbl4.lt
                have hgp4 := hbp2.lt
                have hgn4 : ¬ (wq.heap.size = g) := by omega
                have hgn5 : ¬ (wq.heap.size = w1.heap.size) := by omega
                have zf := hbl4.frozen (m * 2 + 1)
                have t6 : 0 < m + 1 := by omega
                have t9 : ((m + 1 : Nat) : Int) ≤ ((m + 1 + 1 : Nat) : Int) := by omega
                have hw2 : IntKind.i64.wrap (((m + 1 : Nat) : Int) - 1) = (m : Int) := by rw [show ((m + 1 : Nat) : Int) - 1 = (m : Int) by omega]; exact IntWalk.i64_in _ (by omega)
                have t10 : decide ((m : Int) < ((m + 1 : Nat) : Int)) = true := by simp; omega
                simp only [List.getElem?_toArray, List.getElem?_cons_zero, List.length_append, List.length_singleton] at zp
                have hw3 : IntKind.i64.wrap (((P.length + 1 : Nat) : Int) - 1) = (P.length : Int) := by rw [show ((P.length + 1 : Nat) : Int) - 1 = (P.length : Int) by omega]; exact IntWalk.i64_in _ (by omega)
                have hw4 : IntKind.i64.wrap ((P.length : Nat) : Int) = (P.length : Int) := IntWalk.i64_in _ (by omega)
                have hrd : Reads (wq.alloc (.cells #[.int .i64 (P.length : Int)] 3)).drew (wq.heap.size + 1) 1 (some ⟨wq.heap.size, 0, none⟩) 1 [.int .i64 (P.length : Int)] := (Reads.of_alloc wq #[.int .i64 (P.length : Int)] 3 (B := wq.heap.size + 1) (n := 1) (by omega) rfl).drew
                have ho9 := own_below hI3 (w' := (wq.alloc (.cells #[.int .i64 (P.length : Int)] 3)).drew) (below_alloc _ _).drew
                have K9 := Lib.hid (show ∀ w9, (wq.alloc (.cells #[.int .i64 (P.length : Int)] 3)).drew.grownBy w9 (Value.slice Aj jdx.length cj).ownBlock → Blk w9 g 95 cur4 from fun w9 hg => (hbl4.below (below_alloc wq _).drew hbl4.lt).grown hg (fun e => own_blk_ne hI3 hbl4 (by decide) e.symm))
                have hq0 : jdx.length + 1 ≤ 4 := by have h1 := HOK.out.2.2.1.2 (y, jdx) (List.mem_cons_self ..); have h2 := opsN_small y.er; have h3 : jdx.length < opsN y.er := h1; omega
                have hq4 : jdx.length + 1 ≤ maxLen := by unfold maxLen; omega
                have hq5 : (jdx.length + 1) * 8 ≤ 140737488355328 := by omega
                have hq6 : w.heap.size + 2 ≤ ((wq.alloc (.cells #[.int .i64 (P.length : Int)] 3)).drew).heap.size := Nat.le_trans hbs2 (below_alloc wq _).drew.size
                have HKEEP := Lib.hid (And.intro hown2 (And.intro hV3 (And.intro hbp2 (And.intro hS2 (And.intro hT2 (And.intro hL2 (And.intro hD3 (And.intro hI3 (And.intro hbl4 (And.intro htk4 (And.intro hback4 (And.intro hl4 hcz4))))))))))))
                clear hown2 hV3 hbp2 hS2 hT2 hL2 hD3 hI3 hbl4 htk4 hback4 hl4 hcz4 z0 HBK HN HS6 HSUB hk14 t3 hlt hl2 hcz hbg
                obtain ⟨i1, hinf1, hz10, hz11, hz12⟩ := info_parts infoInt
                go_wp2_with fail
                go_region_law
                  (first
                    | (refine step_append_any _ rfl (.tmp 88) (.tmp 93) 25 rfl (w.heap.size + 2) 3 i1 (.int .i64 0) 1 8 Tryz.underlying25 hinf1 hz10 hz11 hz12 rfl (by decide) (.slice Aj jdx.length cj) jdx.length (jdx.map (Value.int .i64)) rfl ho9 (wq.heap.size + 1) (some ⟨wq.heap.size, 0, none⟩) 1 1 [.int .i64 (P.length : Int)] rfl hrd (by simp [Value.oneCell']) hq4 hq5 hq6 ?_; intro v9 w9 hown9 hg9 hv9; obtain ⟨A9, c9, rfl⟩ := own_form hown9; have HO9 := Lib.hid hown9; have HG9 := Lib.hid hg9; have HV9 := Lib.hid hv9; have z9 := K9.out _ hg9; have z8 := (z9.cell (m * 2 + 1)).trans ((HKEEP.out.2.2.2.2.2.2.2.2.1.cell (m * 2 + 1)).symm.trans z1); have z7 := z9.frozen (m * 2 + 1); clear hown9 hg9 hv9))
                all_goals
                  obtain ⟨hown2, hV3, hbp2, hS2, hT2, hL2, hD3, hI3, hbl4, htk4, hback4, hl4, hcz4⟩ := HKEEP.out
                  have hg9 : wq.grownBy w9 (Value.slice Aj jdx.length cj).ownBlock := (only_of_below (below_alloc wq (.cells #[.int .i64 (P.length : Int)] 3)).drew _).trans HG9.out
                  have hne9 : (Value.slice A9 (jdx.length + 1) c9).ownBlock ≠ some g := own_blk_ne HO9.out z9 (by decide)
                  have HR7 := Lib.hid ((HR6.out.grown hg9 (fun e => by have := (own_lo hI3 e.symm).1; omega)).far (p := ⟨g, m * 2 + 1, none⟩) (by show w.heap.size + 1 ≠ g; omega) (.slice A9 (jdx.length + 1) c9))
                  have HB7 := Lib.hid ((HB6.out.grown hg9 HB6.out.size (fun j e => by have := (own_lo hI3 e).1; omega)).setCell (p := ⟨g, m * 2 + 1, none⟩) (by show w.heap.size ≤ g; omega) (.slice A9 (jdx.length + 1) c9))
                  have HS7 : Hid (PoS (w9.setCell ⟨g, m * 2 + 1, none⟩ (.slice A9 (jdx.length + 1) c9)) (w.heap.size + 2) root w1.heap.size (.slice (some ⟨g, 0, none⟩) (m + 1) c) ((y, jdx ++ [(P.length : Int)]) :: st) (P ++ [stepR x.er idx])) := Lib.hid (by
                    have hz7 := z9.set_ (m * 2 + 1) (.slice A9 (jdx.length + 1) c9)
                    have hm0 := HM0.out
                    refine PoS.above (wr := wq) (Aj := Aj) (cj := cj) (cs := cp2) (Vi := .slice A9 (jdx.length + 1) c9) (xs := xs3) hV3 hD3 hbp2 hS2 hT2 hL2 hgp hbs2 (fun i t cur h1 h2 hb => ?_) (fun i hi => ?_) (by have := hg9.size; simpa using this) (own_far (p := ⟨g, m * 2 + 1, none⟩) HO9.out hne9 _) ?_ (fun i t cur ht hb => own_blk_ne hI3 hb ht) ?_
                    · exact (Below.heap_setCell w9 ⟨g, m * 2 + 1, none⟩ _ i (Blk.ne_ hb hbl4 (Ne.symm h1))).trans (hg9.block i hb.lt (fun e => h2 e.symm))
                    · exact (Below.heap_setCell w9 ⟨g, m * 2 + 1, none⟩ _ i (by show i ≠ g; omega)).trans (hg9.block i (by omega) (fun e => by have := (own_lo hI3 e.symm).1; omega))
                    · rcases HV9.out with h | h
                      · exact .inl h
                      · exact .inr ⟨_, h, by simp⟩
                    · rw [← hm0]
                      exact hback4 _ _ _ hz7 (by simp) (by simp; omega) (last_setB htk4 hl4 _))
                  have hfin : muV ((y, jdx ++ [(P.length : Int)]) :: st) < f := by have := HOK3.out.2; omega
                  have HOK4 := Lib.hid HOK3.out.1
                  clear hown2 hV3 hbp2 hS2 hT2 hL2 hD3 hI3 hbl4 htk4 hback4 hl4 hcz4 hg9 hne9 HKEEP K9 HOK3 HO9 HG9 HV9 z9 z8 z7 z1 zp zf hrd ho9 hinf1 hz10 hz11 hz12 HR6 HB6 HM0
                  generalize w9.setCell ⟨g, m * 2 + 1, none⟩ (.slice A9 (jdx.length + 1) c9) = wz at *
                  go_wp2_with fail
                  go_roundg f
                  case measure => omega
                  case rel => exact ⟨_, P ++ [stepR x.er idx], HOK4, hfin, HS7, HR7, HB7⟩
  · have HAL := Lib.hid hall
    rw [if_neg hall]
    clear hall
    go_wp2_with fail
    refine bodyPost_ret (v := .tuple #[.agg #[.slice none 0 0], .iface 51 (.int .i64 4)]) (by simp [results, Tryz.results20, go_sem, r0]) rfl ?_
    refine ⟨HB1.out.setCell (p := ⟨w.heap.size + 1, 0, none⟩) (by show w.heap.size ≤ w.heap.size + 1; omega) _, ?_⟩
    rw [if_neg HAL.out]
end Go.Proofs.YtoegklpomlhneaaGreatDoor
