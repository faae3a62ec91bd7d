/- The walk of syntax.Size. -/
import Derived.Test.YtniefnjcimempaaqRp
import Derived.Test.YtniefnjcimempaaqOfT
import Derived.Test.YtniefnjcimempaaqRk
import Derived.IntWalk
namespace Go.Proofs.Ytniefnjcimempaa
open Go.RowKit
theorem run_makeMap_hint {P : Program} (t k e : TypeId) (kd : IntKind) (n : Int) (ht : P.underlying t = some (.map k e)) (w : World) :
    (Instr.makeMap t (some (.int kd n))).run P w = .ok (.map (some w.heap.size)) (w.alloc (.map #[] 0)) := by
  simp [Instr.makeMap, run_underlying ht]; rfl
/-- The sizes that the map knows. -/
def SzOk (root : Lx) (out : List Lx) (k : Nat) (s : List (Addr × Value)) : Prop :=
  (∀ x ∈ out.take k, lookL s x.ad = some (.int .i64 x.size)) ∧ ∀ q ∈ s, ∃ x, Sub x root ∧ x.ad = q.1
def SzRel (w : World) (root : Lx) (out : List Lx) (mb : Nat) (v : Value) (f : Nat) (i : Value) (wr : World) : Prop := ∃ (k : Nat) (s : List (Addr × Value)), i = .int .i64 k ∧ k ≤ out.length ∧ out.length - k < f ∧
  Hid (MapIs wr mb encA s) ∧ Hid (SzOk root out k s) ∧ Hid (wr.ownsRow (w.heap.size + 1) 64 1 v out.length (outC out)) ∧ Hid (LxAt wr (fun i => i < w.heap.size + 1) root) ∧ w.heap.size + 1 ≤ mb ∧ Hid (Below w.heap.size w wr)
def SzIn (wo : World) (x : Lx) (f : Nat) (i v : Value) (wr : World) : Prop := ∃ j : Nat, i = .int .i64 j ∧ j ≤ x.args.length ∧ x.args.length - j < f ∧ v = .int .i64 ((1 + sizeXL (x.args.take j) : Nat) : Int) ∧ wo = wr
theorem own_at_blk {w : World} {base e size n c g : Nat} {xs : List Value} (h : w.ownsRow base e size (.slice (some ⟨g, 0, none⟩) n c) n xs) (_ : 0 < n) : ∃ cur, Blk w g e cur := (own_lo h rfl).2
theorem own_grown {w w' : World} {base e size n : Nat} {v : Value} {xs : List Value} {r : Option Nat} (h : w.ownsRow base e size v n xs) (hg : w.grownBy w' r) (hne : v.ownBlock ≠ none → r ≠ v.ownBlock) : w'.ownsRow base e size v n xs := by
  refine ⟨h.1, ?_⟩
  rcases h.2 with h | ⟨g, cap, cur, h1, h2, h3, h4⟩
  · exact .inl h
  · exact .inr ⟨g, cap, cur, h1, h2, (hg.block g (Blk.lt h3) (fun e => hne (by rw [h1]; simp [Value.ownBlock]) (by rw [h1]; exact e.symm))).trans h3, h4⟩
set_option maxRecDepth 100000 in
set_option maxHeartbeats 8000000 in
theorem size_lx (w : World) (kind num : Int) (text : List UInt8) (A : Option Addr) (c : Nat) (args : List Lx)
    (hl : LxAts w (fun i => i < w.heap.size) A 0 args) (hsz : sizeXL args ≤ 900000) :
    Calls Try.prog 12 #[.agg #[.int .i64 kind, .string ⟨text.toArray⟩, .int .i64 num, .slice A args.length c]] w fun e w' => e = .returned (.int .i64 ((1 + sizeXL args : Nat) : Int)) ∧ Below w.heap.size w w' := by
  obtain ⟨root, hroot⟩ : ∃ r, r = Lx.node ⟨w.heap.size, 0, none⟩ kind text num args := ⟨_, rfl⟩
  obtain ⟨w0, hw0⟩ : ∃ w0, w0 = w.alloc (.cells #[.int .i64 kind, .string ⟨text.toArray⟩, .int .i64 num, .slice A args.length c] 31) := ⟨_, rfl⟩
  have hs0 : w0.heap.size = w.heap.size + 1 := by rw [hw0]; simp
  have hb0 : Below w.heap.size w w0 := by rw [hw0]; exact (Below.refl _ _).alloc (Nat.le_refl _) _
  have hr0 : LxAt w0 (fun i => i < w0.heap.size) root := by
    rw [hroot]
    unfold LxAt
    refine ⟨w.heap.size, 0, A, c, 31, _, rfl, by omega, by rw [hw0]; exact Blk.new _ _ _, rfl, rfl, rfl, rfl, ?_⟩
    exact LxAts.keep (F := fun i => i < w.heap.size) (fun i hi _ => hb0.block i hi) (fun i hi _ => by omega) A 0 args hl
  have hra : root.ad = ⟨w.heap.size, 0, none⟩ := by rw [hroot]; rfl
  have hrz : root.size = 1 + sizeXL args := by rw [hroot]; rfl
  have hord := Order_any root w0 hr0 (by omega)
  rw [hra, hw0] at hord
  rw [← hrz]
  have hrm : root.size ≤ 900001 := by omega
  have HORD := Lib.hid hord
  have HR0 := Lib.hid hr0
  have HB0 := Lib.hid hb0
  have HS0 := Lib.hid hs0
  have HRA := Lib.hid hra
  have HW0 := Lib.hid hw0
  clear hord hr0 hb0 hs0 hl hsz hra hroot hw0 hrz
  go_enter Try.func12, Try.ntmps12
  go_wp2_with fail
  refine HORD.out.mono ?_
  rintro e w1 ⟨he, hb1⟩
  rw [← HW0.out] at hb1
  rw [if_pos (allT root)] at he
  obtain ⟨v, out, rfl, hown, hin, hlst, hol⟩ := he
  rw [← HW0.out, HS0.out] at hown
  obtain ⟨Av, cv, rfl⟩ := own_form hown
  have HB1 := Lib.hid hb1
  have HOW := Lib.hid hown
  have HIN := Lib.hid hin
  have HLS := Lib.hid hlst
  have hs1 : w.heap.size + 1 ≤ w1.heap.size := by have := hb1.size; have := HS0.out; omega
  have hmm : ∀ (n : Int) (W : World), (Instr.makeMap 65 (some (.int .i64 n))).run Try.prog W = .ok (.map (some W.heap.size)) (W.alloc (.map #[] 0)) := fun n W => run_makeMap_hint (P := Try.prog) 65 64 3 .i64 n Try.underlying65 W
  have HOL := Lib.hid hol
  have hol2 : out.length ≤ 1900000 := by omega
  clear hb1 hown hin hlst hol
  go_wp2_with fail
  clear hmm
  have hmb : w.heap.size + 1 ≤ w1.heap.size := hs1
  have HMB := Lib.hid (show LxAt w1 (fun i => i < w.heap.size + 1) root from LxAt.keep (F := fun i => i < w0.heap.size) (fun i hi _ => HB1.out.block i hi) (fun i hi _ => by have := HS0.out; omega) root HR0.out)
  have HBA := Lib.hid (show Below w.heap.size w w1 from HB0.out.trans (HB1.out.mono HB0.out.size))
  have hbz := HBA.out.size
  go_loopg [19, 7, 8, 9, 28] (out.length + 1) (fun f i _ _ _ _ wr => SzRel w root out w1.heap.size (.slice Av out.length cv) f i wr)
  case atStart =>
    exact ⟨0, [], rfl, by omega, by omega, Lib.hid (MapIs.new w1 encA 0), Lib.hid ⟨fun x hx => by simp at hx, fun q hq => by cases hq⟩, Lib.hid (HOW.out.alloc _), Lib.hid (LxAt.keep (F := fun i => i < w.heap.size + 1) (fun i hi _ => Below.heap_alloc w1 _ i (by omega)) (fun _ h _ => h) root HMB.out), hs1, Lib.hid (HBA.out.alloc hbz _)⟩
  case round =>
    obtain ⟨wo, rfl⟩ : ∃ wo : World, wo = wr := ⟨_, rfl⟩
    obtain ⟨k, s, rfl, hk, hkf, HM, HSO, HOW, HLX, _, HBW⟩ := hrel
    obtain ⟨f, rfl⟩ : ∃ f, gk = f + 1 := ⟨gk - 1, by omega⟩
    have HPL : Hid (∀ q ∈ s, plainA wo q.1) := Lib.hid fun q hq => by
      obtain ⟨x, h1, h2⟩ := HSO.out.2 q hq
      rw [← h2]; exact (LxAt.sub h1 HLX.out).plain.1
    by_cases hlt : k < out.length
    · obtain ⟨x, hx⟩ : ∃ x, out[k]? = some x := ⟨out[k], List.getElem?_eq_getElem hlt⟩
      have hsub := (HLS.out k x hx).1
      have harg := (HLS.out k x hx).2
      have hX := LxAt.sub hsub HLX.out
      obtain ⟨b, o, A', c', had, hFb, hbl, d0, d1, d2, d3, hA'⟩ := hX.cells
      obtain ⟨go, co, hgv, hgc, hbg, hgl, hcell⟩ := own_at HOW.out (by omega)
      injection hgv with hgA _ hgC
      subst hgA hgC
      have y0 : wo.cell? ⟨go, k, none⟩ = some (.pointer (some ⟨b, o, none⟩)) := by rw [← had]; exact hcell k _ (by unfold outC; rw [List.getElem?_map, hx]; rfl)
      have hpx : plainA wo ⟨b, o, none⟩ := by rw [← had]; exact hX.plain.1
      have hxz : x.size ≤ 900001 := by have := hsub.size; omega
      have hxe := x.size_eq
      have hxl : x.args.length ≤ 900001 := by have := args_len x; omega
      have HOWB := Lib.hid (own_at_blk HOW.out (by omega))
      have HX := Lib.hid hx
      have HSB := Lib.hid hsub
      have HAG := Lib.hid harg
      have HAD := Lib.hid had
      have HA' := Lib.hid hA'
      have HPX := Lib.hid hpx
      have HXE := Lib.hid hxe
      have HXZ := Lib.hid hxz
      have q0 : (k : Int) < (out.length : Int) := by omega
      have q1 : (0 : Int) ≤ (k : Int) := by omega
      clear hx hsub harg hX had hcell hpx hA' d0 d1 d2 hxe hxz
      go_wp2_with fail
      go_loopg [28, 8, 9] (x.args.length + 1) (fun f i v _ wr => SzIn wo x f i v wr)
      case atStart => exact ⟨0, rfl, by omega, by omega, rfl, rfl⟩
      case round =>
        obtain ⟨j, rfl, hj, hjf, rfl, rfl⟩ := hrel
        obtain ⟨f2, rfl⟩ : ∃ f2, gk = f2 + 1 := ⟨gk - 1, by omega⟩
        by_cases hjl : j < x.args.length
        · obtain ⟨a, ha⟩ : ∃ a, x.args[j]? = some a := ⟨x.args[j], List.getElem?_eq_getElem hjl⟩
          have hmem := List.mem_of_getElem? ha
          obtain ⟨⟨b2, o2, hA2, had2⟩, hXa⟩ := HA'.out.get j a ha
          subst hA2
          rw [Nat.zero_add] at had2
          have hlk := HM.out.lookup (keyE wo) Try.underlying65 HPL.out (z := .int .i64 0) (by kernel_rfl) a.ad hXa.plain.1 false
          rw [HSO.out.1 a (HAG.out a hmem), had2] at hlk
          have hlk : (Instr.lookup 65 (.map (some w1.heap.size)) (.pointer (some ⟨b2, o2 + j * 4, none⟩)) false).run Try.prog wo = .ok (.int .i64 (a.size : Int)) wo := hlk
          have htk : sizeXL (x.args.take (j + 1)) = sizeXL (x.args.take j) + a.size := by rw [List.take_add_one, ha]; exact (sizeXL_append _ _).trans (by simp [sizeXL])
          have hle : sizeXL (x.args.take (j + 1)) ≤ sizeXL x.args := by
            have := sizeXL_append (x.args.take (j + 1)) (x.args.drop (j + 1))
            rw [List.take_append_drop] at this
            omega
          have hb1 := HXE.out
          have hb2 := HXZ.out
          have w1' := IntWalk.i64_in (((1 + sizeXL (x.args.take j) : Nat) : Int) + (a.size : Int)) (by omega)
          have HTK := Lib.hid htk
          have p0 : (j : Int) < (x.args.length : Int) := by omega
          have p1 : (0 : Int) ≤ (j : Int) := by omega
          generalize hS : 1 + sizeXL (x.args.take j) = S at *
          have HS := Lib.hid hS
          clear ha hmem hXa had2 htk hle hb1 hb2 hS
          go_wp2_with fail
          try go_quiet (fail)
          go_wp2_with fail
          go_roundg f2
          case measure => omega
          case rel => exact ⟨j + 1, by go_num, by omega, by omega, by rw [HTK.out, ← Nat.add_assoc, HS.out, Int.natCast_add], rfl⟩
        · have hjs : j = x.args.length := by omega
          subst hjs
          rw [List.take_length, ← HXE.out]
          generalize hZ : x.size = Z at *
          have HZ := Lib.hid hZ
          clear hZ
          go_wp2_with (at_mapUpdate; refine wpList_update_law rfl _ _ _ 65 rfl w1.heap.size encA s 64 3 (plainA wo) HM.out (keyE _) Try.underlying65 HPL.out ⟨b, o, none⟩ HPX.out rfl rfl ?_)
          intro w4 hM4 hg4 hs4
          have hM4' : MapIs w4 w1.heap.size encA (updL s x.ad (.int .i64 (x.size : Int))) := by rw [HAD.out, HZ.out]; exact hM4
          have hL4 := LxAt.keep (G := fun i => i < w.heap.size + 1) (fun i hi hl => hg4.block i hl (fun e => by injection e with e; omega)) (fun _ h _ => h) root HLX.out
          have hO4 : w4.ownsRow (w.heap.size + 1) 64 1 (.slice (some ⟨go, 0, none⟩) out.length cv) out.length (outC out) := own_grown HOW.out hg4 (fun _ e => by obtain ⟨cur, hc⟩ := HOWB.out; have e : some w1.heap.size = some go := e; injection e with e; exact map_ne HM.out hc e)
          have HU := Lib.hid (And.intro hM4' (And.intro hL4 (And.intro hO4 hg4)))
          clear hM4' hL4 hO4 hM4
          go_wp2_with fail
          go_roundg f
          case measure => omega
          case rel =>
            obtain ⟨hM4, hL4, hO4, hg4⟩ := HU.out
            refine ⟨k + 1, _, by go_num, by omega, by omega, Lib.hid hM4, Lib.hid ⟨fun y hy => ?_, fun q hq => ?_⟩, Lib.hid hO4, Lib.hid hL4, hs1, Lib.hid (HBW.out.grown hg4 (by have := HBW.out.size; omega) (fun j e => by injection e with e; omega))⟩
            · rw [look_upd]
              by_cases e : x.ad = y.ad
              · rw [if_pos e]
                have hys : Sub y root := by
                  obtain ⟨j, hj⟩ := List.getElem?_of_mem (List.mem_of_mem_take hy)
                  exact (HLS.out j y hj).1
                rw [LxAt.det x y (LxAt.sub HSB.out HLX.out) (LxAt.sub hys HLX.out) e]
              · rw [if_neg e]
                rw [List.take_add_one, HX.out] at hy
                rcases List.mem_append.1 hy with hy | hy
                · exact HSO.out.1 y hy
                · have : y = x := by simpa using hy
                  exact absurd (by rw [this]) e
            · rcases mem_upd hq with hq | hq
              · exact ⟨x, HSB.out, hq.symm⟩
              · exact HSO.out.2 q hq
    · have hks : k = out.length := by omega
      subst hks
      have hrt := HSO.out.1 root (by rw [List.take_length]; exact HIN.out)
      have hlk := HM.out.lookup (keyE wo) Try.underlying65 HPL.out (z := .int .i64 0) (by kernel_rfl) root.ad HLX.out.plain.1 false
      rw [hrt, HRA.out] at hlk
      have hlk : (Instr.lookup 65 (.map (some w1.heap.size)) (.pointer (some ⟨w.heap.size, 0, none⟩)) false).run Try.prog wo = .ok (.int .i64 (root.size : Int)) wo := hlk
      clear hrt
      go_wp2_with fail
      go_ret
      exact ⟨rfl, HBW.out⟩
theorem size_tx (τ : Tx) (cs : List Value) (w : World) (h : NodeV w (fun i => i < w.heap.size) τ cs) (hsz : τ.size ≤ 900000) :
    Calls Try.prog 12 #[.agg cs.toArray] w fun e w' => e = .returned (.int .i64 (τ.size : Int)) ∧ Below w.heap.size w w' := by
  obtain ⟨A, c, l, h1, h2, h3⟩ := h
  obtain ⟨k, t, n, args⟩ := τ
  have h2 : erL l = args := h2
  have hn : args.length = l.length := by rw [← h2, erL_length]
  have hs : 1 + sizeXL l = Tx.size (.node k t n args) := by rw [sizeXL_er, h2]; rfl
  have := size_lx w k n t A c l h3 (by omega)
  rw [h1, ← hs]
  show Calls _ _ #[.agg #[.int .i64 k, .string ⟨t.toArray⟩, .int .i64 n, .slice A args.length c]] _ _
  rw [hn]
  exact this
end Go.Proofs.Ytniefnjcimempaa
