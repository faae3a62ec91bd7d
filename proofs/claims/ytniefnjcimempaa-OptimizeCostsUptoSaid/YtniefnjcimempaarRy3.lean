/- The walks of the rules' names, and of optimize.Of at the fixed example (printed by gen_org.py). The walks of optimize.Of at the fixed example and of optimize.Step at one number. -/
import Derived.Test.YtniefnjcimempaarOrE
import Derived.Test.YtniefnjcimempaarRl
namespace Go.Proofs.Ytniefnjcimempaa
open Go.RowKit
def namesR : List (List UInt8) := [[115, 104, 97, 114, 101], [102, 111, 108, 100], [110, 101, 117, 116, 114, 97, 108], [110, 101, 103, 97, 116, 101], [99, 111, 109, 109, 111, 110], [109, 97, 116, 99, 104, 101, 115], [102, 105, 114, 115, 116, 102, 105, 110, 100], [108, 101, 110, 99, 117, 116], [108, 101, 110, 115, 117, 109], [108, 101, 110, 114, 101, 112], [117, 110, 117, 115, 101, 100]]
def namesC : Array Value := #[.string ⟨#[115, 104, 97, 114, 101]⟩, .string ⟨#[102, 111, 108, 100]⟩, .string ⟨#[110, 101, 117, 116, 114, 97, 108]⟩, .string ⟨#[110, 101, 103, 97, 116, 101]⟩, .string ⟨#[99, 111, 109, 109, 111, 110]⟩, .string ⟨#[109, 97, 116, 99, 104, 101, 115]⟩, .string ⟨#[102, 105, 114, 115, 116, 102, 105, 110, 100]⟩, .string ⟨#[108, 101, 110, 99, 117, 116]⟩, .string ⟨#[108, 101, 110, 115, 117, 109]⟩, .string ⟨#[108, 101, 110, 114, 101, 112]⟩, .string ⟨#[117, 110, 117, 115, 101, 100]⟩]
theorem namesC_at {i : Nat} {s : List UInt8} (h : namesR[i]? = some s) : namesC[i]? = some (.string ⟨s.toArray⟩) := by
  have hi := (List.getElem?_eq_some_iff.1 h).1
  have hi : i < 11 := hi
  have hc : i = 0 ∨ i = 1 ∨ i = 2 ∨ i = 3 ∨ i = 4 ∨ i = 5 ∨ i = 6 ∨ i = 7 ∨ i = 8 ∨ i = 9 ∨ i = 10 := by omega
  rcases hc with rfl | rfl | rfl | rfl | rfl | rfl | rfl | rfl | rfl | rfl | rfl <;> (injection h with h; subst h; rfl)
set_option maxRecDepth 100000 in
theorem rules_any (w : World) : Calls Try.prog 20 #[] w fun e w' => e = .returned (.slice (some ⟨w.heap.size, 0, none⟩) 11 11) ∧ Blk w' w.heap.size 9 namesC ∧ Below w.heap.size w w' := by
  have HB := Lib.hid (Blk.new w 9 namesC)
  have HL := Lib.hid (below_alloc w (.cells namesC 9))
  unfold namesC at HB HL ⊢
  go_enter Try.func20, Try.ntmps20
  go_wp2_with fail
  go_ret
  exact ⟨rfl, HB.out, HL.out⟩
theorem EdS.below {w0 w w' : World} {g gs cap : Nat} {l : List St} (h : EdS w0 w g gs cap l) (hb : Below w.heap.size w w') : EdS w0 w' g gs cap l := by
  obtain ⟨h1, V, h2⟩ := h
  exact ⟨h1.then_ (Kept.of_below hb), V, h2.below hb⟩
def keys23 : List KeyS := [keyN 2, keyN 3, ⟨[43], [], 0, 1, 0, 0⟩]
theorem share_23 {w0 w : World} {g gs cap : Nat} (h : EdS w0 w g gs cap l23) : Calls Try.prog 55 #[.pointer (some ⟨g, 0, none⟩)] w fun e w' => e = .returned (.bool false) ∧ EdS w0 w' g gs cap l23 := by
  have h' := h
  obtain ⟨h1, V, h5⟩ := h
  have hx := h5.ed.cell 0
  simp only [List.getElem?_toArray, List.getElem?_cons_zero] at hx
  refine (share_none g gs cap keys23 (fun j k hj hk e => ?_) (by decide) w h5.ed.lt hx (fun i k hk => ?_)).mono ?_
  · have hk : k < 3 := hk
    have hc : (j = 0 ∧ k = 1) ∨ (j = 0 ∧ k = 2) ∨ (j = 1 ∧ k = 2) := by omega
    rcases hc with ⟨rfl, rfl⟩ | ⟨rfl, rfl⟩ | ⟨rfl, rfl⟩ <;> exact absurd e (by decide)
  · have hi : i < 3 := (List.getElem?_eq_some_iff.1 hk).1
    have hc : i = 0 ∨ i = 1 ∨ i = 2 := by omega
    rcases hc with rfl | rfl | rfl
    · injection hk with hk
      subst hk
      obtain ⟨As, c, x0, x1, x2, x3, x4, hr⟩ := h5.st 0 (numSt 2) rfl
      exact ⟨As, c, [], 1, by simp, rfl, rfl, rfl, h5.gs_lt, x0, x1, x2, x3, x4, hr.reads⟩
    · injection hk with hk
      subst hk
      obtain ⟨As, c, x0, x1, x2, x3, x4, hr⟩ := h5.st 1 (numSt 3) rfl
      exact ⟨As, c, [], 1, by simp, rfl, rfl, rfl, h5.gs_lt, x0, x1, x2, x3, x4, hr.reads⟩
    · injection hk with hk
      subst hk
      obtain ⟨As, c, x0, x1, x2, x3, x4, hr⟩ := h5.st 2 ⟨[43], [0, 1], 0, [], 1⟩ rfl
      exact ⟨As, c, [0, 1], 1, by simp, rfl, rfl, rfl, h5.gs_lt, x0, x1, x2, x3, x4, hr.reads⟩
  · rintro e w' ⟨rfl, hb⟩
    exact ⟨rfl, h'.below hb⟩
theorem first_fold23 {w0 w : World} {g gs cap : Nat} (h : EdS w0 w g gs cap l23) : Calls Try.prog 56 #[.pointer (some ⟨g, 0, none⟩), .func (.func 57) #[.pointer (some ⟨g, 0, none⟩)] #[]] w fun e w' => e = .returned (.bool true) ∧ EdS w0 w' g gs cap (numsL [2, 3, 5]) := by
  have hc : ∀ w, EdS w0 w g gs cap l23 → w.cell? ⟨g, 0, none⟩ = some (.slice (some ⟨gs, 0, none⟩) 3 cap) := fun w h => by
    obtain ⟨_, V, h5⟩ := h
    have := h5.ed.cell 0
    simp only [List.getElem?_toArray, List.getElem?_cons_zero] at this
    exact this
  refine (first_gen 57 g gs 3 cap 2 (fun w => EdS w0 w g gs cap l23) (fun w => EdS w0 w g gs cap (numsL [2, 3, 5])) (by omega) (by omega) (fun x w => by kernel_rfl) hc (fun i w hi hw => ?_) (fun w hk hw => ?_) w h).mono ?_
  · have hw' := hw
    obtain ⟨_, V, h5⟩ := hw
    have hi2 : i = 0 ∨ i = 1 := by omega
    rcases hi2 with rfl | rfl
    · obtain ⟨As, c, hx⟩ := (h5.st 0 (numSt 2) rfl).num
      refine (fold_num g gs 3 cap 0 As c _ 1 _ w (hc w hw') (by omega) hx).mono ?_
      rintro e w' ⟨rfl, hb⟩
      exact ⟨rfl, hw'.below hb⟩
    · obtain ⟨As, c, hx⟩ := (h5.st 1 (numSt 3) rfl).num
      refine (fold_num g gs 3 cap 1 As c _ 1 _ w (hc w hw') (by omega) hx).mono ?_
      rintro e w' ⟨rfl, hb⟩
      exact ⟨rfl, hw'.below hb⟩
  · obtain ⟨h1, V, h5⟩ := hw
    refine (fold_plus g gs cap V w h5).mono ?_
    rintro e w' ⟨rfl, he, hk⟩
    exact ⟨rfl, h1.then_ hk, V, he⟩
  · rintro e w' (⟨_, rfl, h⟩ | ⟨h, _⟩)
    · exact ⟨rfl, h⟩
    · omega
set_option maxRecDepth 100000 in
theorem apply_share23 {w0 w : World} {g gs cap : Nat} (h : EdS w0 w g gs cap l23) : Calls Try.prog 36 #[.pointer (some ⟨g, 0, none⟩), .string ⟨#[115, 104, 97, 114, 101]⟩] w fun e w' => e = .returned (.bool false) ∧ EdS w0 w' g gs cap l23 := by
  have HS := Lib.hid (share_23 h)
  have hmf : ∀ (fn : Fn) (first cap : Array Value) (w : World), (Instr.makeFunc fn first cap).run Try.prog w = .ok (.func fn first cap) w := fun _ _ _ _ => rfl
  clear h
  go_enter Try.func36, Try.ntmps36
  go_wp2_with fail
  refine HS.out.mono ?_
  rintro e w1 ⟨rfl, h1⟩
  have H1 := Lib.hid h1
  clear h1
  go_wp2_with fail
  go_ret
  exact ⟨rfl, H1.out⟩
set_option maxRecDepth 100000 in
theorem apply_fold23 {w0 w : World} {g gs cap : Nat} (h : EdS w0 w g gs cap l23) : Calls Try.prog 36 #[.pointer (some ⟨g, 0, none⟩), .string ⟨#[102, 111, 108, 100]⟩] w fun e w' => e = .returned (.bool true) ∧ EdS w0 w' g gs cap (numsL [2, 3, 5]) := by
  have HS := Lib.hid (first_fold23 h)
  have hmf : ∀ (fn : Fn) (first cap : Array Value) (w : World), (Instr.makeFunc fn first cap).run Try.prog w = .ok (.func fn first cap) w := fun _ _ _ _ => rfl
  clear h
  go_enter Try.func36, Try.ntmps36
  go_wp2_with fail
  refine HS.out.mono ?_
  rintro e w1 ⟨rfl, h1⟩
  have H1 := Lib.hid h1
  clear h1
  go_wp2_with fail
  go_ret
  exact ⟨rfl, H1.out⟩
structure RowN (w0 : World) (g gs gr : Nat) : Prop where
  blk : Blk w0 gr 9 namesC
  g : gr ≠ g
  gs : gr ≠ gs
theorem RowN.at_ {w0 w : World} {g gs gr : Nat} (h : RowN w0 g gs gr) (hk : Kept (fun b => b = g ∨ b = gs) w0 w) (i : Nat) (s : List UInt8) (hs : namesR[i]? = some s) : ∃ b o, (some ⟨gr, 0, none⟩ : Option Addr) = some ⟨b, o, none⟩ ∧ w.cell? ⟨b, o + i, none⟩ = some (.string ⟨s.toArray⟩) :=
  ⟨gr, 0, rfl, by rw [Nat.zero_add, (h.blk.kept hk (fun e => e.elim h.g h.gs)).cell]; exact namesC_at hs⟩
theorem round0 {w0 w : World} {g gs cap gr : Nat} (c : Nat) (hr : RowN w0 g gs gr) (h : EdS w0 w g gs cap l23) : Calls Try.prog 35 #[.slice (some ⟨gr, 0, none⟩) 11 c, .func (.func 36) #[.pointer (some ⟨g, 0, none⟩)] #[]] w fun e w' => e = .returned (.bool true) ∧ EdS w0 w' g gs cap (numsL [2, 3, 5]) := by
  refine (contF_gen 36 (.pointer (some ⟨g, 0, none⟩)) (some ⟨gr, 0, none⟩) c 1 namesR (fun w => EdS w0 w g gs cap l23) (fun w => EdS w0 w g gs cap (numsL [2, 3, 5])) (by decide) (by decide) (fun x w => by kernel_rfl) (fun w i s hw hs => hr.at_ hw.1 i s hs) (fun i s w hi hs hw => ?_) (fun s w hs hw => ?_) w h).mono ?_
  · obtain rfl : i = 0 := by omega
    injection hs with hs
    subst hs
    exact apply_share23 hw
  · injection hs with hs
    subst hs
    exact apply_fold23 hw
  · rintro e w' (⟨_, rfl, h⟩ | ⟨h, _⟩)
    · exact ⟨rfl, h⟩
    · exact absurd h (by decide)
theorem apply_ten {w0 w : World} {g gs cap : Nat} {ns : List Int} (hd : Diff ns) (i : Nat) (s : List UInt8) (hi : i < 10) (hs : namesR[i]? = some s) (h : NumE w0 w g gs cap ns) : Calls Try.prog 36 #[.pointer (some ⟨g, 0, none⟩), .string ⟨s.toArray⟩] w fun e w' => e = .returned (.bool false) ∧ NumE w0 w' g gs cap ns := by
  have hc : i = 0 ∨ i = 1 ∨ i = 2 ∨ i = 3 ∨ i = 4 ∨ i = 5 ∨ i = 6 ∨ i = 7 ∨ i = 8 ∨ i = 9 := by omega
  rcases hc with rfl | rfl | rfl | rfl | rfl | rfl | rfl | rfl | rfl | rfl
  · injection hs with hs
    subst hs
    exact apply_share h hd
  · injection hs with hs
    subst hs
    exact apply_fold h
  · injection hs with hs
    subst hs
    exact apply_neutral h
  · injection hs with hs
    subst hs
    exact apply_negate h
  · injection hs with hs
    subst hs
    exact apply_common h
  · injection hs with hs
    subst hs
    exact apply_matches h
  · injection hs with hs
    subst hs
    exact apply_firstfind h
  · injection hs with hs
    subst hs
    exact apply_lencut h
  · injection hs with hs
    subst hs
    exact apply_lensum h
  · injection hs with hs
    subst hs
    exact apply_lenrep h
theorem round1 {w0 w : World} {g gs cap gr : Nat} (c : Nat) (n : Int) (ns : List Int) (hd : Diff (n :: ns)) (hn : n ≤ 1000) (hl : 1 ≤ ns.length) (hr : RowN w0 g gs gr) (h : NumE w0 w g gs cap (n :: ns)) : Calls Try.prog 35 #[.slice (some ⟨gr, 0, none⟩) 11 c, .func (.func 36) #[.pointer (some ⟨g, 0, none⟩)] #[]] w fun e w' => e = .returned (.bool true) ∧ EdS w0 w' g gs cap (numsL ns) := by
  refine (contF_gen 36 (.pointer (some ⟨g, 0, none⟩)) (some ⟨gr, 0, none⟩) c 10 namesR (fun w => NumE w0 w g gs cap (n :: ns)) (fun w => EdS w0 w g gs cap (numsL ns)) (by decide) (by decide) (fun x w => by kernel_rfl) (fun w i s hw hs => hr.at_ hw.1 i s hs) (fun i s w hi hs hw => apply_ten hd i s hi hs hw) (fun s w hs hw => ?_) w h).mono ?_
  · injection hs with hs
    subst hs
    exact apply_unused2 hw hl hn
  · rintro e w' (⟨_, rfl, h⟩ | ⟨h, _⟩)
    · exact ⟨rfl, h⟩
    · exact absurd h (by decide)
theorem diff_one (n : Int) : Diff [n] := fun j k hj hk => by simp at hk; omega
theorem round2 {w0 w : World} {g gs cap gr : Nat} (c : Nat) (n : Int) (hr : RowN w0 g gs gr) (h : NumE w0 w g gs cap [n]) : Calls Try.prog 35 #[.slice (some ⟨gr, 0, none⟩) 11 c, .func (.func 36) #[.pointer (some ⟨g, 0, none⟩)] #[]] w fun e w' => e = .returned (.bool false) ∧ NumE w0 w' g gs cap [n] := by
  refine (contF_gen 36 (.pointer (some ⟨g, 0, none⟩)) (some ⟨gr, 0, none⟩) c 11 namesR (fun w => NumE w0 w g gs cap [n]) (fun _ => False) (by decide) (by decide) (fun x w => by kernel_rfl) (fun w i s hw hs => hr.at_ hw.1 i s hs) (fun i s w hi hs hw => ?_) (fun s w hs hw => by cases hs) w h).mono ?_
  · by_cases h10 : i < 10
    · exact apply_ten (diff_one n) i s h10 hs hw
    · obtain rfl : i = 10 := by omega
      injection hs with hs
      subst hs
      exact apply_unused1 hw
  · rintro e w' (⟨h, _⟩ | ⟨_, rfl, h⟩)
    · exact absurd h (by decide)
    · exact ⟨rfl, h⟩
end Go.Proofs.Ytniefnjcimempaa
namespace Go.Proofs.Ytniefnjcimempaa
open Go.RowKit
theorem check23 : checkR l23 = 0 := by kernel_rfl
theorem modest23 : Modest l23 := ⟨by decide, fun s hs => by
  simp only [l23, List.mem_cons, List.not_mem_nil, or_false] at hs
  rcases hs with rfl | rfl | rfl <;> decide⟩
theorem args23 : ∀ s ∈ l23, s.args.length ≤ 3 ∧ ∀ a ∈ s.args, 0 ≤ a ∧ a < (l23.length : Int) := by decide
theorem diff235 : Diff [2, 3, 5] := fun j k hj hk => by
  have hk : k < 3 := hk
  have hc : (j = 0 ∧ k = 1) ∨ (j = 0 ∧ k = 2) ∨ (j = 1 ∧ k = 2) := by omega
  rcases hc with ⟨rfl, rfl⟩ | ⟨rfl, rfl⟩ | ⟨rfl, rfl⟩ <;> decide
theorem diff35 : Diff [3, 5] := fun j k hj hk => by
  have hk : k < 2 := hk
  have hc : j = 0 ∧ k = 1 := by omega
  obtain ⟨rfl, rfl⟩ := hc
  decide
theorem EdAt.farN {w : World} {g gs cap : Nat} {ns : List Int} {V : Value} (h : EdAt w g gs cap (numsL ns) V) {p : Addr} (h1 : g ≠ p.block) (h2 : gs ≠ p.block) (u : Value) : EdAt (w.setCell p u) g gs cap (numsL ns) V := by
  refine ⟨h.ed.far h1 u, fun i s hs => ?_, ?_, h.le, h.cap⟩
  · obtain ⟨As, c, x0, x1, x2, x3, x4, hr⟩ := h.st i s hs
    obtain ⟨n, _, rfl⟩ := numsL_at hs
    have hc : ∀ j, (w.setCell p u).cell? ⟨gs, j, none⟩ = w.cell? ⟨gs, j, none⟩ := fun j => World.cell?_of_block (Below.heap_setCell w p u gs h2)
    exact ⟨As, c, (hc _).trans x0, (hc _).trans x1, (hc _).trans x2, (hc _).trans x3, (hc _).trans x4, ⟨rfl, fun h => by simp [numSt] at h⟩⟩
  · obtain ⟨cs, e1, e2⟩ := h.blk
    exact ⟨cs, e1.far h2 u, e2⟩
def OgRel (w0 : World) (g gs cap : Nat) (f : Nat) (wr : World) : Prop := (4 ≤ f ∧ Hid (EdS w0 wr g gs cap l23)) ∨ (3 ≤ f ∧ Hid (NumE w0 wr g gs cap [2, 3, 5])) ∨ (2 ≤ f ∧ Hid (NumE w0 wr g gs cap [3, 5])) ∨ (1 ≤ f ∧ Hid (NumE w0 wr g gs cap [5]))
set_option maxRecDepth 100000 in
set_option maxHeartbeats 8000000 in
theorem of_23 (A : Option Addr) (c : Nat) (w : World) (hp : PlAt w (fun i => i < w.heap.size) A l23) :
    Calls Try.prog 19 #[.agg #[.slice A 3 c]] w fun e w' => ∃ g gs cap V, e = .returned (.tuple #[.agg #[.slice (some ⟨gs, 0, none⟩) 1 cap], .nilIface]) ∧ EdAt w' g gs cap (numsL [5]) V ∧ Below w.heap.size w w' := by
  obtain ⟨wa, hwa⟩ : ∃ wa, wa = (w.alloc (.cells #[.slice A 3 c] 28)).alloc (.cells #[.slice none 0 0] 28) := ⟨_, rfl⟩
  have hba : Below w.heap.size w wa := by rw [hwa]; exact (below_alloc w _).alloc (by simp) _
  have HXA := Lib.hid (show Blk wa w.heap.size 28 #[.slice A 3 c] by rw [hwa]; exact (Blk.new _ _ _).alloc _)
  have HRA := Lib.hid (show Blk wa (w.heap.size + 1) 28 #[.slice none 0 0] by
    rw [hwa]
    have := Blk.new (w.alloc (.cells #[.slice A 3 c] 28)) 28 #[.slice none 0 0]
    simpa using this)
  have HPA := Lib.hid (hp.below hba)
  have hck := Check_any A c l23 wa HPA.out modest23
  rw [check23] at hck
  have HCK := Lib.hid (show Calls Try.prog 17 #[.agg #[.slice A 3 c]] wa fun e w' => e = .returned .nilIface ∧ Below wa.heap.size wa w' from hck)
  have HBA := Lib.hid hba
  have HWA := Lib.hid hwa
  clear hp hba hck hwa
  go_enter Try.func19, Try.ntmps19
  go_wp2_with fail
  rw [← HWA.out]
  refine HCK.out.mono ?_
  rintro e w1 ⟨rfl, hb1⟩
  have hza := HBA.out.size
  have HB1 := Lib.hid (HBA.out.trans (hb1.mono hza))
  have hz1 := HB1.out.size
  have HR1 := Lib.hid (HRA.out.below hb1 HRA.out.lt)
  have HX1 := Lib.hid (HXA.out.below hb1 HXA.out.lt)
  have x1 := HX1.out.cell 0
  simp only [List.getElem?_toArray, List.getElem?_cons_zero] at x1
  have HNE := Lib.hid (show Calls Try.prog 34 #[.agg #[.slice A 3 c]] w1 _ from newEditor_any A c l23 w1 (HPA.out.below hb1) (by decide) (by decide) args23)
  clear hb1 HCK
  go_wp2_with fail
  refine HNE.out.mono ?_
  rintro e w2 ⟨g, gs, cap, gu, rfl, he2, hu2, hb2, hg, hs⟩
  have HB2 := Lib.hid (HB1.out.trans (hb2.mono hz1))
  have hz2 := HB2.out.size
  have HE2 := Lib.hid he2
  have HR2 := Lib.hid (HR1.out.below hb2 HR1.out.lt)
  have hrl1 := HR1.out.lt
  clear he2 hu2 hb2 HNE x1
  go_wp2_with fail
  refine (rules_any _).mono ?_
  rintro e w3 ⟨rfl, hn3, hb3⟩
  have HB3 := Lib.hid (HB2.out.trans (hb3.mono hz2))
  have hE3 := HE2.out.below hb3
  have HRN : Hid (RowN w3 g gs w2.heap.size) := Lib.hid ⟨hn3, fun e => by have := HE2.out.ed.lt; omega, fun e => by have := HE2.out.gs_lt; omega⟩
  have HR3 := Lib.hid (HR2.out.below hb3 HR2.out.lt)
  have hs0 : EdS w3 w3 g gs cap l23 := ⟨Kept.refl _ _, _, hE3⟩
  have HS0 := Lib.hid hs0
  clear hn3 hb3 hE3 hs0
  have hmf : ∀ (fn : Fn) (first cap : Array Value) (w : World), (Instr.makeFunc fn first cap).run Try.prog w = .ok (.func fn first cap) w := fun _ _ _ _ => rfl
  go_wp2_with fail
  go_loopg [] 5 (fun f wr => OgRel w3 g gs cap f wr)
  case atStart => exact Or.inl ⟨by omega, HS0⟩
  case round =>
    clear HS0
    obtain ⟨f, rfl⟩ : ∃ f, gk = f + 1 := ⟨gk - 1, by rcases hrel with h | h | h | h <;> omega⟩
    rcases hrel with ⟨hf, HS⟩ | ⟨hf, HN⟩ | ⟨hf, HN⟩ | ⟨hf, HN⟩
    · have HC := Lib.hid (round0 (cap := cap) 11 HRN.out HS.out)
      go_wp2_with fail
      refine HC.out.mono ?_
      rintro e w4 ⟨rfl, h4⟩
      have HC4 := Lib.hid (count_nums h4)
      clear h4 HC
      go_wp2_with fail
      refine HC4.out.mono ?_
      rintro e w5 ⟨rfl, h5⟩
      have H5 := Lib.hid h5
      clear h5 HC4
      go_wp2_with fail
      go_roundg f
      case measure => omega
      case rel => exact Or.inr (Or.inl ⟨by omega, H5⟩)
    · have HC := Lib.hid (round1 (cap := cap) 11 2 [3, 5] diff235 (by omega) (by decide) HRN.out HN.out)
      go_wp2_with fail
      refine HC.out.mono ?_
      rintro e w4 ⟨rfl, h4⟩
      have HC4 := Lib.hid (count_nums h4)
      clear h4 HC
      go_wp2_with fail
      refine HC4.out.mono ?_
      rintro e w5 ⟨rfl, h5⟩
      have H5 := Lib.hid h5
      clear h5 HC4
      go_wp2_with fail
      go_roundg f
      case measure => omega
      case rel => exact Or.inr (Or.inr (Or.inl ⟨by omega, H5⟩))
    · have HC := Lib.hid (round1 (cap := cap) 11 3 [5] diff35 (by omega) (by decide) HRN.out HN.out)
      go_wp2_with fail
      refine HC.out.mono ?_
      rintro e w4 ⟨rfl, h4⟩
      have HC4 := Lib.hid (count_nums h4)
      clear h4 HC
      go_wp2_with fail
      refine HC4.out.mono ?_
      rintro e w5 ⟨rfl, h5⟩
      have H5 := Lib.hid h5
      clear h5 HC4
      go_wp2_with fail
      go_roundg f
      case measure => omega
      case rel => exact Or.inr (Or.inr (Or.inr ⟨by omega, H5⟩))
    · have HC := Lib.hid (round2 (cap := cap) 11 5 HRN.out HN.out)
      go_wp2_with fail
      refine HC.out.mono ?_
      rintro e w4 ⟨rfl, hk4, gu4, he4, _⟩
      have hz3 := HB3.out.size
      have hR4 := HR3.out.kept hk4 (fun e => by rcases e with e | e <;> omega)
      have r0 := hR4.cell 0
      have r1 := hR4.frozen 0
      have x0 := he4.ed.cell 0
      simp only [List.getElem?_toArray, List.getElem?_cons_zero] at r0 x0
      replace x0 : w4.cell? ⟨g, 0, none⟩ = some (.slice (some ⟨gs, 0, none⟩) 1 cap) := x0
      have HE4 := Lib.hid (he4.farN (p := ⟨w.heap.size + 1, 0, none⟩) (by show g ≠ w.heap.size + 1; omega) (by show gs ≠ w.heap.size + 1; omega) (.slice (some ⟨gs, 0, none⟩) 1 cap))
      have HB4 := Lib.hid ((hk4.below HB3.out hz3 (fun i hi => by rcases hi with rfl | rfl <;> omega)).setCell (p := ⟨w.heap.size + 1, 0, none⟩) (by show w.heap.size ≤ w.heap.size + 1; omega) (.slice (some ⟨gs, 0, none⟩) 1 cap))
      clear hk4 he4 hR4 HC
      go_wp2_with fail
      refine bodyPost_ret (v := .tuple #[.agg #[.slice (some ⟨gs, 0, none⟩) 1 cap], .nilIface]) (by simp [results, Try.results19, go_sem, r0]) rfl ?_
      exact ⟨g, gs, cap, _, rfl, HE4.out, HB4.out⟩
end Go.Proofs.Ytniefnjcimempaa
