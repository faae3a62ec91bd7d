/- The walk of optimize.apply at an editor whose steps are different numbers (printed by gen_orl.py). The first steps of the fixed example: share and fold at 2, 3, 2 + 3. -/
import Derived.Test.YtniefnjcimempaarRy1
namespace Go.Proofs.Ytniefnjcimempaa
open Go.RowKit
theorem bumps_nil (z : List Int) : bumps z [] = z := rfl
theorem usesK_nums (ns : List Int) (k : Nat) : usesK (numsL ns) k = List.replicate (numsL ns).length 0 := by
  unfold usesK
  have : ∀ (t : List St) (z : List Int), (∀ s ∈ t, s.args = []) → t.foldl (fun z s => bumps z s.args) z = z := by
    intro t
    induction t with
    | nil => intro z _; rfl
    | cons s t ih => intro z h; rw [List.foldl_cons, h s (List.mem_cons_self ..), bumps_nil]; exact ih z (fun s hs => h s (List.mem_cons_of_mem _ hs))
  exact this _ _ (fun s hs => by
    obtain ⟨i, hi⟩ := List.getElem?_of_mem (List.mem_of_mem_take hs)
    obtain ⟨n, _, rfl⟩ := numsL_at hi
    rfl)
def EdS (w0 w : World) (g gs cap : Nat) (l : List St) : Prop := Kept (fun b => b = g ∨ b = gs) w0 w ∧ ∃ V, EdAt w g gs cap l V
def NumE (w0 w : World) (g gs cap : Nat) (ns : List Int) : Prop := Kept (fun b => b = g ∨ b = gs) w0 w ∧ ∃ gu, EdAt w g gs cap (numsL ns) (.slice (some ⟨gu, 0, none⟩) ns.length ns.length) ∧ Blk w gu 3 (uarr (List.replicate ns.length 0))
theorem NumE.below {w0 w w' : World} {g gs cap : Nat} {ns : List Int} (h : NumE w0 w g gs cap ns) (hb : Below w.heap.size w w') : NumE w0 w' g gs cap ns := by
  obtain ⟨h1, gu, h5, h6⟩ := h
  exact ⟨h1.then_ (Kept.of_below hb), gu, h5.below hb, h6.below hb h6.lt⟩
theorem count_nums {w0 w : World} {g gs cap : Nat} {ns : List Int} (h : EdS w0 w g gs cap (numsL ns)) : Calls Try.prog 37 #[.pointer (some ⟨g, 0, none⟩)] w fun e w' => e = .returned (.tuple #[]) ∧ NumE w0 w' g gs cap ns := by
  obtain ⟨h1, V, h5⟩ := h
  refine (count_any g gs cap (numsL ns) V w h5 (fun s hs => ?_)).mono ?_
  · obtain ⟨i, hi⟩ := List.getElem?_of_mem hs
    obtain ⟨n, _, rfl⟩ := numsL_at hi
    exact ⟨by simp [numSt], fun a ha => by cases ha⟩
  · rintro e w' ⟨rfl, he, hu, hg⟩
    rw [numsL_len] at he
    refine ⟨rfl, h1.then_ (Kept.of_grown hg (fun b e => .inl (by injection e with e; exact e.symm))), _, he, ?_⟩
    have := usesK_nums ns (numsL ns).length
    unfold usesR at hu
    rw [this, numsL_len] at hu
    exact hu
def keyN (n : Int) : KeyS := ⟨[110, 117, 109, 98, 101, 114], [], 0, 0, 0, n⟩
def Diff (ns : List Int) : Prop := ∀ j k, j < k → k < ns.length → ns[j]? ≠ ns[k]?
theorem share_nums {w0 w : World} {g gs cap : Nat} {ns : List Int} (h : NumE w0 w g gs cap ns) (hd : Diff ns) : Calls Try.prog 55 #[.pointer (some ⟨g, 0, none⟩)] w fun e w' => e = .returned (.bool false) ∧ NumE w0 w' g gs cap ns := by
  have h' := h
  obtain ⟨h1, gu, h5, h6⟩ := h
  have hl : (ns.map keyN).length = ns.length := by simp
  have hx := h5.ed.cell 0
  simp only [List.getElem?_toArray, List.getElem?_cons_zero] at hx
  rw [numsL_len, ← hl] at hx
  have hcap := h5.cap
  have hle := h5.le
  rw [numsL_len] at hle hcap
  refine (share_none g gs cap (ns.map keyN) (fun j k hj hk e => ?_) (by omega) w h5.ed.lt hx (fun i k hk => ?_)).mono ?_
  · rw [List.getElem?_map, List.getElem?_map] at e
    rw [hl] at hk
    refine hd j k hj hk ?_
    rw [List.getElem?_eq_getElem hk, List.getElem?_eq_getElem (by omega)] at e ⊢
    simp only [Option.map_some, Option.some.injEq, keyN, KeyS.mk.injEq, true_and] at e
    rw [e]
  · rw [List.getElem?_map] at hk
    cases hn : ns[i]? with
    | none => rw [hn] at hk; cases hk
    | some n =>
      rw [hn] at hk
      simp only [Option.map_some, Option.some.injEq] at hk
      subst hk
      obtain ⟨As, c, x0, x1, x2, x3, x4, hr⟩ := h5.st i (numSt n) (by unfold numsL; rw [List.getElem?_map, hn]; rfl)
      exact ⟨As, c, [], 1, by simp, rfl, rfl, rfl, h5.gs_lt, x0, x1, x2, x3, x4, hr.reads⟩
  · rintro e w' ⟨rfl, hb⟩
    exact ⟨rfl, h'.below hb⟩
theorem rule_none (F : Nat) (hcf : ∀ (p x : Value) (w : World), (callFunc F #[p, x]).run Try.prog w = .ok (.enter F #[p, x]) w)
    (hF : ∀ (g gs n cap i : Nat) (As : Option Addr) (cs : Nat) (num ty : Int) (T : ByteArray) (w : World), w.cell? ⟨g, 0, none⟩ = some (.slice (some ⟨gs, 0, none⟩) n cap) → i < n → NumAt w gs i As cs num T ty → Calls Try.prog F #[.pointer (some ⟨g, 0, none⟩), .int .i64 i] w fun e w' => e = .returned (.bool false) ∧ Below w.heap.size w w')
    {w0 w : World} {g gs cap : Nat} {ns : List Int} (h : NumE w0 w g gs cap ns) : Calls Try.prog 56 #[.pointer (some ⟨g, 0, none⟩), .func (.func F) #[.pointer (some ⟨g, 0, none⟩)] #[]] w fun e w' => e = .returned (.bool false) ∧ NumE w0 w' g gs cap ns := by
  have hb : ns.length ≤ 100000 := by
    obtain ⟨_, gu, h5, _⟩ := h
    have := h5.cap
    rw [numsL_len] at this
    omega
  have hc : ∀ w, NumE w0 w g gs cap ns → w.cell? ⟨g, 0, none⟩ = some (.slice (some ⟨gs, 0, none⟩) ns.length cap) := fun w h => by
    obtain ⟨_, gu, h5, _⟩ := h
    have := h5.ed.cell 0
    simpa [numsL_len] using this
  refine (first_gen F g gs ns.length cap ns.length (fun w => NumE w0 w g gs cap ns) (fun _ => False) hb (Nat.le_refl _) (fun x w => hcf _ x w) hc (fun i w hi hw => ?_) (fun w hk => by omega) w h).mono ?_
  · have hw' := hw
    obtain ⟨_, gu, h5, _⟩ := hw
    obtain ⟨As, c, hx⟩ := (h5.st i (numSt ns[i]) (by unfold numsL; rw [List.getElem?_map, List.getElem?_eq_getElem hi]; rfl)).num
    refine (hF g gs ns.length cap i As c _ 1 _ w (hc w hw') hi hx).mono ?_
    rintro e w' ⟨rfl, hb⟩
    exact ⟨rfl, hw'.below hb⟩
  · rintro e w' (⟨h, _⟩ | ⟨_, rfl, h⟩)
    · omega
    · exact ⟨rfl, h⟩
set_option maxRecDepth 100000 in
theorem apply_share {w0 w : World} {g gs cap : Nat} {ns : List Int} (h : NumE w0 w g gs cap ns) (hd : Diff ns) : Calls Try.prog 36 #[.pointer (some ⟨g, 0, none⟩), .string ⟨#[115, 104, 97, 114, 101]⟩] w fun e w' => e = .returned (.bool false) ∧ NumE w0 w' g gs cap ns := by
  have HS := Lib.hid (share_nums h hd)
  have hmf : ∀ (fn : Fn) (first cap : Array Value) (w : World), (Instr.makeFunc fn first cap).run Try.prog w = .ok (.func fn first cap) w := fun _ _ _ _ => rfl
  clear h
  go_enter Try.func36, Try.ntmps36
  go_wp2_with fail
  refine HS.out.mono ?_
  rintro e w1 ⟨rfl, h1⟩
  have H1 := Lib.hid h1
  clear h1
  go_wp2_with fail
  go_ret
  exact ⟨rfl, H1.out⟩
set_option maxRecDepth 100000 in
theorem apply_fold {w0 w : World} {g gs cap : Nat} {ns : List Int} (h : NumE w0 w g gs cap ns) : Calls Try.prog 36 #[.pointer (some ⟨g, 0, none⟩), .string ⟨#[102, 111, 108, 100]⟩] w fun e w' => e = .returned (.bool false) ∧ NumE w0 w' g gs cap ns := by
  have HS := Lib.hid (rule_none 57 (fun _ _ _ => by kernel_rfl) (fun g gs n cap i As cs num ty T w hg hi x => fold_num g gs n cap i As cs num ty T w hg hi x) h)
  have hmf : ∀ (fn : Fn) (first cap : Array Value) (w : World), (Instr.makeFunc fn first cap).run Try.prog w = .ok (.func fn first cap) w := fun _ _ _ _ => rfl
  clear h
  go_enter Try.func36, Try.ntmps36
  go_wp2_with fail
  refine HS.out.mono ?_
  rintro e w1 ⟨rfl, h1⟩
  have H1 := Lib.hid h1
  clear h1
  go_wp2_with fail
  go_ret
  exact ⟨rfl, H1.out⟩
set_option maxRecDepth 100000 in
theorem apply_neutral {w0 w : World} {g gs cap : Nat} {ns : List Int} (h : NumE w0 w g gs cap ns) : Calls Try.prog 36 #[.pointer (some ⟨g, 0, none⟩), .string ⟨#[110, 101, 117, 116, 114, 97, 108]⟩] w fun e w' => e = .returned (.bool false) ∧ NumE w0 w' g gs cap ns := by
  have HS := Lib.hid (rule_none 58 (fun _ _ _ => by kernel_rfl) (fun g gs n cap i As cs num ty T w hg hi x => neutral_num g gs n cap i As cs num ty T w hg hi x) h)
  have hmf : ∀ (fn : Fn) (first cap : Array Value) (w : World), (Instr.makeFunc fn first cap).run Try.prog w = .ok (.func fn first cap) w := fun _ _ _ _ => rfl
  clear h
  go_enter Try.func36, Try.ntmps36
  go_wp2_with fail
  refine HS.out.mono ?_
  rintro e w1 ⟨rfl, h1⟩
  have H1 := Lib.hid h1
  clear h1
  go_wp2_with fail
  go_ret
  exact ⟨rfl, H1.out⟩
set_option maxRecDepth 100000 in
theorem apply_negate {w0 w : World} {g gs cap : Nat} {ns : List Int} (h : NumE w0 w g gs cap ns) : Calls Try.prog 36 #[.pointer (some ⟨g, 0, none⟩), .string ⟨#[110, 101, 103, 97, 116, 101]⟩] w fun e w' => e = .returned (.bool false) ∧ NumE w0 w' g gs cap ns := by
  have HS := Lib.hid (rule_none 59 (fun _ _ _ => by kernel_rfl) (fun g gs n cap i As cs num ty T w hg hi x => negate_num g gs n cap i As cs num ty T w hg hi x) h)
  have hmf : ∀ (fn : Fn) (first cap : Array Value) (w : World), (Instr.makeFunc fn first cap).run Try.prog w = .ok (.func fn first cap) w := fun _ _ _ _ => rfl
  clear h
  go_enter Try.func36, Try.ntmps36
  go_wp2_with fail
  refine HS.out.mono ?_
  rintro e w1 ⟨rfl, h1⟩
  have H1 := Lib.hid h1
  clear h1
  go_wp2_with fail
  go_ret
  exact ⟨rfl, H1.out⟩
set_option maxRecDepth 100000 in
theorem apply_common {w0 w : World} {g gs cap : Nat} {ns : List Int} (h : NumE w0 w g gs cap ns) : Calls Try.prog 36 #[.pointer (some ⟨g, 0, none⟩), .string ⟨#[99, 111, 109, 109, 111, 110]⟩] w fun e w' => e = .returned (.bool false) ∧ NumE w0 w' g gs cap ns := by
  have HS := Lib.hid (rule_none 60 (fun _ _ _ => by kernel_rfl) (fun g gs n cap i As cs num ty T w hg hi x => common_num g gs n cap i As cs num ty T w hg hi x) h)
  have hmf : ∀ (fn : Fn) (first cap : Array Value) (w : World), (Instr.makeFunc fn first cap).run Try.prog w = .ok (.func fn first cap) w := fun _ _ _ _ => rfl
  clear h
  go_enter Try.func36, Try.ntmps36
  go_wp2_with fail
  refine HS.out.mono ?_
  rintro e w1 ⟨rfl, h1⟩
  have H1 := Lib.hid h1
  clear h1
  go_wp2_with fail
  go_ret
  exact ⟨rfl, H1.out⟩
set_option maxRecDepth 100000 in
theorem apply_matches {w0 w : World} {g gs cap : Nat} {ns : List Int} (h : NumE w0 w g gs cap ns) : Calls Try.prog 36 #[.pointer (some ⟨g, 0, none⟩), .string ⟨#[109, 97, 116, 99, 104, 101, 115]⟩] w fun e w' => e = .returned (.bool false) ∧ NumE w0 w' g gs cap ns := by
  have HS := Lib.hid (rule_none 61 (fun _ _ _ => by kernel_rfl) (fun g gs n cap i As cs num ty T w hg hi x => matches_num g gs n cap i As cs num ty T w hg hi x) h)
  have hmf : ∀ (fn : Fn) (first cap : Array Value) (w : World), (Instr.makeFunc fn first cap).run Try.prog w = .ok (.func fn first cap) w := fun _ _ _ _ => rfl
  clear h
  go_enter Try.func36, Try.ntmps36
  go_wp2_with fail
  refine HS.out.mono ?_
  rintro e w1 ⟨rfl, h1⟩
  have H1 := Lib.hid h1
  clear h1
  go_wp2_with fail
  go_ret
  exact ⟨rfl, H1.out⟩
set_option maxRecDepth 100000 in
theorem apply_firstfind {w0 w : World} {g gs cap : Nat} {ns : List Int} (h : NumE w0 w g gs cap ns) : Calls Try.prog 36 #[.pointer (some ⟨g, 0, none⟩), .string ⟨#[102, 105, 114, 115, 116, 102, 105, 110, 100]⟩] w fun e w' => e = .returned (.bool false) ∧ NumE w0 w' g gs cap ns := by
  have HS := Lib.hid (rule_none 62 (fun _ _ _ => by kernel_rfl) (fun g gs n cap i As cs num ty T w hg hi x => firstFind_num g gs n cap i As cs num ty T w hg hi x) h)
  have hmf : ∀ (fn : Fn) (first cap : Array Value) (w : World), (Instr.makeFunc fn first cap).run Try.prog w = .ok (.func fn first cap) w := fun _ _ _ _ => rfl
  clear h
  go_enter Try.func36, Try.ntmps36
  go_wp2_with fail
  refine HS.out.mono ?_
  rintro e w1 ⟨rfl, h1⟩
  have H1 := Lib.hid h1
  clear h1
  go_wp2_with fail
  go_ret
  exact ⟨rfl, H1.out⟩
set_option maxRecDepth 100000 in
theorem apply_lencut {w0 w : World} {g gs cap : Nat} {ns : List Int} (h : NumE w0 w g gs cap ns) : Calls Try.prog 36 #[.pointer (some ⟨g, 0, none⟩), .string ⟨#[108, 101, 110, 99, 117, 116]⟩] w fun e w' => e = .returned (.bool false) ∧ NumE w0 w' g gs cap ns := by
  have HS := Lib.hid (rule_none 63 (fun _ _ _ => by kernel_rfl) (fun g gs n cap i As cs num ty T w hg hi x => lenCut_num g gs n cap i As cs num ty T w hg hi x) h)
  have hmf : ∀ (fn : Fn) (first cap : Array Value) (w : World), (Instr.makeFunc fn first cap).run Try.prog w = .ok (.func fn first cap) w := fun _ _ _ _ => rfl
  clear h
  go_enter Try.func36, Try.ntmps36
  go_wp2_with fail
  refine HS.out.mono ?_
  rintro e w1 ⟨rfl, h1⟩
  have H1 := Lib.hid h1
  clear h1
  go_wp2_with fail
  go_ret
  exact ⟨rfl, H1.out⟩
set_option maxRecDepth 100000 in
theorem apply_lensum {w0 w : World} {g gs cap : Nat} {ns : List Int} (h : NumE w0 w g gs cap ns) : Calls Try.prog 36 #[.pointer (some ⟨g, 0, none⟩), .string ⟨#[108, 101, 110, 115, 117, 109]⟩] w fun e w' => e = .returned (.bool false) ∧ NumE w0 w' g gs cap ns := by
  have HS := Lib.hid (rule_none 64 (fun _ _ _ => by kernel_rfl) (fun g gs n cap i As cs num ty T w hg hi x => lenSum_num g gs n cap i As cs num ty T w hg hi x) h)
  have hmf : ∀ (fn : Fn) (first cap : Array Value) (w : World), (Instr.makeFunc fn first cap).run Try.prog w = .ok (.func fn first cap) w := fun _ _ _ _ => rfl
  clear h
  go_enter Try.func36, Try.ntmps36
  go_wp2_with fail
  refine HS.out.mono ?_
  rintro e w1 ⟨rfl, h1⟩
  have H1 := Lib.hid h1
  clear h1
  go_wp2_with fail
  go_ret
  exact ⟨rfl, H1.out⟩
set_option maxRecDepth 100000 in
theorem apply_lenrep {w0 w : World} {g gs cap : Nat} {ns : List Int} (h : NumE w0 w g gs cap ns) : Calls Try.prog 36 #[.pointer (some ⟨g, 0, none⟩), .string ⟨#[108, 101, 110, 114, 101, 112]⟩] w fun e w' => e = .returned (.bool false) ∧ NumE w0 w' g gs cap ns := by
  have HS := Lib.hid (rule_none 65 (fun _ _ _ => by kernel_rfl) (fun g gs n cap i As cs num ty T w hg hi x => lenRep_num g gs n cap i As cs num ty T w hg hi x) h)
  have hmf : ∀ (fn : Fn) (first cap : Array Value) (w : World), (Instr.makeFunc fn first cap).run Try.prog w = .ok (.func fn first cap) w := fun _ _ _ _ => rfl
  clear h
  go_enter Try.func36, Try.ntmps36
  go_wp2_with fail
  refine HS.out.mono ?_
  rintro e w1 ⟨rfl, h1⟩
  have H1 := Lib.hid h1
  clear h1
  go_wp2_with fail
  go_ret
  exact ⟨rfl, H1.out⟩
set_option maxRecDepth 100000 in
theorem apply_unused1 {w0 w : World} {g gs cap : Nat} {n : Int} (h : NumE w0 w g gs cap [n]) : Calls Try.prog 36 #[.pointer (some ⟨g, 0, none⟩), .string ⟨#[117, 110, 117, 115, 101, 100]⟩] w fun e w' => e = .returned (.bool false) ∧ NumE w0 w' g gs cap [n] := by
  have hS : Calls Try.prog 56 #[.pointer (some ⟨g, 0, none⟩), .func (.func 66) #[.pointer (some ⟨g, 0, none⟩)] #[]] w fun e w' => e = .returned (.bool false) ∧ NumE w0 w' g gs cap [n] := by
    refine (first_gen 66 g gs 1 cap 1 (fun w => NumE w0 w g gs cap [n]) (fun _ => False) (by omega) (Nat.le_refl _) (fun x w => by kernel_rfl) (fun w h => ?_) (fun i w hi hw => ?_) (fun w hk => by omega) w h).mono ?_
    · obtain ⟨_, gu, h5, _⟩ := h
      have := h5.ed.cell 0
      simpa [numsL_len] using this
    · have hw' := hw
      obtain ⟨_, gu, h5, _⟩ := hw
      obtain rfl : i = 0 := by omega
      refine (unused_one g gs cap (numSt n) _ w h5).mono ?_
      rintro e w' ⟨rfl, hb⟩
      exact ⟨rfl, hw'.below hb⟩
    · rintro e w' (⟨h, _⟩ | ⟨_, rfl, h⟩)
      · omega
      · exact ⟨rfl, h⟩
  have HS := Lib.hid hS
  have hmf : ∀ (fn : Fn) (first cap : Array Value) (w : World), (Instr.makeFunc fn first cap).run Try.prog w = .ok (.func fn first cap) w := fun _ _ _ _ => rfl
  clear h hS
  go_enter Try.func36, Try.ntmps36
  go_wp2_with fail
  refine HS.out.mono ?_
  rintro e w1 ⟨rfl, h1⟩
  have H1 := Lib.hid h1
  clear h1
  go_wp2_with fail
  go_ret
  exact ⟨rfl, H1.out⟩
set_option maxRecDepth 100000 in
theorem apply_unused2 {w0 w : World} {g gs cap : Nat} {n : Int} {ns : List Int} (h : NumE w0 w g gs cap (n :: ns)) (hl : 1 ≤ ns.length) (hn : n ≤ 1000) : Calls Try.prog 36 #[.pointer (some ⟨g, 0, none⟩), .string ⟨#[117, 110, 117, 115, 101, 100]⟩] w fun e w' => e = .returned (.bool true) ∧ EdS w0 w' g gs cap (numsL ns) := by
  have hS : Calls Try.prog 56 #[.pointer (some ⟨g, 0, none⟩), .func (.func 66) #[.pointer (some ⟨g, 0, none⟩)] #[]] w fun e w' => e = .returned (.bool true) ∧ EdS w0 w' g gs cap (numsL ns) := by
    have hcap : ns.length + 1 ≤ 100000 := by
      obtain ⟨_, gu, h5, _⟩ := h
      have h1 := h5.cap
      rw [numsL_len, List.length_cons] at h1
      omega
    refine (first_gen 66 g gs (ns.length + 1) cap 0 (fun w => NumE w0 w g gs cap (n :: ns)) (fun w => EdS w0 w g gs cap (numsL ns)) hcap (by omega) (fun x w => by kernel_rfl) (fun w h => ?_) (fun i w hi hw => by omega) (fun w hk hw => ?_) w h).mono ?_
    · obtain ⟨_, gu, h5, _⟩ := h
      have := h5.ed.cell 0
      simpa [numsL_len] using this
    · obtain ⟨h1, gu, h5, h6⟩ := hw
      refine (unused_more g gs gu cap n ns w h5 (by rw [h6.cell]; simp [uarr, List.replicate_succ]) hl hn).mono ?_
      rintro e w' ⟨rfl, he, hk⟩
      exact ⟨rfl, h1.then_ hk, _, he⟩
    · rintro e w' (⟨_, rfl, h⟩ | ⟨h, _⟩)
      · exact ⟨rfl, h⟩
      · omega
  have HS := Lib.hid hS
  have hmf : ∀ (fn : Fn) (first cap : Array Value) (w : World), (Instr.makeFunc fn first cap).run Try.prog w = .ok (.func fn first cap) w := fun _ _ _ _ => rfl
  clear h hS
  go_enter Try.func36, Try.ntmps36
  go_wp2_with fail
  refine HS.out.mono ?_
  rintro e w1 ⟨rfl, h1⟩
  have H1 := Lib.hid h1
  clear h1
  go_wp2_with fail
  go_ret
  exact ⟨rfl, H1.out⟩
end Go.Proofs.Ytniefnjcimempaa
namespace Go.Proofs.Ytniefnjcimempaa
open Go.RowKit
set_option maxRecDepth 100000 in
theorem number_num (g gs n cap i : Nat) (As : Option Addr) (cs : Nat) (num ty : Int) (T : ByteArray) (w : World) (hg : w.cell? ⟨g, 0, none⟩ = some (.slice (some ⟨gs, 0, none⟩) n cap)) (hi : i < n) (x : NumAt w gs i As cs num T ty) (hn : num ≤ 1000) :
    Calls Try.prog 75 #[.pointer (some ⟨g, 0, none⟩), .int .i64 i] w fun e w' => e = .returned (.tuple #[.int .i64 num, .bool true]) ∧ Below w.heap.size w w' := by
  obtain ⟨x0, x1, x2, x3, x4⟩ := x
  have q0 : (i : Int) < (n : Int) := by omega
  have q1 : (0 : Int) ≤ (i : Int) := by omega
  have q2 : num ≤ 1152921504606846976 := by omega
  go_enter Try.func75, Try.ntmps75
  go_wp2_with fail
  go_quiet (fail)
  go_wp2_with fail
  go_ret2
  exact ⟨rfl, below_drewN ((Below.refl _ _).alloc (Nat.le_refl _) _) _⟩
set_option maxRecDepth 100000 in
theorem valid_small (n : Int) (h0 : 0 ≤ n) (h1 : n ≤ 1000) (w : World) : Calls Try.prog 103 #[.int .i64 n] w fun e w' => e = .returned (.bool true) ∧ w = w' := by
  have q0 : n ≤ 1152921504606846976 := by omega
  go_enter Try.func103, Try.ntmps103
  go_wp2_with fail
  go_ret
  exact ⟨rfl, rfl⟩
set_option maxRecDepth 100000 in
theorem add_23 (w : World) : Calls Try.prog 93 #[.int .i64 2, .int .i64 3] w fun e w' => e = .returned (.tuple #[.int .i64 5, .nilIface]) ∧ w = w' := by
  go_enter Try.func93, Try.ntmps93
  go_wp2_with fail
  refine (valid_small 2 (by omega) (by omega) _).mono ?_
  rintro e _ ⟨rfl, rfl⟩
  go_wp2_with fail
  refine (valid_small 3 (by omega) (by omega) _).mono ?_
  rintro e _ ⟨rfl, rfl⟩
  go_wp2_with fail
  go_ret2
  exact ⟨rfl, rfl⟩
set_option maxRecDepth 100000 in
theorem compute_23 (w : World) : Calls Try.prog 76 #[.string ⟨#[43]⟩, .int .i64 2, .int .i64 3] w fun e w' => e = .returned (.tuple #[.int .i64 5, .bool true]) ∧ Below w.heap.size w w' := by
  go_enter Try.func76, Try.ntmps76
  go_wp2_with fail
  refine (add_23 _).mono ?_
  rintro e _ ⟨rfl, rfl⟩
  go_wp2_with fail
  go_quiet (fail)
  go_wp2_with fail
  go_ret2
  exact ⟨rfl, below_drewN (Below.refl _ _) _⟩
def l23 : List St := [numSt 2, numSt 3, ⟨[43], [0, 1], 0, [], 1⟩]
theorem EdAt.put {w : World} {g gs cap i : Nat} {l : List St} {V : Value} (h : EdAt w g gs cap l V) (hi : i < l.length) (n : Int) :
    EdAt (w.setCells gs (i * 5) [.string ⟨#[110, 117, 109, 98, 101, 114]⟩, .slice none 0 0, .int .i64 n, .string ⟨#[]⟩, .int .i64 1]) g gs cap (l.set i (numSt n)) V := by
  obtain ⟨cs, e1, e2, e3⟩ := h.blk
  obtain ⟨cs', z1, z2, z3, z4⟩ := blk_setCells [.string ⟨#[110, 117, 109, 98, 101, 114]⟩, .slice none 0 0, .int .i64 n, .string ⟨#[]⟩, .int .i64 1] (i * 5) w cs e1
  have hg := grown_setCells (g := gs) [.string ⟨#[110, 117, 109, 98, 101, 114]⟩, .slice none 0 0, .int .i64 n, .string ⟨#[]⟩, .int .i64 1] (i * 5) w
  have hne := h.ne
  have hle := h.le
  refine ⟨by rw [List.length_set]; exact h.ed.grown hg (fun e => hne (by injection e)), fun j s hs => ?_, ⟨cs', z1, z2.trans e2, fun j v hj hv => ?_⟩, by rw [List.length_set]; exact hle, by rw [List.length_set]; exact h.cap⟩
  rotate_left
  · rw [List.length_set] at hj
    by_cases hin : j < i * 5 ∨ i * 5 + 5 ≤ j
    · exact e3 j v hj (by rw [← z4 j (by simpa using hin)]; exact hv)
    · have := z3 (j - i * 5) (by simp; omega) (by omega)
      rw [show i * 5 + (j - i * 5) = j by omega, hv] at this
      have hm := List.mem_of_getElem? this.symm
      simp only [List.mem_cons, List.not_mem_nil, or_false] at hm
      rcases hm with rfl | rfl | rfl | rfl | rfl <;> rfl
  by_cases hij : i = j
  · subst hij
    rw [List.getElem?_set_self hi] at hs
    injection hs with hs
    subst hs
    have hc : ∀ k, k < 5 → ((w.setCells gs (i * 5) [.string ⟨#[110, 117, 109, 98, 101, 114]⟩, .slice none 0 0, .int .i64 n, .string ⟨#[]⟩, .int .i64 1]).cell? ⟨gs, i * 5 + k, none⟩) = ([.string ⟨#[110, 117, 109, 98, 101, 114]⟩, .slice none 0 0, .int .i64 n, .string ⟨#[]⟩, .int .i64 1] : List Value)[k]? := fun k hk => by
      rw [z1.cell, z3 k (by simpa using hk) (by omega)]
    exact ⟨none, 0, hc 0 (by omega), hc 1 (by omega), hc 2 (by omega), hc 3 (by omega), hc 4 (by omega), ⟨rfl, fun h => by simp [numSt] at h⟩⟩
  · rw [List.getElem?_set_ne hij] at hs
    obtain ⟨As, c, x0, x1, x2, x3, x4, hr⟩ := h.st j s hs
    have hc : ∀ k, k < 5 → (w.setCells gs (i * 5) [.string ⟨#[110, 117, 109, 98, 101, 114]⟩, .slice none 0 0, .int .i64 n, .string ⟨#[]⟩, .int .i64 1]).cell? ⟨gs, j * 5 + k, none⟩ = w.cell? ⟨gs, j * 5 + k, none⟩ := fun k hk => by
      rw [z1.cell, e1.cell, z4 _ (by simp; omega)]
    exact ⟨As, c, (hc 0 (by omega)).trans x0, (hc 1 (by omega)).trans x1, (hc 2 (by omega)).trans x2, (hc 3 (by omega)).trans x3, (hc 4 (by omega)).trans x4, hr.keep (fun b hb hl => hg.block b hl (fun e => hb.2 (by injection e))) hg.size (fun _ hb _ => hb)⟩
set_option maxRecDepth 100000 in
set_option maxHeartbeats 4000000 in
theorem fold_plus (g gs cap : Nat) (V : Value) (w : World) (h : EdAt w g gs cap l23 V) :
    Calls Try.prog 57 #[.pointer (some ⟨g, 0, none⟩), .int .i64 2] w fun e w' => e = .returned (.bool true) ∧ EdAt w' g gs cap (numsL [2, 3, 5]) V ∧ Kept (fun b => b = g ∨ b = gs) w w' := by
  have x0 := h.ed.cell 0
  simp only [List.getElem?_toArray, List.getElem?_cons_zero] at x0
  replace x0 : w.cell? ⟨g, 0, none⟩ = some (.slice (some ⟨gs, 0, none⟩) 3 cap) := x0
  obtain ⟨As, c, y0, y1, y2, y3, y4, hr⟩ := h.st 2 ⟨[43], [0, 1], 0, [], 1⟩ rfl
  replace y0 : w.cell? ⟨gs, 10, none⟩ = some (.string ⟨#[43]⟩) := y0
  replace y1 : w.cell? ⟨gs, 11, none⟩ = some (.slice As 2 c) := y1
  replace y2 : w.cell? ⟨gs, 12, none⟩ = some (.int .i64 0) := y2
  replace y3 : w.cell? ⟨gs, 13, none⟩ = some (.string ⟨#[]⟩) := y3
  replace y4 : w.cell? ⟨gs, 14, none⟩ = some (.int .i64 1) := y4
  obtain ⟨ba, oa, rfl, hba, hbl, hca⟩ := hr.form (by simp)
  have a0 : w.cell? ⟨ba, oa, none⟩ = some (.int .i64 0) := hca 0 _ rfl
  have a1 : w.cell? ⟨ba, oa + 1, none⟩ = some (.int .i64 1) := hca 1 _ rfl
  have HH := Lib.hid h
  have HA0 := Lib.hid a0
  have HA1 := Lib.hid a1
  clear h hr hca a0 a1
  go_enter Try.func57, Try.ntmps57
  go_upto_region 8 with (fail)
  obtain ⟨w1, hw1⟩ : ∃ w1, w1 = w.alloc (.cells #[.string ⟨#[43]⟩, .slice (some ⟨ba, oa, none⟩) 2 c, .int .i64 0, .string ⟨#[]⟩, .int .i64 1] 25) := ⟨_, rfl⟩
  rw [← hw1]
  have hb1 : Below w.heap.size w w1 := by rw [hw1]; exact (Below.refl _ _).alloc (Nat.le_refl _) _
  have hblk : Blk w1 w.heap.size 25 #[.string ⟨#[43]⟩, .slice (some ⟨ba, oa, none⟩) 2 c, .int .i64 0, .string ⟨#[]⟩, .int .i64 1] := by rw [hw1]; exact Blk.new _ _ _
  have HB1 := Lib.hid hb1
  have HS1 := Lib.hid hblk
  have HE1 := Lib.hid (HH.out.below hb1)
  have s1 := hblk.cell 1
  simp only [List.getElem?_toArray, List.getElem?_cons_zero, List.getElem?_cons_succ] at s1
  have b0 := (hb1.cell (p := ⟨ba, oa, none⟩) hbl).trans HA0.out
  have c0 : w1.cell? ⟨g, 0, none⟩ = some (.slice (some ⟨gs, 0, none⟩) 3 cap) := (hb1.cell (p := ⟨g, 0, none⟩) HH.out.ed.lt).trans x0
  have HN0 : Hid (Calls Try.prog 75 #[.pointer (some ⟨g, 0, none⟩), .int .i64 0] w1 fun e w' => e = .returned (.tuple #[.int .i64 2, .bool true]) ∧ Below w1.heap.size w1 w') := by
    obtain ⟨A0, c0', hx⟩ := (HE1.out.st 0 (numSt 2) rfl).num
    exact Lib.hid (number_num g gs 3 cap 0 A0 c0' 2 1 _ w1 c0 (by omega) hx (by omega))
  have hgl := HH.out.ed.lt
  have hgsl := HH.out.gs_lt
  have hz1 := hb1.size
  have HC0 := Lib.hid c0
  have HX0 := Lib.hid x0
  have HY0 := Lib.hid y0
  have HY1 := Lib.hid y1
  have HY2 := Lib.hid y2
  have HY3 := Lib.hid y3
  have HY4 := Lib.hid y4
  clear hw1 hb1 hblk x0 y0 y1 y2 y3 y4 c0
  go_wp2_with fail
  refine HN0.out.mono ?_
  rintro e w2 ⟨rfl, hb2⟩
  have HB2 := Lib.hid (HB1.out.trans (hb2.mono hz1))
  have HE2 := Lib.hid (HE1.out.below hb2)
  have hS2 := HS1.out.below hb2 HS1.out.lt
  have HS2 := Lib.hid hS2
  have s2 := hS2.cell 1
  simp only [List.getElem?_toArray, List.getElem?_cons_zero, List.getElem?_cons_succ] at s2
  have b1 := (HB2.out.cell (p := ⟨ba, oa + 1, none⟩) hbl).trans HA1.out
  have c0 : w2.cell? ⟨g, 0, none⟩ = some (.slice (some ⟨gs, 0, none⟩) 3 cap) := (HB2.out.cell (p := ⟨g, 0, none⟩) hgl).trans HX0.out
  have HN1 : Hid (Calls Try.prog 75 #[.pointer (some ⟨g, 0, none⟩), .int .i64 1] w2 fun e w' => e = .returned (.tuple #[.int .i64 3, .bool true]) ∧ Below w2.heap.size w2 w') := by
    obtain ⟨A0, c0', hx⟩ := (HE2.out.st 1 (numSt 3) rfl).num
    exact Lib.hid (number_num g gs 3 cap 1 A0 c0' 3 1 _ w2 c0 (by omega) hx (by omega))
  have hz2 := HB2.out.size
  clear hb2 hS2 s1 b0 c0 HN0
  go_wp2_with fail
  refine HN1.out.mono ?_
  rintro e w3 ⟨rfl, hb3⟩
  have HB3 := Lib.hid (HB2.out.trans (hb3.mono hz2))
  have HE3 := Lib.hid (HE2.out.below hb3)
  have hS3 := HS2.out.below hb3 HS2.out.lt
  have s3 := hS3.cell 0
  simp only [List.getElem?_toArray, List.getElem?_cons_zero] at s3
  have hz3 := HB3.out.size
  clear hb3 hS3 s2 b1 HN1
  go_wp2_with fail
  refine (compute_23 _).mono ?_
  rintro e w4 ⟨rfl, hb4⟩
  have HB4 := Lib.hid (HB3.out.trans (hb4.mono hz3))
  have HE4 := Lib.hid (HE3.out.below hb4)
  have hc4 := fun j => HB4.out.cell (p := ⟨gs, j, none⟩) hgsl
  have c0 : w4.cell? ⟨g, 0, none⟩ = some (.slice (some ⟨gs, 0, none⟩) 3 cap) := (HB4.out.cell (p := ⟨g, 0, none⟩) hgl).trans HX0.out
  have y0 := (hc4 _).trans HY0.out
  have y1 := (hc4 _).trans HY1.out
  have y2 := (hc4 _).trans HY2.out
  have y3 := (hc4 _).trans HY3.out
  have y4 := (hc4 _).trans HY4.out
  obtain ⟨f0, f1, f2, f3, f4⟩ : w4.frozen? ⟨gs, 10, none⟩ = false ∧ w4.frozen? ⟨gs, 11, none⟩ = false ∧ w4.frozen? ⟨gs, 12, none⟩ = false ∧ w4.frozen? ⟨gs, 13, none⟩ = false ∧ w4.frozen? ⟨gs, 14, none⟩ = false := by
    obtain ⟨cs, e1, _⟩ := HE4.out.blk
    exact ⟨e1.frozen _, e1.frozen _, e1.frozen _, e1.frozen _, e1.frozen _⟩
  have HP := Lib.hid (HE4.out.put (i := 2) (by decide) 5)
  have hk : Kept (fun b => b = g ∨ b = gs) w (w4.setCells gs (2 * 5) [.string ⟨#[110, 117, 109, 98, 101, 114]⟩, .slice none 0 0, .int .i64 5, .string ⟨#[]⟩, .int .i64 1]) := by
    have hk4 : Kept (fun b => b = g ∨ b = gs) w w4 := ⟨HB4.out.os, HB4.out.tape, HB4.out.output, HB4.out.size, fun i hi _ => HB4.out.block i hi⟩
    exact hk4.then_ (Kept.of_grown (grown_setCells _ _ _) (fun b e => .inr (by injection e with e; exact e.symm)))
  have HK := Lib.hid hk
  clear hb4 hc4 s3 hk
  go_wp2_with fail
  go_ret
  exact ⟨rfl, HP.out, HK.out⟩
end Go.Proofs.Ytniefnjcimempaa
