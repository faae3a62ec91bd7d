/- The walk of optimize's rule lenSum at any step (printed by gen_oyb.py). The walk of optimize's rule lenRep at any step (printed by gen_oyc.py). The walks of the rules' names, and of optimize.Of at the fixed example (printed by gen_org.py). The walks of optimize.Of at the fixed example and of optimize.Step at one number. The walks of optimize.Step at a plan of one number and at no plan, and of awake. The walk of awake of the laws on optimize (the first part of XLRules, for a seat without the law OptimizeRules). -/
import Derived.Test.YtamhdmkolfmmdaaGreatDoorsbb
import Derived.BigQuiet
import Derived.Test.YtamhdmkolfmmdaaGreatDoorsaa
import Derived.Lib.QuietBelow
import Derived.Test.YtamhdmkolfmmdaaGreatDoorsat
import Derived.Test.YtamhdmkolfmmdaaGreatDoorsar
import Derived.Test.YtamhdmkolfmmdaaGreatDoorsay
import Derived.Test.YtamhdmkolfmmdaaGreatDoorsas
set_option linter.unusedVariables false
set_option linter.unusedSimpArgs false
namespace Go.Proofs.YtamhdmkolfmmdaaGreatDoor
open Go.RowKit
set_option maxRecDepth 100000
set_option maxHeartbeats 8000000
theorem lenSum_0 (base g gs gu cap i j : Nat) (l : List St) (vs : List Value) (s t : St) (w : World) (h : EdX w base g gs cap l vs (.slice (some ⟨gu, 0, none⟩) l.length l.length)) (hu : Blk w gu 3 (uarr (kag l))) (hs : l[i]? = some s) (ht : l[j]? = some t) (hj : s.args[0]? = some (j : Int)) (hji : j < i) (hb : ∀ s ∈ l, s.args.length ≤ 3 ∧ ∀ a ∈ s.args, 0 ≤ a ∧ a ≤ 100000) (hop : s.op = Oz.oLen) (hlt : l.length < 4096) (hb2 : ∀ s ∈ l, s.args.length ≤ 3 ∧ ∀ a ∈ s.args, 0 ≤ a ∧ a ≤ 4096) (a b : Int) (ht2 : t.args[0]? = some a) (ht3 : t.args[1]? = some b) :
  Calls Tryz.prog 75 #[.pointer (some ⟨g, 0, none⟩), .int .i64 i] w (kax base g (.slice (some ⟨gu, 0, none⟩) l.length l.length) (Oz.lenSumR l i) w) := by
 have t16q0 := True.intro
 exact y5
theorem y4 {P : Prop} (h : P := by
 exact y85) : P := h
theorem lenRep_1 (base g gs gu cap i j : Nat) (l : List St) (vs : List Value) (s t : St) (w : World) (h : EdX w base g gs cap l vs (.slice (some ⟨gu, 0, none⟩) l.length l.length)) (hu : Blk w gu 3 (uarr (kag l))) (hs : l[i]? = some s) (ht : l[j]? = some t) (hj : s.args[0]? = some (j : Int)) (hji : j < i) (hb : ∀ s ∈ l, s.args.length ≤ 3 ∧ ∀ a ∈ s.args, 0 ≤ a ∧ a ≤ 100000) (hop : s.op = Oz.oLen) (hno : ¬ (t.op = Oz.oRep ∧ (kag l).getD j 0 = 1)) :
  Calls Tryz.prog 76 #[.pointer (some ⟨g, 0, none⟩), .int .i64 i] w (kax base g (.slice (some ⟨gu, 0, none⟩) l.length l.length) (Oz.lenRepR l i) w) := by
 have t16q2 := True.intro
 exact y5
theorem lenRep_2 (base g gs gu cap i j : Nat) (l : List St) (vs : List Value) (s t : St) (w : World) (h : EdX w base g gs cap l vs (.slice (some ⟨gu, 0, none⟩) l.length l.length)) (hu : Blk w gu 3 (uarr (kag l))) (hs : l[i]? = some s) (ht : l[j]? = some t) (hj : s.args[0]? = some (j : Int)) (hji : j < i) (hb : ∀ s ∈ l, s.args.length ≤ 3 ∧ ∀ a ∈ s.args, 0 ≤ a ∧ a ≤ 100000) (hop : s.op = Oz.oLen) (hlt : l.length ≤ 4096) (hb2 : ∀ s ∈ l, s.args.length ≤ 3 ∧ ∀ a ∈ s.args, 0 ≤ a ∧ a ≤ 4096) (a : Int) (jb : Nat) (tb : St) (ht2 : t.args[0]? = some a) (ht3 : t.args[1]? = some (jb : Int)) (htb : l[jb]? = some tb) (hyes : t.op = Oz.oRep ∧ (kag l).getD j 0 = 1) (hnn : tb.op ≠ kab) :
  Calls Tryz.prog 76 #[.pointer (some ⟨g, 0, none⟩), .int .i64 i] w (kax base g (.slice (some ⟨gu, 0, none⟩) l.length l.length) (Oz.lenRepR l i) w) := by
 exact y4
theorem lenRep_0 (base g gs gu cap i j : Nat) (l : List St) (vs : List Value) (s t : St) (w : World) (h : EdX w base g gs cap l vs (.slice (some ⟨gu, 0, none⟩) l.length l.length)) (hu : Blk w gu 3 (uarr (kag l))) (hs : l[i]? = some s) (ht : l[j]? = some t) (hj : s.args[0]? = some (j : Int)) (hji : j < i) (hb : ∀ s ∈ l, s.args.length ≤ 3 ∧ ∀ a ∈ s.args, 0 ≤ a ∧ a ≤ 100000) (hop : s.op = Oz.oLen) (hlt : l.length ≤ 4096) (hb2 : ∀ s ∈ l, s.args.length ≤ 3 ∧ ∀ a ∈ s.args, 0 ≤ a ∧ a ≤ 4096) (a : Int) (jb : Nat) (tb : St) (ht2 : t.args[0]? = some a) (ht3 : t.args[1]? = some (jb : Int)) (htb : l[jb]? = some tb) (hyes : t.op = Oz.oRep ∧ (kag l).getD j 0 = 1) (hnn : tb.op = kab) :
  Calls Tryz.prog 76 #[.pointer (some ⟨g, 0, none⟩), .int .i64 i] w (kax base g (.slice (some ⟨gu, 0, none⟩) l.length l.length) (Oz.lenRepR l i) w) := by
 have t15q0 := True.intro
 exact y4
theorem klN (base g gs cap i : Nat) (l : List St) (vs : List Value) (V : Value) (s : St) (w : World) (h : EdX w base g gs cap l vs V) (hs : l[i]? = some s) (hop : s.op ≠ Oz.oLen) :
  Calls Tryz.prog 75 #[.pointer (some ⟨g, 0, none⟩), .int .i64 i] w (kax base g V (Oz.lenSumR l i) w) := by
 have t121q6 := True.intro
 exact y26
theorem klO (base g gs cap i : Nat) (l : List St) (vs : List Value) (V : Value) (s : St) (w : World) (h : EdX w base g gs cap l vs V) (hs : l[i]? = some s) (hop : s.op ≠ Oz.oLen) :
  Calls Tryz.prog 76 #[.pointer (some ⟨g, 0, none⟩), .int .i64 i] w (kax base g V (Oz.lenRepR l i) w) := by
 have t121q5 := True.intro
 exact y26
theorem lenSum_1 (base g gs gu cap i j : Nat) (l : List St) (vs : List Value) (s t : St) (w : World) (h : EdX w base g gs cap l vs (.slice (some ⟨gu, 0, none⟩) l.length l.length)) (hu : Blk w gu 3 (uarr (kag l))) (hs : l[i]? = some s) (ht : l[j]? = some t) (hj : s.args[0]? = some (j : Int)) (hji : j < i) (hb : ∀ s ∈ l, s.args.length ≤ 3 ∧ ∀ a ∈ s.args, 0 ≤ a ∧ a ≤ 100000) (hop : s.op = Oz.oLen) (hlt : l.length < 4096) (hno : t.op ≠ Oz.oCat) :
  Calls Tryz.prog 75 #[.pointer (some ⟨g, 0, none⟩), .int .i64 i] w (kax base g (.slice (some ⟨gu, 0, none⟩) l.length l.length) (Oz.lenSumR l i) w) := by
 have t16q1 := True.intro
 exact y5
theorem kkA (base g gs cap i : Nat) (l : List St) (vs : List Value) (V : Value) (s : St) (w : World) (h : EdX w base g gs cap l vs V) (hs : l[i]? = some s) (hop : s.op = Oz.oLen) (hbig : 4096 ≤ l.length) :
  Calls Tryz.prog 75 #[.pointer (some ⟨g, 0, none⟩), .int .i64 i] w (kax base g V (Oz.lenSumR l i) w) := by
 have hil := (gH hs).1
 have x0 := h.ed.cell 0
 simp only [gA, gB] at x0
 obtain ⟨v, hv, ⟨y0, y1, y2, y3, y4⟩, ho⟩ := h.at_ hs
 obtain ⟨R, hR⟩ := xE (Oz.lenSumR l i)
 rw [← hR]
 unfold Oz.lenSumR at hR
 have HRN : Hid (R = none) := hD (by rw [hR, if_pos (.inr hbig)])
 rw [hop] at y0
 unfold Oz.oLen at y0
 obtain ⟨n, hn⟩ := xE l.length
 rw [← hn] at hil x0
 have q0 : (i : Int) < (n : Int) := by omega
 have q1 : (0 : Int) ≤ (i : Int) := by omega
 have q2 : (4096 : Int) ≤ (n : Int) := by omega
 clear h hs hv ho hn hR hop hbig
 go_enter Tryz.func75, Tryz.ntmps75
 go_wp2_with fail
 go_ret
 unfold kax
 rw [HRN.out]
 exact ⟨rfl, Below.refl _ _⟩
theorem kkB (base g gs gu cap i : Nat) (l : List St) (vs : List Value) (s : St) (w : World) (h : EdX w base g gs cap l vs (.slice (some ⟨gu, 0, none⟩) l.length l.length)) (hu : Blk w gu 3 (uarr (kag l))) (hs : l[i]? = some s) (hc : kac l = 0) :
  Calls Tryz.prog 75 #[.pointer (some ⟨g, 0, none⟩), .int .i64 i] w (kax base g (.slice (some ⟨gu, 0, none⟩) l.length l.length) (Oz.lenSumR l i) w) := by
 by_cases hop : s.op = Oz.oLen
 ·
  by_cases hbig : 4096 ≤ l.length
  ·
   exact kkA base g gs cap i l vs _ s w h hs hop hbig
  ·
   have hal := kae hc hs 1 (by rw [hop]; kernel_rfl)
   obtain ⟨j, t, hj, hji, ht, _, _⟩ := kah hc hs (k := 0) (by omega)
   by_cases hz : t.op = Oz.oCat
   ·
    have hal2 := kae hc ht 2 (by rw [hz]; kernel_rfl)
    obtain ⟨a, _, ha, _⟩ := kah hc ht (k := 0) (by omega)
    obtain ⟨b, _, hb, _⟩ := kah hc ht (k := 1) (by omega)
    exact lenSum_0 base g gs gu cap i j l vs s t w h hu hs ht hj hji (kcc hc) hop (by omega) (fun s hs => ⟨(kbC hc s hs).1, fun a ha => by have := (kbC hc s hs).2 a ha; omega⟩) a b ha hb
   ·
    exact lenSum_1 base g gs gu cap i j l vs s t w h hu hs ht hj hji (kcc hc) hop (by omega) hz
 ·
  exact klN base g gs cap i l vs _ s w h hs hop
theorem kkE (base g gs gu cap i : Nat) (l : List St) (vs : List Value) (s : St) (w : World) (h : EdX w base g gs cap l vs (.slice (some ⟨gu, 0, none⟩) l.length l.length)) (hu : Blk w gu 3 (uarr (kag l))) (hs : l[i]? = some s) (hc : kac l = 0) :
  Calls Tryz.prog 76 #[.pointer (some ⟨g, 0, none⟩), .int .i64 i] w (kax base g (.slice (some ⟨gu, 0, none⟩) l.length l.length) (Oz.lenRepR l i) w) := by
 by_cases hop : s.op = Oz.oLen
 ·
  have hal := kae hc hs 1 (by rw [hop]; kernel_rfl)
  obtain ⟨j, t, hj, hji, ht, _, _⟩ := kah hc hs (k := 0) (by omega)
  have hle := (kbK hc).2.1
  by_cases hz : t.op = Oz.oRep ∧ (kag l).getD j 0 = 1
  ·
   have hal2 := kae hc ht 2 (by rw [hz.1]; kernel_rfl)
   obtain ⟨a, _, ha, _⟩ := kah hc ht (k := 0) (by omega)
   obtain ⟨jb, tb, hb, _, htb, _, _⟩ := kah hc ht (k := 1) (by omega)
   have hbd : ∀ s ∈ l, s.args.length ≤ 3 ∧ ∀ a ∈ s.args, 0 ≤ a ∧ a ≤ 4096 := fun s hs => ⟨(kbC hc s hs).1, fun a ha => by have := (kbC hc s hs).2 a ha; omega⟩
   by_cases hnn : tb.op = kab
   ·
    exact lenRep_0 base g gs gu cap i j l vs s t w h hu hs ht hj hji (kcc hc) hop hle hbd a jb tb ha hb htb hz hnn
   ·
    exact lenRep_2 base g gs gu cap i j l vs s t w h hu hs ht hj hji (kcc hc) hop hle hbd a jb tb ha hb htb hz hnn
  ·
   exact lenRep_1 base g gs gu cap i j l vs s t w h hu hs ht hj hji (kcc hc) hop hz
 ·
  exact klO base g gs cap i l vs _ s w h hs hop
def namesR : List (List UInt8) := [[115, 104, 97, 114, 101], [102, 111, 108, 100], [110, 101, 117, 116, 114, 97, 108], [110, 101, 103, 97, 116, 101], [99, 111, 109, 109, 111, 110], [109, 97, 116, 99, 104, 101, 115], [102, 105, 114, 115, 116, 102, 105, 110, 100], [108, 101, 110, 99, 117, 116], [108, 101, 110, 115, 117, 109], [108, 101, 110, 114, 101, 112], [117, 110, 117, 115, 101, 100]]
def kbZ : Array Value := #[.string ⟨#[115, 104, 97, 114, 101]⟩, .string ⟨#[102, 111, 108, 100]⟩, .string ⟨#[110, 101, 117, 116, 114, 97, 108]⟩, .string ⟨#[110, 101, 103, 97, 116, 101]⟩, .string ⟨#[99, 111, 109, 109, 111, 110]⟩, .string ⟨#[109, 97, 116, 99, 104, 101, 115]⟩, .string ⟨#[102, 105, 114, 115, 116, 102, 105, 110, 100]⟩, .string ⟨#[108, 101, 110, 99, 117, 116]⟩, .string ⟨#[108, 101, 110, 115, 117, 109]⟩, .string ⟨#[108, 101, 110, 114, 101, 112]⟩, .string ⟨#[117, 110, 117, 115, 101, 100]⟩]
theorem kdF {i : Nat} {s : List UInt8} (h : namesR[i]? = some s) : kbZ[i]? = some (.string ⟨s.toArray⟩) := by
 have hi := (gH h).1
 have hi : i < 11 := hi
 have hc : i = 0 ∨ i = 1 ∨ i = 2 ∨ i = 3 ∨ i = 4 ∨ i = 5 ∨ i = 6 ∨ i = 7 ∨ i = 8 ∨ i = 9 ∨ i = 10 := by omega
 rcases hc with rfl | rfl | rfl | rfl | rfl | rfl | rfl | rfl | rfl | rfl | rfl <;> (injection h with h; subst h; rfl)
theorem keF (w : World) : Calls Tryz.prog 38 #[] w fun e w' => e = .returned (.slice (some ⟨w.heap.size, 0, none⟩) 11 11) ∧ Blk w' w.heap.size 9 kbZ ∧ Below w.heap.size w w' := by
 have HB := hD (Blk.new w 9 kbZ)
 have HL := hD (kaa w (.cells kbZ 9))
 unfold kbZ at HB HL ⊢
 go_enter Tryz.func38, Tryz.ntmps38
 go_wp2_with fail
 go_ret
 exact ⟨rfl, HB.out, HL.out⟩
theorem kfN (w : World) : Calls Tryz.prog 43 #[] w fun e w' => e = .returned (.slice (some ⟨w.heap.size, 0, none⟩) 11 11) ∧ Blk w' w.heap.size 9 kbZ ∧ Below w.heap.size w w' := by
 have HB := hD (Blk.new w 9 kbZ)
 have HL := hD (kaa w (.cells kbZ 9))
 unfold kbZ at HB HL ⊢
 go_enter Tryz.func43, Tryz.ntmps43
 go_wp2_with fail
 go_ret
 exact ⟨rfl, HB.out, HL.out⟩
theorem EdS.below {w0 w w' : World} {g gs cap : Nat} {l : List St} (h : EdS w0 w g gs cap l) (hb : Below w.heap.size w w') : EdS w0 w' g gs cap l := by
 obtain ⟨h1, V, h2⟩ := h
 exact ⟨h1.then_ (Kept.of_below hb), V, h2.below hb⟩
def keys23 : List KeyS := [keyN 2, keyN 3, ⟨[43], [], 0, 1, 0, 0⟩]
theorem share_23 {w0 w : World} {g gs cap : Nat} (h : EdS w0 w g gs cap l23) : Calls Tryz.prog 66 #[.pointer (some ⟨g, 0, none⟩)] w fun e w' => e = .returned (.bool false) ∧ EdS w0 w' g gs cap l23 := by
 have h' := h
 obtain ⟨h1, V, h5⟩ := h
 have hx := h5.ed.cell 0
 simp only [gA, gB] at hx
 refine (kfJ g gs cap keys23 (fun j k hj hk e => ?_) (by decide) w h5.ed.lt hx (fun i k hk => ?_)).mono ?_
 ·
  have hk : k < 3 := hk
  have hc : (j = 0 ∧ k = 1) ∨ (j = 0 ∧ k = 2) ∨ (j = 1 ∧ k = 2) := by omega
  rcases hc with ⟨rfl, rfl⟩ | ⟨rfl, rfl⟩ | ⟨rfl, rfl⟩ <;> exact absurd e (by decide)
 ·
  have hi : i < 3 := (gH hk).1
  have hc : i = 0 ∨ i = 1 ∨ i = 2 := by omega
  rcases hc with rfl | rfl | rfl
  ·
   injection hk with hk
   subst hk
   obtain ⟨As, c, x0, x1, x2, x3, x4, hr⟩ := h5.st 0 (kaE 2) rfl
   exact ⟨As, c, [], 1, by simp, rfl, rfl, rfl, h5.gs_lt, x0, x1, x2, x3, x4, hr.reads⟩
  ·
   injection hk with hk
   subst hk
   obtain ⟨As, c, x0, x1, x2, x3, x4, hr⟩ := h5.st 1 (kaE 3) rfl
   exact ⟨As, c, [], 1, by simp, rfl, rfl, rfl, h5.gs_lt, x0, x1, x2, x3, x4, hr.reads⟩
  ·
   injection hk with hk
   subst hk
   obtain ⟨As, c, x0, x1, x2, x3, x4, hr⟩ := h5.st 2 ⟨[43], [0, 1], 0, [], 1⟩ rfl
   exact ⟨As, c, [0, 1], 1, by simp, rfl, rfl, rfl, h5.gs_lt, x0, x1, x2, x3, x4, hr.reads⟩
 ·
  rintro e w' ⟨rfl, hb⟩
  exact ⟨rfl, h'.below hb⟩
theorem kh5 {w0 w : World} {g gs cap : Nat} (h : EdS w0 w g gs cap l23) : Calls Tryz.prog 67 #[.pointer (some ⟨g, 0, none⟩), .func (.func 68) #[.pointer (some ⟨g, 0, none⟩)] #[]] w fun e w' => e = .returned (.bool true) ∧ EdS w0 w' g gs cap (kaI [2, 3, 5]) := by
 have hc : ∀ w, EdS w0 w g gs cap l23 → w.cell? ⟨g, 0, none⟩ = some (.slice (some ⟨gs, 0, none⟩) 3 cap) := fun w h => by
  obtain ⟨_, V, h5⟩ := h
  have := h5.ed.cell 0
  simp only [gA, gB] at this
  exact this
 refine (kc3 68 g gs 3 cap 2 (fun w => EdS w0 w g gs cap l23) (fun w => EdS w0 w g gs cap (kaI [2, 3, 5])) (by omega) (by omega) (fun x w => by kernel_rfl) hc (fun i w hi hw => ?_) (fun w hk hw => ?_) w h).mono ?_
 ·
  have hw' := hw
  obtain ⟨_, V, h5⟩ := hw
  have hi2 : i = 0 ∨ i = 1 := by omega
  rcases hi2 with rfl | rfl
  ·
   obtain ⟨As, c, hx⟩ := (h5.st 0 (kaE 2) rfl).num
   refine (kfx g gs 3 cap 0 As c _ 1 _ w (hc w hw') (by omega) hx).mono ?_
   rintro e w' ⟨rfl, hb⟩
   exact ⟨rfl, hw'.below hb⟩
  ·
   obtain ⟨As, c, hx⟩ := (h5.st 1 (kaE 3) rfl).num
   refine (kfx g gs 3 cap 1 As c _ 1 _ w (hc w hw') (by omega) hx).mono ?_
   rintro e w' ⟨rfl, hb⟩
   exact ⟨rfl, hw'.below hb⟩
 ·
  obtain ⟨h1, V, h5⟩ := hw
  refine (klX g gs cap V w h5).mono ?_
  rintro e w' ⟨rfl, he, hk⟩
  exact ⟨rfl, h1.then_ hk, V, he⟩
 ·
  rintro e w' (⟨_, rfl, h⟩ | ⟨h, _⟩)
  ·
   exact ⟨rfl, h⟩
  ·
   omega
theorem khj {w0 w : World} {g gs cap : Nat} (h : EdS w0 w g gs cap l23) : Calls Tryz.prog 40 #[.pointer (some ⟨g, 0, none⟩), .string ⟨#[115, 104, 97, 114, 101]⟩] w fun e w' => e = .returned (.bool false) ∧ EdS w0 w' g gs cap l23 := by
 have HS := hD (share_23 h)
 exact z1
theorem kij {w0 w : World} {g gs cap : Nat} (h : EdS w0 w g gs cap l23) : Calls Tryz.prog 40 #[.pointer (some ⟨g, 0, none⟩), .string ⟨#[102, 111, 108, 100]⟩] w fun e w' => e = .returned (.bool true) ∧ EdS w0 w' g gs cap (kaI [2, 3, 5]) := by
 have HS := hD (kh5 h)
 exact z1
structure RowN (w0 : World) (g gs gr : Nat) : Prop where
 blk : Blk w0 gr 9 kbZ
 g : gr ≠ g
 gs : gr ≠ gs
theorem RowN.at_ {w0 w : World} {g gs gr : Nat} (h : RowN w0 g gs gr) (hk : Kept (fun b => b = g ∨ b = gs) w0 w) (i : Nat) (s : List UInt8) (hs : namesR[i]? = some s) : ∃ b o, (some ⟨gr, 0, none⟩ : Option Addr) = some ⟨b, o, none⟩ ∧ w.cell? ⟨b, o + i, none⟩ = some (.string ⟨s.toArray⟩) :=
 ⟨gr, 0, rfl, by rw [Nat.zero_add, (h.blk.kept hk (fun e => e.elim h.g h.gs)).cell]; exact kdF hs⟩
theorem round0 {w0 w : World} {g gs cap gr : Nat} (c : Nat) (hr : RowN w0 g gs gr) (h : EdS w0 w g gs cap l23) : Calls Tryz.prog 39 #[.slice (some ⟨gr, 0, none⟩) 11 c, .func (.func 40) #[.pointer (some ⟨g, 0, none⟩)] #[]] w fun e w' => e = .returned (.bool true) ∧ EdS w0 w' g gs cap (kaI [2, 3, 5]) := by
 refine (kdH 40 (.pointer (some ⟨g, 0, none⟩)) (some ⟨gr, 0, none⟩) c 1 namesR (fun w => EdS w0 w g gs cap l23) (fun w => EdS w0 w g gs cap (kaI [2, 3, 5])) (by decide) (by decide) (fun x w => by kernel_rfl) (fun w i s hw hs => hr.at_ hw.1 i s hs) (fun i s w hi hs hw => ?_) (fun s w hs hw => ?_) w h).mono ?_
 ·
  obtain rfl : i = 0 := by omega
  injection hs with hs
  subst hs
  exact khj hw
 ·
  injection hs with hs
  subst hs
  exact kij hw
 ·
  rintro e w' (⟨_, rfl, h⟩ | ⟨h, _⟩)
  ·
   exact ⟨rfl, h⟩
  ·
   exact absurd h (by decide)
theorem kgO {w0 w : World} {g gs cap : Nat} {ns : List Int} (hd : Diff ns) (i : Nat) (s : List UInt8) (hi : i < 10) (hs : namesR[i]? = some s) (h : NumE w0 w g gs cap ns) : Calls Tryz.prog 40 #[.pointer (some ⟨g, 0, none⟩), .string ⟨s.toArray⟩] w fun e w' => e = .returned (.bool false) ∧ NumE w0 w' g gs cap ns := by
 have hc : i = 0 ∨ i = 1 ∨ i = 2 ∨ i = 3 ∨ i = 4 ∨ i = 5 ∨ i = 6 ∨ i = 7 ∨ i = 8 ∨ i = 9 := by omega
 rcases hc with rfl | rfl | rfl | rfl | rfl | rfl | rfl | rfl | rfl | rfl
 ·
  injection hs with hs
  subst hs
  exact kjk h hd
 ·
  injection hs with hs
  subst hs
  exact kk0 h
 ·
  injection hs with hs
  subst hs
  exact khk h
 ·
  injection hs with hs
  subst hs
  exact kif h
 ·
  injection hs with hs
  subst hs
  exact kik h
 ·
  injection hs with hs
  subst hs
  exact khl h
 ·
  injection hs with hs
  subst hs
  exact kf0 h
 ·
  injection hs with hs
  subst hs
  exact kii h
 ·
  injection hs with hs
  subst hs
  exact kig h
 ·
  injection hs with hs
  subst hs
  exact kih h
theorem round1 {w0 w : World} {g gs cap gr : Nat} (c : Nat) (n : Int) (ns : List Int) (hd : Diff (n :: ns)) (hn : n ≤ 1000) (hl : 1 ≤ ns.length) (hr : RowN w0 g gs gr) (h : NumE w0 w g gs cap (n :: ns)) : Calls Tryz.prog 39 #[.slice (some ⟨gr, 0, none⟩) 11 c, .func (.func 40) #[.pointer (some ⟨g, 0, none⟩)] #[]] w fun e w' => e = .returned (.bool true) ∧ EdS w0 w' g gs cap (kaI ns) := by
 refine (kdH 40 (.pointer (some ⟨g, 0, none⟩)) (some ⟨gr, 0, none⟩) c 10 namesR (fun w => NumE w0 w g gs cap (n :: ns)) (fun w => EdS w0 w g gs cap (kaI ns)) (by decide) (by decide) (fun x w => by kernel_rfl) (fun w i s hw hs => hr.at_ hw.1 i s hs) (fun i s w hi hs hw => kgO hd i s hi hs hw) (fun s w hs hw => ?_) w h).mono ?_
 ·
  injection hs with hs
  subst hs
  exact khh hw hl hn
 ·
  rintro e w' (⟨_, rfl, h⟩ | ⟨h, _⟩)
  ·
   exact ⟨rfl, h⟩
  ·
   exact absurd h (by decide)
theorem diff_one (n : Int) : Diff [n] := fun j k hj hk => by simp at hk; omega
theorem round2 {w0 w : World} {g gs cap gr : Nat} (c : Nat) (n : Int) (hr : RowN w0 g gs gr) (h : NumE w0 w g gs cap [n]) : Calls Tryz.prog 39 #[.slice (some ⟨gr, 0, none⟩) 11 c, .func (.func 40) #[.pointer (some ⟨g, 0, none⟩)] #[]] w fun e w' => e = .returned (.bool false) ∧ NumE w0 w' g gs cap [n] := by
 refine (kdH 40 (.pointer (some ⟨g, 0, none⟩)) (some ⟨gr, 0, none⟩) c 11 namesR (fun w => NumE w0 w g gs cap [n]) (fun _ => False) (by decide) (by decide) (fun x w => by kernel_rfl) (fun w i s hw hs => hr.at_ hw.1 i s hs) (fun i s w hi hs hw => ?_) (fun s w hs hw => by cases hs) w h).mono ?_
 ·
  by_cases h10 : i < 10
  ·
   exact kgO (diff_one n) i s h10 hs hw
  ·
   obtain rfl : i = 10 := by omega
   injection hs with hs
   subst hs
   exact khi hw
 ·
  rintro e w' (⟨h, _⟩ | ⟨_, rfl, h⟩)
  ·
   exact absurd h (by decide)
  ·
   exact ⟨rfl, h⟩
theorem check23 : kac l23 = 0 := by kernel_rfl
theorem modest23 : kc7 l23 := ⟨by decide, fun s hs => by
 simp only [l23, List.mem_cons, List.not_mem_nil, or_false] at hs
 rcases hs with rfl | rfl | rfl <;> decide⟩
theorem args23 : ∀ s ∈ l23, s.args.length ≤ 3 ∧ ∀ a ∈ s.args, 0 ≤ a ∧ a < (l23.length : Int) := by decide
theorem diff235 : Diff [2, 3, 5] := fun j k hj hk => by
 have hk : k < 3 := hk
 have hc : (j = 0 ∧ k = 1) ∨ (j = 0 ∧ k = 2) ∨ (j = 1 ∧ k = 2) := by omega
 rcases hc with ⟨rfl, rfl⟩ | ⟨rfl, rfl⟩ | ⟨rfl, rfl⟩ <;> decide
theorem diff35 : Diff [3, 5] := fun j k hj hk => by
 have hk : k < 2 := hk
 have hc : j = 0 ∧ k = 1 := by omega
 obtain ⟨rfl, rfl⟩ := hc
 decide
theorem EdAt.farN {w : World} {g gs cap : Nat} {ns : List Int} {V : Value} (h : EdAt w g gs cap (kaI ns) V) {p : Addr} (h1 : g ≠ p.block) (h2 : gs ≠ p.block) (u : Value) : EdAt (w.setCell p u) g gs cap (kaI ns) V := by
 refine ⟨h.ed.far h1 u, fun i s hs => ?_, ?_, h.le, h.cap⟩
 ·
  obtain ⟨As, c, x0, x1, x2, x3, x4, hr⟩ := h.st i s hs
  obtain ⟨n, _, rfl⟩ := kee hs
  have hc : ∀ j, (w.setCell p u).cell? ⟨gs, j, none⟩ = w.cell? ⟨gs, j, none⟩ := fun j => World.cell?_of_block (Below.heap_setCell w p u gs h2)
  exact ⟨As, c, (hc _).trans x0, (hc _).trans x1, (hc _).trans x2, (hc _).trans x3, (hc _).trans x4, ⟨rfl, fun h => by simp [kaE] at h⟩⟩
 ·
  obtain ⟨cs, e1, e2⟩ := h.blk
  exact ⟨cs, e1.far h2 u, e2⟩
def OgRel (w0 : World) (g gs cap : Nat) (f : Nat) (wr : World) : Prop := (4 ≤ f ∧ Hid (EdS w0 wr g gs cap l23)) ∨ (3 ≤ f ∧ Hid (NumE w0 wr g gs cap [2, 3, 5])) ∨ (2 ≤ f ∧ Hid (NumE w0 wr g gs cap [3, 5])) ∨ (1 ≤ f ∧ Hid (NumE w0 wr g gs cap [5]))
theorem of_23 (A : Option Addr) (c : Nat) (w : World) (hp : PlAt w (fun i => i < w.heap.size) A l23) :
  Calls Tryz.prog 10 #[.agg #[.slice A 3 c]] w fun e w' => ∃ g gs cap V, e = .returned (.tuple #[.agg #[.slice (some ⟨gs, 0, none⟩) 1 cap], .nilIface]) ∧ EdAt w' g gs cap (kaI [5]) V ∧ Below w.heap.size w w' := by
 obtain ⟨wa, hwa⟩ := xE ((w.alloc (.cells #[.slice A 3 c] 26)).alloc (.cells #[.slice none 0 0] 26))
 have hba : Below w.heap.size w wa := by rw [hwa]; exact (kaa w _).alloc (by simp) _
 have HXA := hD (show Blk wa w.heap.size 26 #[.slice A 3 c] by rw [hwa]; exact (Blk.new _ _ _).alloc _)
 have HRA := hD (show Blk wa (w.heap.size + 1) 26 #[.slice none 0 0] by
  rw [hwa]
  have := Blk.new (w.alloc (.cells #[.slice A 3 c] 26)) 26 #[.slice none 0 0]
  simpa using this)
 have HPA := hD (hp.below hba)
 have hck := kbS A c l23 wa HPA.out modest23
 rw [check23] at hck
 have HCK := hD (show Calls Tryz.prog 11 #[.agg #[.slice A 3 c]] wa fun e w' => e = .returned .nilIface ∧ Below wa.heap.size wa w' from hck)
 have HBA := hD hba
 have HWA := hD hwa
 clear hp hba hck hwa
 go_enter Tryz.func10, Tryz.ntmps10
 go_wp2_with fail
 rw [← HWA.out]
 refine HCK.out.mono ?_
 rintro e w1 ⟨rfl, hb1⟩
 have hza := HBA.out.size
 have HB1 := hD (HBA.out.trans (hb1.mono hza))
 have hz1 := HB1.out.size
 have HR1 := hD (HRA.out.below hb1 HRA.out.lt)
 have HX1 := hD (HXA.out.below hb1 HXA.out.lt)
 have x1 := HX1.out.cell 0
 simp only [gA, gB] at x1
 have HNE := hD (show Calls Tryz.prog 37 #[.agg #[.slice A 3 c]] w1 _ from kg2 A c l23 w1 (HPA.out.below hb1) (by decide) (by decide) args23)
 clear hb1 HCK
 go_wp2_with fail
 refine HNE.out.mono ?_
 rintro e w2 ⟨g, gs, cap, gu, rfl, he2, hu2, hb2, hg, hs⟩
 have HB2 := hD (HB1.out.trans (hb2.mono hz1))
 have hz2 := HB2.out.size
 have HE2 := hD he2
 have HR2 := hD (HR1.out.below hb2 HR1.out.lt)
 have hrl1 := HR1.out.lt
 clear he2 hu2 hb2 HNE x1
 go_wp2_with fail
 refine (keF _).mono ?_
 rintro e w3 ⟨rfl, hn3, hb3⟩
 have HB3 := hD (HB2.out.trans (hb3.mono hz2))
 have hE3 := HE2.out.below hb3
 have HRN : Hid (RowN w3 g gs w2.heap.size) := hD ⟨hn3, fun e => by have := HE2.out.ed.lt; omega, fun e => by have := HE2.out.gs_lt; omega⟩
 have HR3 := hD (HR2.out.below hb3 HR2.out.lt)
 have hs0 : EdS w3 w3 g gs cap l23 := ⟨Kept.refl _ _, _, hE3⟩
 have HS0 := hD hs0
 clear hn3 hb3 hE3 hs0
 have hmf : ∀ (fn : Fn) (first cap : Array Value) (w : World), (Instr.makeFunc fn first cap).run Tryz.prog w = .ok (.func fn first cap) w := fun _ _ _ _ => rfl
 go_wp2_with fail
 go_loopg [] 5 (fun f wr => OgRel w3 g gs cap f wr)
 case atStart => exact Or.inl ⟨by omega, HS0⟩
 case round =>
  clear HS0
  obtain ⟨f, rfl⟩ : ∃ f, gk = f + 1 := ⟨gk - 1, by rcases hrel with h | h | h | h <;> omega⟩
  rcases hrel with ⟨hf, HS⟩ | ⟨hf, HN⟩ | ⟨hf, HN⟩ | ⟨hf, HN⟩
  ·
   have HC := hD (round0 (cap := cap) 11 HRN.out HS.out)
   go_wp2_with fail
   refine HC.out.mono ?_
   rintro e w4 ⟨rfl, h4⟩
   have HC4 := hD (ken h4)
   clear h4 HC
   go_wp2_with fail
   refine HC4.out.mono ?_
   rintro e w5 ⟨rfl, h5⟩
   have H5 := hD h5
   clear h5 HC4
   go_wp2_with fail
   go_roundg f
   case measure => omega
   case rel => exact Or.inr (Or.inl ⟨by omega, H5⟩)
  ·
   have HC := hD (round1 (cap := cap) 11 2 [3, 5] diff235 (by omega) (by decide) HRN.out HN.out)
   go_wp2_with fail
   refine HC.out.mono ?_
   rintro e w4 ⟨rfl, h4⟩
   have HC4 := hD (ken h4)
   clear h4 HC
   go_wp2_with fail
   refine HC4.out.mono ?_
   rintro e w5 ⟨rfl, h5⟩
   have H5 := hD h5
   clear h5 HC4
   go_wp2_with fail
   go_roundg f
   case measure => omega
   case rel => exact Or.inr (Or.inr (Or.inl ⟨by omega, H5⟩))
  ·
   have HC := hD (round1 (cap := cap) 11 3 [5] diff35 (by omega) (by decide) HRN.out HN.out)
   go_wp2_with fail
   refine HC.out.mono ?_
   rintro e w4 ⟨rfl, h4⟩
   have HC4 := hD (ken h4)
   clear h4 HC
   go_wp2_with fail
   refine HC4.out.mono ?_
   rintro e w5 ⟨rfl, h5⟩
   have H5 := hD h5
   clear h5 HC4
   go_wp2_with fail
   go_roundg f
   case measure => omega
   case rel => exact Or.inr (Or.inr (Or.inr ⟨by omega, H5⟩))
  ·
   have HC := hD (round2 (cap := cap) 11 5 HRN.out HN.out)
   go_wp2_with fail
   refine HC.out.mono ?_
   rintro e w4 ⟨rfl, hk4, gu4, he4, _⟩
   have hz3 := HB3.out.size
   have hR4 := HR3.out.kept hk4 (fun e => by rcases e with e | e <;> omega)
   have r0 := hR4.cell 0
   have r1 := hR4.frozen 0
   have x0 := he4.ed.cell 0
   simp only [gA, gB] at r0 x0
   replace x0 : w4.cell? ⟨g, 0, none⟩ = some (.slice (some ⟨gs, 0, none⟩) 1 cap) := x0
   have HE4 := hD (he4.farN (p := ⟨w.heap.size + 1, 0, none⟩) (by show g ≠ w.heap.size + 1; omega) (by show gs ≠ w.heap.size + 1; omega) (.slice (some ⟨gs, 0, none⟩) 1 cap))
   have HB4 := hD ((hk4.below HB3.out hz3 (fun i hi => by rcases hi with rfl | rfl <;> omega)).setCell (p := ⟨w.heap.size + 1, 0, none⟩) (by show w.heap.size ≤ w.heap.size + 1; omega) (.slice (some ⟨gs, 0, none⟩) 1 cap))
   clear hk4 he4 hR4 HC
   go_wp2_with fail
   refine bodyPost_ret (v := .tuple #[.agg #[.slice (some ⟨gs, 0, none⟩) 1 cap], .nilIface]) (by simp [results, Tryz.results10, go_sem, r0]) rfl ?_
   exact ⟨g, gs, cap, _, rfl, HE4.out, HB4.out⟩
def namesB : List ByteArray := namesR.map fun s => ⟨s.toArray⟩
def known (name : List UInt8) : Bool := Lib.containsS (namesB.take 11) ⟨name.toArray⟩
theorem klT (name : List UInt8) : known name = true ↔ name ∈ namesR := by
 unfold known
 rw [Lib.containsS_iff, show namesB.take 11 = namesB from rfl]
 unfold namesB
 rw [List.mem_map]
 constructor
 ·
  rintro ⟨s, hs, he⟩
  have := congrArg (fun x : ByteArray => x.data.toList) he
  have : s = name := by simpa using this
  rw [← this]
  exact hs
 ·
  intro h
  exact ⟨name, h, rfl⟩
theorem pl_one {w : World} {g gs cap : Nat} {n : Int} {V : Value} (h : EdAt w g gs cap (kaI [n]) V) : PlAt w (fun i => i < w.heap.size) (some ⟨gs, 0, none⟩) [kaE n] := by
 have hgl := h.gs_lt
 obtain ⟨As, c, x0, x1, x2, x3, x4, hr⟩ := h.st 0 (kaE n) rfl
 refine ⟨[.string ⟨(kaE n).op.toArray⟩, .slice As (kaE n).args.length c, .int .i64 (kaE n).num, .string ⟨(kaE n).text.toArray⟩, .int .i64 (kaE n).ty], ⟨rfl, fun _ => ⟨gs, 0, rfl, hgl, hgl, fun j u hj => ?_⟩⟩, ⟨_, [], (List.append_nil _).symm, ⟨As, c, rfl, ⟨rfl, fun h => by simp [kaE] at h⟩⟩, rfl⟩⟩
 have hj5 : j < 5 := (gH hj).1
 have hc : j = 0 ∨ j = 1 ∨ j = 2 ∨ j = 3 ∨ j = 4 := by omega
 rcases hc with rfl | rfl | rfl | rfl | rfl
 ·
  exact x0.trans hj
 ·
  exact x1.trans hj
 ·
  exact x2.trans hj
 ·
  exact x3.trans hj
 ·
  exact x4.trans hj
theorem arg_one {w : World} {b : Nat} {n : Int} (h : Blk w b 76 #[.string ⟨#[110, 117, 109, 98, 101, 114]⟩, .slice none 0 0, .int .i64 n, .string ⟨#[]⟩, .int .i64 1]) : ArgPl w (some ⟨b, 0, none⟩) [kaE n] := fun i s hs => by
 have hi : i < 1 := (gH hs).1
 obtain rfl : i = 0 := by omega
 injection hs with hs
 subst hs
 have hc := fun j => h.cell j
 exact ⟨b, 0, none, 0, rfl, h.lt, hc 0, hc 1, hc 2, hc 3, hc 4, ⟨rfl, fun h => by simp [kaE] at h⟩⟩
theorem keS (w : World) : Calls Tryz.prog 8 #[] w (ke4 w) := by
 obtain ⟨wa, hwa⟩ := xE ((w.alloc (.cells #[.int .i64 0, .int .i64 1] 3)).alloc (.cells #[.string ⟨#[110, 117, 109, 98, 101, 114]⟩, .slice none 0 0, .int .i64 2, .string ⟨#[]⟩, .int .i64 1, .string ⟨#[110, 117, 109, 98, 101, 114]⟩, .slice none 0 0, .int .i64 3, .string ⟨#[]⟩, .int .i64 1, .string ⟨#[43]⟩, .slice (some ⟨w.heap.size, 0, none⟩) 2 2, .int .i64 0, .string ⟨#[]⟩, .int .i64 1] 76))
 have hba : Below w.heap.size w wa := by rw [hwa]; exact (kaa w _).alloc (by simp) _
 have hK : Blk wa (w.heap.size + 1) 76 (#[.string ⟨#[110, 117, 109, 98, 101, 114]⟩, .slice none 0 0, .int .i64 2, .string ⟨#[]⟩, .int .i64 1, .string ⟨#[110, 117, 109, 98, 101, 114]⟩, .slice none 0 0, .int .i64 3, .string ⟨#[]⟩, .int .i64 1, .string ⟨#[43]⟩, .slice (some ⟨w.heap.size, 0, none⟩) 2 2, .int .i64 0, .string ⟨#[]⟩, .int .i64 1] : Array Value) := by
  rw [hwa]
  have := Blk.new (w.alloc (.cells #[.int .i64 0, .int .i64 1] 3)) 76 (#[.string ⟨#[110, 117, 109, 98, 101, 114]⟩, .slice none 0 0, .int .i64 2, .string ⟨#[]⟩, .int .i64 1, .string ⟨#[110, 117, 109, 98, 101, 114]⟩, .slice none 0 0, .int .i64 3, .string ⟨#[]⟩, .int .i64 1, .string ⟨#[43]⟩, .slice (some ⟨w.heap.size, 0, none⟩) 2 2, .int .i64 0, .string ⟨#[]⟩, .int .i64 1] : Array Value)
  rw [show (w.alloc (.cells #[.int .i64 0, .int .i64 1] 3)).heap.size = w.heap.size + 1 by simp] at this
  exact this
 have hI : Blk wa w.heap.size 3 #[.int .i64 0, .int .i64 1] := by rw [hwa]; exact (Blk.new _ _ _).alloc _
 have harg : ArgPl wa (some ⟨w.heap.size + 1, 0, none⟩) l23 := fun i s hs => by
  have hi : i < 3 := (gH hs).1
  have hc : i = 0 ∨ i = 1 ∨ i = 2 := by omega
  have hk := fun j => hK.cell j
  rcases hc with rfl | rfl | rfl
  ·
   injection hs with hs
   subst hs
   exact ⟨w.heap.size + 1, 0, none, 0, rfl, hK.lt, hk 0, hk 1, hk 2, hk 3, hk 4, ⟨rfl, fun h => by simp [kaE] at h⟩⟩
  ·
   injection hs with hs
   subst hs
   exact ⟨w.heap.size + 1, 0, none, 0, rfl, hK.lt, hk 5, hk 6, hk 7, hk 8, hk 9, ⟨rfl, fun h => by simp [kaE] at h⟩⟩
  ·
   injection hs with hs
   subst hs
   refine ⟨w.heap.size + 1, 0, some ⟨w.heap.size, 0, none⟩, 2, rfl, hK.lt, hk 10, hk 11, hk 12, hk 13, hk 14, ⟨rfl, fun _ => ⟨_, rfl, hI.lt, fun j u hj => ?_⟩⟩⟩
   rw [ka1, Nat.zero_add, hI.cell, ← Array.getElem?_toList]
   exact hj
 have HTO := hD (show Calls Tryz.prog 9 #[.slice (some ⟨w.heap.size + 1, 0, none⟩) 3 3] wa fun e w' => Below wa.heap.size wa w' ∧ ∃ A c, e = .returned (.agg #[.slice A 3 c]) ∧ PlAt w' (fun i => wa.heap.size ≤ i ∧ i < w'.heap.size) A l23 from khv (some ⟨w.heap.size + 1, 0, none⟩) 3 l23 wa harg (by decide) (by decide))
 have HBA := hD hba
 have HWA := hD hwa
 clear hba hK hI harg hwa
 go_enter Tryz.func8, Tryz.ntmps8
 go_wp2_with fail
 rw [← HWA.out]
 refine HTO.out.mono ?_
 rintro e w1 ⟨hb1, A1, c1, rfl, hp1⟩
 have hza := HBA.out.size
 have HB1 := hD (HBA.out.trans (hb1.mono hza))
 have hz1 := HB1.out.size
 go_upto_region 2 with (fail)
 obtain ⟨wb, hwb⟩ := xE (w1.alloc (.cells #[.slice A1 3 c1] 26))
 rw [← hwb]
 have hb1b : Below w1.heap.size w1 wb := by rw [hwb]; exact kaa _ _
 have hxb : Blk wb w1.heap.size 26 #[.slice A1 3 c1] := by rw [hwb]; exact Blk.new _ _ _
 have x0 := hxb.cell 0
 simp only [gA, gB] at x0
 have HBB := hD (HB1.out.trans (hb1b.mono hz1))
 have hzb := HBB.out.size
 have hpb : PlAt wb (fun i => i < wb.heap.size) A1 l23 := PlAt.below (hp1.keep (w' := w1) (fun _ _ _ => rfl) (Nat.le_refl _) (fun i hi _ => hi.2)) hb1b
 have HOF := hD (of_23 A1 c1 wb hpb)
 clear hb1 hp1 hwb hb1b hxb hpb HTO
 go_wp2_with fail
 refine HOF.out.mono ?_
 rintro e w2 ⟨g, gs, cap, V, rfl, he2, hb2⟩
 have HB2 := hD (HBB.out.trans (hb2.mono hzb))
 have hz2 := HB2.out.size
 go_upto_region 3 with (fail)
 obtain ⟨wc, hwc⟩ := xE (w2.alloc (.cells #[.slice (some ⟨gs, 0, none⟩) 1 cap] 26))
 rw [← hwc]
 have hb2c : Below w2.heap.size w2 wc := by rw [hwc]; exact kaa _ _
 have hxc : Blk wc w2.heap.size 26 #[.slice (some ⟨gs, 0, none⟩) 1 cap] := by rw [hwc]; exact Blk.new _ _ _
 obtain ⟨wd, hwd⟩ := xE (wc.alloc (.cells #[.string ⟨#[110, 117, 109, 98, 101, 114]⟩, .slice none 0 0, .int .i64 5, .string ⟨#[]⟩, .int .i64 1] 76))
 have hbcd : Below wc.heap.size wc wd := by rw [hwd]; exact kaa _ _
 have hkd : Blk wd wc.heap.size 76 #[.string ⟨#[110, 117, 109, 98, 101, 114]⟩, .slice none 0 0, .int .i64 5, .string ⟨#[]⟩, .int .i64 1] := by rw [hwd]; exact Blk.new _ _ _
 have hb2d : Below w2.heap.size w2 wd := hb2c.trans (hbcd.mono hb2c.size)
 have HBD := hD (HB2.out.trans (hb2d.mono hz2))
 have HIS := hD (show Calls Tryz.prog 13 #[.agg #[.slice (some ⟨gs, 0, none⟩) 1 cap], .slice (some ⟨wc.heap.size, 0, none⟩) 1 1] wd (ke4 wd) from kd6 (some ⟨gs, 0, none⟩) (some ⟨wc.heap.size, 0, none⟩) cap 1 [kaE 5] wd (pl_one (he2.below hb2d)) (arg_one hkd) (by decide) (by decide))
 have xc := hxc.cell 0
 simp only [gA, gB] at xc
 have hxl := hxc.lt
 have HWD := hD hwd
 clear he2 hb2 hwc hb2c hxc hwd hbcd hkd hb2d HOF x0
 go_wp2_with fail
 rw [← HWD.out]
 refine HIS.out.mono ?_
 rintro e w5 ⟨rfl, hb5⟩
 have HB5 := hD (HBD.out.trans (hb5.mono HBD.out.size))
 clear hb5
 go_wp2_with fail
 go_ret
 exact ⟨rfl, HB5.out⟩
end Go.Proofs.YtamhdmkolfmmdaaGreatDoor
