/- The walks of avl.level and avl.join, each way through the code by itself. -/
import Derived.Test.YtphpfkhpihlalaaAv3
namespace Go.Proofs.Ytphpfkhpihlalaa
open Go.RowKit
/-- An ID, or no room for it. -/
def Ids (R : Option Nat → World → Prop) (e : Ending) (w' : World) : Prop := ∃ o, e = .returned (idV 50 o) ∧ R o w'
set_option maxRecDepth 100000 in
theorem lv_near (p : Nat) (a b da db : Int) (w : World) {R : Option Nat → World → Prop} (s1 : IntKind.i64.wrap (db + 1) = db + 1) (s2 : IntKind.i64.wrap (da + 1) = da + 1) (n1 : ¬ (db + 1 < da)) (n2 : ¬ (da + 1 < db)) (g5 : ∀ W, Below w.heap.size w W → Calls Try.prog 68 #[ptr p, .int .i64 a, .int .i64 b] W (Ids R)) (g1 : ∀ W, Below w.heap.size w W → Calls Try.prog 13 #[ptr p, .int .i64 a] W fun e w' => e = .returned (.tuple #[.int .i64 da, .nilIface]) ∧ Below W.heap.size W w') (g2 : ∀ W, Below w.heap.size w W → Calls Try.prog 13 #[ptr p, .int .i64 b] W fun e w' => e = .returned (.tuple #[.int .i64 db, .nilIface]) ∧ Below W.heap.size W w') :
    Calls Try.prog 73 #[ptr p, .int .i64 a, .int .i64 b] w (Ids R) := by
  unfold ptr at *
  go_enter Try.func73, Try.ntmps73
  go_wp2_with fail
  refine (g1 _ (Below.refl _ _)).mono ?_
  rintro _ w1 ⟨rfl, hb1⟩
  go_wp2_with fail
  refine (g2 _ hb1).mono ?_
  rintro _ w2 ⟨rfl, hb2⟩
  have HQ := Lib.hid (hb1.trans (hb2.mono hb1.size))
  clear hb1 hb2 g1 g2
  go_wp2_with fail
  refine (g5 _ HQ.out).mono ?_
  rintro _ w5 ⟨o, rfl, hr⟩
  have HR := Lib.hid hr
  clear hr g5
  cases o with
  | none =>
    unfold idV
    go_wp2_with fail
    refine bodyPost_ret (v := .tuple #[.int .i64 0, .iface 50 (.int .i64 3)]) (by simp [results, Try.results73, go_sem]) rfl ?_
    exact ⟨none, rfl, HR.out⟩
  | some r =>
    unfold idV
    go_wp2_with fail
    refine bodyPost_ret (v := .tuple #[.int .i64 (r : Int), .nilIface]) (by simp [results, Try.results73, go_sem]) rfl ?_
    exact ⟨some r, rfl, HR.out⟩
set_option maxRecDepth 100000 in
theorem lv_a2 (p : Nat) (a b da db l r dl dr : Int) (w : World) {R : Option Nat → World → Prop} (s1 : IntKind.i64.wrap (db + 1) = db + 1) (s2 : IntKind.i64.wrap (da + 1) = da + 1) (n1 : db + 1 < da) (n3 : dr ≤ dl) (g3 : ∀ W, Below w.heap.size w W → Calls Try.prog 72 #[ptr p, .int .i64 a] W fun e w' => e = .returned (.tuple #[.int .i64 l, .int .i64 r, .int .i64 dl, .int .i64 dr, .nilIface]) ∧ Below W.heap.size W w') (g5 : ∀ W, Below w.heap.size w W → Calls Try.prog 90 #[ptr p, .int .i64 l, .int .i64 r, .int .i64 b] W (Ids R)) (g1 : ∀ W, Below w.heap.size w W → Calls Try.prog 13 #[ptr p, .int .i64 a] W fun e w' => e = .returned (.tuple #[.int .i64 da, .nilIface]) ∧ Below W.heap.size W w') (g2 : ∀ W, Below w.heap.size w W → Calls Try.prog 13 #[ptr p, .int .i64 b] W fun e w' => e = .returned (.tuple #[.int .i64 db, .nilIface]) ∧ Below W.heap.size W w') :
    Calls Try.prog 73 #[ptr p, .int .i64 a, .int .i64 b] w (Ids R) := by
  unfold ptr at *
  go_enter Try.func73, Try.ntmps73
  go_wp2_with fail
  refine (g1 _ (Below.refl _ _)).mono ?_
  rintro _ w1 ⟨rfl, hb1⟩
  go_wp2_with fail
  refine (g2 _ hb1).mono ?_
  rintro _ w2 ⟨rfl, hb2⟩
  have HQ := Lib.hid (hb1.trans (hb2.mono hb1.size))
  clear hb1 hb2 g1 g2
  go_wp2_with fail
  refine (g3 _ HQ.out).mono ?_
  rintro _ w3 ⟨rfl, hb3⟩
  have HQ3 := Lib.hid (HQ.out.trans (hb3.mono HQ.out.size))
  clear hb3 g3 HQ
  have HQ := HQ3
  clear HQ3
  go_wp2_with fail
  refine (g5 _ HQ.out).mono ?_
  rintro _ w5 ⟨o, rfl, hr⟩
  have HR := Lib.hid hr
  clear hr g5
  cases o with
  | none =>
    unfold idV
    go_wp2_with fail
    refine bodyPost_ret (v := .tuple #[.int .i64 0, .iface 50 (.int .i64 3)]) (by simp [results, Try.results73, go_sem]) rfl ?_
    exact ⟨none, rfl, HR.out⟩
  | some r =>
    unfold idV
    go_wp2_with fail
    refine bodyPost_ret (v := .tuple #[.int .i64 (r : Int), .nilIface]) (by simp [results, Try.results73, go_sem]) rfl ?_
    exact ⟨some r, rfl, HR.out⟩
set_option maxRecDepth 100000 in
theorem lv_a4 (p : Nat) (a b da db l r dl dr x y dx dy : Int) (w : World) {R : Option Nat → World → Prop} (s1 : IntKind.i64.wrap (db + 1) = db + 1) (s2 : IntKind.i64.wrap (da + 1) = da + 1) (n1 : db + 1 < da) (n3 : ¬ dr ≤ dl) (g3 : ∀ W, Below w.heap.size w W → Calls Try.prog 72 #[ptr p, .int .i64 a] W fun e w' => e = .returned (.tuple #[.int .i64 l, .int .i64 r, .int .i64 dl, .int .i64 dr, .nilIface]) ∧ Below W.heap.size W w') (g4 : ∀ W, Below w.heap.size w W → Calls Try.prog 72 #[ptr p, .int .i64 r] W fun e w' => e = .returned (.tuple #[.int .i64 x, .int .i64 y, .int .i64 dx, .int .i64 dy, .nilIface]) ∧ Below W.heap.size W w') (g5 : ∀ W, Below w.heap.size w W → Calls Try.prog 91 #[ptr p, .int .i64 l, .int .i64 x, .int .i64 y, .int .i64 b] W (Ids R)) (g1 : ∀ W, Below w.heap.size w W → Calls Try.prog 13 #[ptr p, .int .i64 a] W fun e w' => e = .returned (.tuple #[.int .i64 da, .nilIface]) ∧ Below W.heap.size W w') (g2 : ∀ W, Below w.heap.size w W → Calls Try.prog 13 #[ptr p, .int .i64 b] W fun e w' => e = .returned (.tuple #[.int .i64 db, .nilIface]) ∧ Below W.heap.size W w') :
    Calls Try.prog 73 #[ptr p, .int .i64 a, .int .i64 b] w (Ids R) := by
  unfold ptr at *
  go_enter Try.func73, Try.ntmps73
  go_wp2_with fail
  refine (g1 _ (Below.refl _ _)).mono ?_
  rintro _ w1 ⟨rfl, hb1⟩
  go_wp2_with fail
  refine (g2 _ hb1).mono ?_
  rintro _ w2 ⟨rfl, hb2⟩
  have HQ := Lib.hid (hb1.trans (hb2.mono hb1.size))
  clear hb1 hb2 g1 g2
  go_wp2_with fail
  refine (g3 _ HQ.out).mono ?_
  rintro _ w3 ⟨rfl, hb3⟩
  have HQ3 := Lib.hid (HQ.out.trans (hb3.mono HQ.out.size))
  clear hb3 g3 HQ
  have HQ := HQ3
  clear HQ3
  go_wp2_with fail
  refine (g4 _ HQ.out).mono ?_
  rintro _ w3 ⟨rfl, hb3⟩
  have HQ3 := Lib.hid (HQ.out.trans (hb3.mono HQ.out.size))
  clear hb3 g4 HQ
  have HQ := HQ3
  clear HQ3
  go_wp2_with fail
  refine (g5 _ HQ.out).mono ?_
  rintro _ w5 ⟨o, rfl, hr⟩
  have HR := Lib.hid hr
  clear hr g5
  cases o with
  | none =>
    unfold idV
    go_wp2_with fail
    refine bodyPost_ret (v := .tuple #[.int .i64 0, .iface 50 (.int .i64 3)]) (by simp [results, Try.results73, go_sem]) rfl ?_
    exact ⟨none, rfl, HR.out⟩
  | some r =>
    unfold idV
    go_wp2_with fail
    refine bodyPost_ret (v := .tuple #[.int .i64 (r : Int), .nilIface]) (by simp [results, Try.results73, go_sem]) rfl ?_
    exact ⟨some r, rfl, HR.out⟩
set_option maxRecDepth 100000 in
theorem lv_b4 (p : Nat) (a b da db l r dl dr x y dx dy : Int) (w : World) {R : Option Nat → World → Prop} (s1 : IntKind.i64.wrap (db + 1) = db + 1) (s2 : IntKind.i64.wrap (da + 1) = da + 1) (n1 : ¬ (db + 1 < da)) (n2 : da + 1 < db) (n3 : dr < dl) (g3 : ∀ W, Below w.heap.size w W → Calls Try.prog 72 #[ptr p, .int .i64 b] W fun e w' => e = .returned (.tuple #[.int .i64 l, .int .i64 r, .int .i64 dl, .int .i64 dr, .nilIface]) ∧ Below W.heap.size W w') (g4 : ∀ W, Below w.heap.size w W → Calls Try.prog 72 #[ptr p, .int .i64 l] W fun e w' => e = .returned (.tuple #[.int .i64 x, .int .i64 y, .int .i64 dx, .int .i64 dy, .nilIface]) ∧ Below W.heap.size W w') (g5 : ∀ W, Below w.heap.size w W → Calls Try.prog 91 #[ptr p, .int .i64 a, .int .i64 x, .int .i64 y, .int .i64 r] W (Ids R)) (g1 : ∀ W, Below w.heap.size w W → Calls Try.prog 13 #[ptr p, .int .i64 a] W fun e w' => e = .returned (.tuple #[.int .i64 da, .nilIface]) ∧ Below W.heap.size W w') (g2 : ∀ W, Below w.heap.size w W → Calls Try.prog 13 #[ptr p, .int .i64 b] W fun e w' => e = .returned (.tuple #[.int .i64 db, .nilIface]) ∧ Below W.heap.size W w') :
    Calls Try.prog 73 #[ptr p, .int .i64 a, .int .i64 b] w (Ids R) := by
  unfold ptr at *
  go_enter Try.func73, Try.ntmps73
  go_wp2_with fail
  refine (g1 _ (Below.refl _ _)).mono ?_
  rintro _ w1 ⟨rfl, hb1⟩
  go_wp2_with fail
  refine (g2 _ hb1).mono ?_
  rintro _ w2 ⟨rfl, hb2⟩
  have HQ := Lib.hid (hb1.trans (hb2.mono hb1.size))
  clear hb1 hb2 g1 g2
  go_wp2_with fail
  refine (g3 _ HQ.out).mono ?_
  rintro _ w3 ⟨rfl, hb3⟩
  have HQ3 := Lib.hid (HQ.out.trans (hb3.mono HQ.out.size))
  clear hb3 g3 HQ
  have HQ := HQ3
  clear HQ3
  go_wp2_with fail
  refine (g4 _ HQ.out).mono ?_
  rintro _ w3 ⟨rfl, hb3⟩
  have HQ3 := Lib.hid (HQ.out.trans (hb3.mono HQ.out.size))
  clear hb3 g4 HQ
  have HQ := HQ3
  clear HQ3
  go_wp2_with fail
  refine (g5 _ HQ.out).mono ?_
  rintro _ w5 ⟨o, rfl, hr⟩
  have HR := Lib.hid hr
  clear hr g5
  cases o with
  | none =>
    unfold idV
    go_wp2_with fail
    refine bodyPost_ret (v := .tuple #[.int .i64 0, .iface 50 (.int .i64 3)]) (by simp [results, Try.results73, go_sem]) rfl ?_
    exact ⟨none, rfl, HR.out⟩
  | some r =>
    unfold idV
    go_wp2_with fail
    refine bodyPost_ret (v := .tuple #[.int .i64 (r : Int), .nilIface]) (by simp [results, Try.results73, go_sem]) rfl ?_
    exact ⟨some r, rfl, HR.out⟩
set_option maxRecDepth 100000 in
theorem lv_b2 (p : Nat) (a b da db l r dl dr : Int) (w : World) {R : Option Nat → World → Prop} (s1 : IntKind.i64.wrap (db + 1) = db + 1) (s2 : IntKind.i64.wrap (da + 1) = da + 1) (n1 : ¬ (db + 1 < da)) (n2 : da + 1 < db) (n3 : ¬ dr < dl) (g3 : ∀ W, Below w.heap.size w W → Calls Try.prog 72 #[ptr p, .int .i64 b] W fun e w' => e = .returned (.tuple #[.int .i64 l, .int .i64 r, .int .i64 dl, .int .i64 dr, .nilIface]) ∧ Below W.heap.size W w') {R1 : Option Nat → World → Prop} (gn : ∀ w1, R1 none w1 → R none w1) (g4 : ∀ W, Below w.heap.size w W → Calls Try.prog 68 #[ptr p, .int .i64 a, .int .i64 l] W (Ids R1)) (g5 : ∀ (i : Nat) w1, R1 (some i) w1 → Calls Try.prog 68 #[ptr p, .int .i64 (i : Int), .int .i64 r] w1 (Ids R)) (g1 : ∀ W, Below w.heap.size w W → Calls Try.prog 13 #[ptr p, .int .i64 a] W fun e w' => e = .returned (.tuple #[.int .i64 da, .nilIface]) ∧ Below W.heap.size W w') (g2 : ∀ W, Below w.heap.size w W → Calls Try.prog 13 #[ptr p, .int .i64 b] W fun e w' => e = .returned (.tuple #[.int .i64 db, .nilIface]) ∧ Below W.heap.size W w') :
    Calls Try.prog 73 #[ptr p, .int .i64 a, .int .i64 b] w (Ids R) := by
  unfold ptr at *
  go_enter Try.func73, Try.ntmps73
  go_wp2_with fail
  refine (g1 _ (Below.refl _ _)).mono ?_
  rintro _ w1 ⟨rfl, hb1⟩
  go_wp2_with fail
  refine (g2 _ hb1).mono ?_
  rintro _ w2 ⟨rfl, hb2⟩
  have HQ := Lib.hid (hb1.trans (hb2.mono hb1.size))
  clear hb1 hb2 g1 g2
  go_wp2_with fail
  refine (g3 _ HQ.out).mono ?_
  rintro _ w3 ⟨rfl, hb3⟩
  have HQ3 := Lib.hid (HQ.out.trans (hb3.mono HQ.out.size))
  clear hb3 g3 HQ
  have HQ := HQ3
  clear HQ3
  go_wp2_with fail
  refine (g4 _ HQ.out).mono ?_
  rintro _ w4 ⟨o, rfl, hr⟩
  cases o with
  | none =>
    have HR := Lib.hid (gn _ hr)
    clear hr
    unfold idV
    go_wp2_with fail
    refine bodyPost_ret (v := .tuple #[.int .i64 0, .iface 50 (.int .i64 3)]) (by simp [results, Try.results73, go_sem]) rfl ?_
    exact ⟨none, rfl, HR.out⟩
  | some i =>
    have g6 := g5 i w4 hr
    clear hr g5 gn g4 HQ
    unfold idV
    go_wp2_with fail
    refine g6.mono ?_
    rintro _ w5 ⟨o, rfl, hr⟩
    have HR := Lib.hid hr
    clear hr g6
    cases o with
    | none =>
      unfold idV
      go_wp2_with fail
      refine bodyPost_ret (v := .tuple #[.int .i64 0, .iface 50 (.int .i64 3)]) (by simp [results, Try.results73, go_sem]) rfl ?_
      exact ⟨none, rfl, HR.out⟩
    | some z =>
      unfold idV
      go_wp2_with fail
      refine bodyPost_ret (v := .tuple #[.int .i64 (z : Int), .nilIface]) (by simp [results, Try.results73, go_sem]) rfl ?_
      exact ⟨some z, rfl, HR.out⟩
set_option maxRecDepth 100000 in
theorem jn_near (p : Nat) (a b da db : Int) (w : World) {R : Option Nat → World → Prop} (s1 : IntKind.i64.wrap (db + 1) = db + 1) (s2 : IntKind.i64.wrap (da + 1) = da + 1) (n1 : ¬ (db + 1 < da)) (n2 : ¬ (da + 1 < db)) (g5 : ∀ W, Below w.heap.size w W → Calls Try.prog 68 #[ptr p, .int .i64 a, .int .i64 b] W (Ids R)) (g1 : ∀ W, Below w.heap.size w W → Calls Try.prog 13 #[ptr p, .int .i64 a] W fun e w' => e = .returned (.tuple #[.int .i64 da, .nilIface]) ∧ Below W.heap.size W w') (g2 : ∀ W, Below w.heap.size w W → Calls Try.prog 13 #[ptr p, .int .i64 b] W fun e w' => e = .returned (.tuple #[.int .i64 db, .nilIface]) ∧ Below W.heap.size W w') :
    Calls Try.prog 45 #[ptr p, .int .i64 a, .int .i64 b] w (Ids R) := by
  unfold ptr at *
  go_enter Try.func45, Try.ntmps45
  go_wp2_with fail
  refine (g1 _ (Below.refl _ _)).mono ?_
  rintro _ w1 ⟨rfl, hb1⟩
  go_wp2_with fail
  refine (g2 _ hb1).mono ?_
  rintro _ w2 ⟨rfl, hb2⟩
  have HQ := Lib.hid (hb1.trans (hb2.mono hb1.size))
  clear hb1 hb2 g1 g2
  go_wp2_with fail
  refine (g5 _ HQ.out).mono ?_
  rintro _ w5 ⟨o, rfl, hr⟩
  have HR := Lib.hid hr
  clear hr g5
  cases o with
  | none =>
    unfold idV
    go_wp2_with fail
    refine bodyPost_ret (v := .tuple #[.int .i64 0, .iface 50 (.int .i64 3)]) (by simp [results, Try.results45, go_sem]) rfl ?_
    exact ⟨none, rfl, HR.out⟩
  | some r =>
    unfold idV
    go_wp2_with fail
    refine bodyPost_ret (v := .tuple #[.int .i64 (r : Int), .nilIface]) (by simp [results, Try.results45, go_sem]) rfl ?_
    exact ⟨some r, rfl, HR.out⟩
set_option maxRecDepth 100000 in
theorem jn_a (p : Nat) (a b da db l r dl dr : Int) (w : World) {R : Option Nat → World → Prop} (s1 : IntKind.i64.wrap (db + 1) = db + 1) (s2 : IntKind.i64.wrap (da + 1) = da + 1) (n1 : db + 1 < da) (g3 : ∀ W, Below w.heap.size w W → Calls Try.prog 72 #[ptr p, .int .i64 a] W fun e w' => e = .returned (.tuple #[.int .i64 l, .int .i64 r, .int .i64 dl, .int .i64 dr, .nilIface]) ∧ Below W.heap.size W w') {R1 : Option Nat → World → Prop} (gn : ∀ w1, R1 none w1 → R none w1) (g4 : ∀ W, Below w.heap.size w W → Calls Try.prog 45 #[ptr p, .int .i64 r, .int .i64 b] W (Ids R1)) (g5 : ∀ (i : Nat) w1, R1 (some i) w1 → Calls Try.prog 73 #[ptr p, .int .i64 l, .int .i64 (i : Int)] w1 (Ids R)) (g1 : ∀ W, Below w.heap.size w W → Calls Try.prog 13 #[ptr p, .int .i64 a] W fun e w' => e = .returned (.tuple #[.int .i64 da, .nilIface]) ∧ Below W.heap.size W w') (g2 : ∀ W, Below w.heap.size w W → Calls Try.prog 13 #[ptr p, .int .i64 b] W fun e w' => e = .returned (.tuple #[.int .i64 db, .nilIface]) ∧ Below W.heap.size W w') :
    Calls Try.prog 45 #[ptr p, .int .i64 a, .int .i64 b] w (Ids R) := by
  unfold ptr at *
  go_enter Try.func45, Try.ntmps45
  go_wp2_with fail
  refine (g1 _ (Below.refl _ _)).mono ?_
  rintro _ w1 ⟨rfl, hb1⟩
  go_wp2_with fail
  refine (g2 _ hb1).mono ?_
  rintro _ w2 ⟨rfl, hb2⟩
  have HQ := Lib.hid (hb1.trans (hb2.mono hb1.size))
  clear hb1 hb2 g1 g2
  go_wp2_with fail
  refine (g3 _ HQ.out).mono ?_
  rintro _ w3 ⟨rfl, hb3⟩
  have HQ3 := Lib.hid (HQ.out.trans (hb3.mono HQ.out.size))
  clear hb3 g3 HQ
  have HQ := HQ3
  clear HQ3
  go_wp2_with fail
  refine (g4 _ HQ.out).mono ?_
  rintro _ w4 ⟨o, rfl, hr⟩
  cases o with
  | none =>
    have HR := Lib.hid (gn _ hr)
    clear hr
    unfold idV
    go_wp2_with fail
    refine bodyPost_ret (v := .tuple #[.int .i64 0, .iface 50 (.int .i64 3)]) (by simp [results, Try.results45, go_sem]) rfl ?_
    exact ⟨none, rfl, HR.out⟩
  | some i =>
    have g6 := g5 i w4 hr
    clear hr g5 gn g4 HQ
    unfold idV
    go_wp2_with fail
    refine g6.mono ?_
    rintro _ w5 ⟨o, rfl, hr⟩
    have HR := Lib.hid hr
    clear hr g6
    cases o with
    | none =>
      unfold idV
      go_wp2_with fail
      refine bodyPost_ret (v := .tuple #[.int .i64 0, .iface 50 (.int .i64 3)]) (by simp [results, Try.results45, go_sem]) rfl ?_
      exact ⟨none, rfl, HR.out⟩
    | some z =>
      unfold idV
      go_wp2_with fail
      refine bodyPost_ret (v := .tuple #[.int .i64 (z : Int), .nilIface]) (by simp [results, Try.results45, go_sem]) rfl ?_
      exact ⟨some z, rfl, HR.out⟩
set_option maxRecDepth 100000 in
theorem jn_b (p : Nat) (a b da db l r dl dr : Int) (w : World) {R : Option Nat → World → Prop} (s1 : IntKind.i64.wrap (db + 1) = db + 1) (s2 : IntKind.i64.wrap (da + 1) = da + 1) (n1 : ¬ (db + 1 < da)) (n2 : da + 1 < db) (g3 : ∀ W, Below w.heap.size w W → Calls Try.prog 72 #[ptr p, .int .i64 b] W fun e w' => e = .returned (.tuple #[.int .i64 l, .int .i64 r, .int .i64 dl, .int .i64 dr, .nilIface]) ∧ Below W.heap.size W w') {R1 : Option Nat → World → Prop} (gn : ∀ w1, R1 none w1 → R none w1) (g4 : ∀ W, Below w.heap.size w W → Calls Try.prog 45 #[ptr p, .int .i64 a, .int .i64 l] W (Ids R1)) (g5 : ∀ (i : Nat) w1, R1 (some i) w1 → Calls Try.prog 73 #[ptr p, .int .i64 (i : Int), .int .i64 r] w1 (Ids R)) (g1 : ∀ W, Below w.heap.size w W → Calls Try.prog 13 #[ptr p, .int .i64 a] W fun e w' => e = .returned (.tuple #[.int .i64 da, .nilIface]) ∧ Below W.heap.size W w') (g2 : ∀ W, Below w.heap.size w W → Calls Try.prog 13 #[ptr p, .int .i64 b] W fun e w' => e = .returned (.tuple #[.int .i64 db, .nilIface]) ∧ Below W.heap.size W w') :
    Calls Try.prog 45 #[ptr p, .int .i64 a, .int .i64 b] w (Ids R) := by
  unfold ptr at *
  go_enter Try.func45, Try.ntmps45
  go_wp2_with fail
  refine (g1 _ (Below.refl _ _)).mono ?_
  rintro _ w1 ⟨rfl, hb1⟩
  go_wp2_with fail
  refine (g2 _ hb1).mono ?_
  rintro _ w2 ⟨rfl, hb2⟩
  have HQ := Lib.hid (hb1.trans (hb2.mono hb1.size))
  clear hb1 hb2 g1 g2
  go_wp2_with fail
  refine (g3 _ HQ.out).mono ?_
  rintro _ w3 ⟨rfl, hb3⟩
  have HQ3 := Lib.hid (HQ.out.trans (hb3.mono HQ.out.size))
  clear hb3 g3 HQ
  have HQ := HQ3
  clear HQ3
  go_wp2_with fail
  refine (g4 _ HQ.out).mono ?_
  rintro _ w4 ⟨o, rfl, hr⟩
  cases o with
  | none =>
    have HR := Lib.hid (gn _ hr)
    clear hr
    unfold idV
    go_wp2_with fail
    refine bodyPost_ret (v := .tuple #[.int .i64 0, .iface 50 (.int .i64 3)]) (by simp [results, Try.results45, go_sem]) rfl ?_
    exact ⟨none, rfl, HR.out⟩
  | some i =>
    have g6 := g5 i w4 hr
    clear hr g5 gn g4 HQ
    unfold idV
    go_wp2_with fail
    refine g6.mono ?_
    rintro _ w5 ⟨o, rfl, hr⟩
    have HR := Lib.hid hr
    clear hr g6
    cases o with
    | none =>
      unfold idV
      go_wp2_with fail
      refine bodyPost_ret (v := .tuple #[.int .i64 0, .iface 50 (.int .i64 3)]) (by simp [results, Try.results45, go_sem]) rfl ?_
      exact ⟨none, rfl, HR.out⟩
    | some z =>
      unfold idV
      go_wp2_with fail
      refine bodyPost_ret (v := .tuple #[.int .i64 (z : Int), .nilIface]) (by simp [results, Try.results45, go_sem]) rfl ?_
      exact ⟨some z, rfl, HR.out⟩
end Go.Proofs.Ytphpfkhpihlalaa
