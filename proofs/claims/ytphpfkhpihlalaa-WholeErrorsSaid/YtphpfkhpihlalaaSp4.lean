/- split.Split; length.Range. -/
import Derived.Test.YtphpfkhpihlalaaSp3
namespace Go.Proofs.Ytphpfkhpihlalaa
open Go.RowKit
set_option maxRecDepth 100000 in
theorem Split_walk (p : Nat) (id n total : Int) (w : World) {R : Ending → World → Prop} {R1 : Option Nat → World → Prop} {R2 : Nat → Option Nat → World → Prop} (hn0 : 0 ≤ n) (hn1 : n ≤ total)
    (g0 : ∀ W, Below w.heap.size w W → Calls Try.prog 40 #[ptr p, .int .i64 id] W fun e w' => e = .returned (.tuple #[.int .i64 total, .nilIface]) ∧ Below W.heap.size W w')
    (g1 : ∀ W, Below w.heap.size w W → Calls Try.prog 41 #[ptr p, .int .i64 id, .int .i64 n] W (Ids R1)) (n1 : ∀ W, R1 none W → R (.returned (.tuple #[.int .i64 0, .int .i64 0, .iface 50 (.int .i64 3)])) W)
    (g2 : ∀ i W, R1 (some i) W → Calls Try.prog 42 #[ptr p, .int .i64 id, .int .i64 n] W (Ids (R2 i))) (n2 : ∀ i W, R2 i none W → R (.returned (.tuple #[.int .i64 0, .int .i64 0, .iface 50 (.int .i64 3)])) W)
    (k : ∀ (i j : Nat) W, R2 i (some j) W → R (.returned (.tuple #[.int .i64 (i : Int), .int .i64 (j : Int), .nilIface])) W) :
    Calls Try.prog 16 #[ptr p, .int .i64 id, .int .i64 n] w R := by
  have h0 : ¬ n < 0 := by omega
  have h1 : ¬ total < n := by omega
  clear hn0 hn1
  have G2 := Lib.hid g2
  have N1 := Lib.hid n1
  have N2 := Lib.hid n2
  have K := Lib.hid k
  clear g2 n1 n2 k
  unfold ptr at *
  go_enter Try.func16, Try.ntmps16
  go_wp2_with fail
  refine (g0 _ (Below.refl _ _)).mono ?_
  rintro _ w1 ⟨rfl, hb1⟩
  have g5 := g1 _ hb1
  clear g1 g0 hb1
  go_wp2_with fail
  refine g5.mono ?_
  rintro _ w2 ⟨z, rfl, hr⟩
  clear g5
  cases z with
  | none =>
    have HR := Lib.hid (N1.out _ hr)
    clear hr
    unfold idV
    go_wp2_with fail
    refine bodyPost_ret (v := .tuple #[.int .i64 0, .int .i64 0, .iface 50 (.int .i64 3)]) (by simp [results, Try.results16, go_sem]) rfl ?_
    exact HR.out
  | some i =>
    have g6 := G2.out i _ hr
    clear hr
    unfold idV
    go_wp2_with fail
    refine g6.mono ?_
    rintro _ w3 ⟨z, rfl, hr⟩
    clear g6
    cases z with
    | none =>
      have HR := Lib.hid (N2.out i _ hr)
      clear hr
      unfold idV
      go_wp2_with fail
      refine bodyPost_ret (v := .tuple #[.int .i64 0, .int .i64 0, .iface 50 (.int .i64 3)]) (by simp [results, Try.results16, go_sem]) rfl ?_
      exact HR.out
    | some j =>
      have HR := Lib.hid (K.out i j _ hr)
      clear hr
      unfold idV
      go_wp2_with fail
      refine bodyPost_ret (v := .tuple #[.int .i64 (i : Int), .int .i64 (j : Int), .nilIface]) (by simp [results, Try.results16, go_sem]) rfl ?_
      exact HR.out
/-- What split.Split does: both parts, or no room. -/
def SplEnd (w : World) (F : Nat → Prop) (p m : Nat) (E : List En) (d : Nat) (s t : List UInt8) (e : Ending) (w' : World) : Prop :=
  ∃ E', EOk E' ∧ Ext E E' ∧ E'.length ≤ E.length + 14 * d ∧ Kept F w w' ∧ StAt w' (NewF F w w') p m E' ∧
    ((∃ a b ra rb : Nat, e = .returned (.tuple #[.int .i64 (a : Int), .int .i64 (b : Int), .nilIface]) ∧ TxO E' a s ra ∧ TxO E' b t rb ∧ ra ≤ d ∧ rb ≤ d) ∨ (m ≤ E'.length ∧ e = .returned (.tuple #[.int .i64 0, .int .i64 0, .iface 50 (.int .i64 3)])))
theorem Split_any {w : World} {F : Nat → Prop} {p m : Nat} {E : List En} (hE : EOk E) (h : StAt w F p m E) {id d : Nat} {t : List UInt8} (hx : TxO E id t d) (n : Nat) (hn : n ≤ t.length) :
    Calls Try.prog 16 #[ptr p, .int .i64 (id : Int), .int .i64 (n : Int)] w (SplEnd w F p m E d (t.take n) (t.drop n)) := by
  obtain ⟨z, hz, hzt, _, hze⟩ := hx.at_
  have hl : z.wt.len = (t.length : Int) := by rw [(hE.fit id z hz).length, hzt]
  have hc := check_tx h hz hze
  rw [hl] at hc
  refine Split_walk p id n t.length w (by omega) (by omega) hc (R1 := AvR w F p m E (7 * d) (frGood E.length d (t.take n))) (R2 := fun i => AvR w F p m E (14 * d) (fun E' j => ∃ ra rb, TxO E' i (t.take n) ra ∧ TxO E' j (t.drop n) rb ∧ ra ≤ d ∧ rb ≤ d))
    (fun W hW => (front_ind d hE (h.below hW) hx rfl n hn).mono fun e w' he => (he.over hW).ids) (fun W hr => ?_) (fun i W hr => ?_) (fun i W hr => ?_) (fun i j W hr => ?_)
  · obtain ⟨E1, o1, k1, st1⟩ := hr
    have := o1.len
    exact ⟨E1, o1.ok, o1.ext, by simp only at this; omega, k1, st1, .inr ⟨o1.full rfl, rfl⟩⟩
  · obtain ⟨E1, o1, k1, st1⟩ := hr
    obtain ⟨r1, y1, y2, _⟩ := o1.good i rfl
    exact (rest_ind d o1.ok st1 (hx.ext o1.ext) rfl n hn).mono fun e w' he =>
      ((he.more.then_ k1 newF_sub o1.ext o1.len).relax (by omega) fun E' j ⟨x1, r2, z1, z2, _⟩ => ⟨r1, r2, y1.ext x1, z1, y2, z2⟩).ids
  · obtain ⟨E1, o1, k1, st1⟩ := hr
    exact ⟨E1, o1.ok, o1.ext, o1.len, k1, st1, .inr ⟨o1.full rfl, rfl⟩⟩
  · obtain ⟨E1, o1, k1, st1⟩ := hr
    obtain ⟨ra, rb, y1, y2, y3, y4⟩ := o1.good j rfl
    exact ⟨E1, o1.ok, o1.ext, o1.len, k1, st1, .inl ⟨i, j, ra, rb, rfl, y1, y2, y3, y4⟩⟩
set_option maxRecDepth 100000 in
theorem lrange_any (a n l : Int) (w : World) (ha : 0 ≤ a) (hn : 0 ≤ n) (h : a + n ≤ l) (hl : l ≤ 1152921504606846976) : Calls Try.prog 63 #[.int .i64 a, .int .i64 n, .int .i64 l] w fun e w' => e = .returned .nilIface ∧ w' = w := by
  have h1 := fun W => valid_any l W
  rw [show okL l = true by simp [okL]; omega] at h1
  have x1 : ¬ a < 0 := by omega
  have x2 : ¬ n < 0 := by omega
  have x3 : ¬ l < a := by omega
  have s1 : IntKind.i64.wrap (l - a) = l - a := IntWalk.i64_in _ (by omega)
  have x4 : ¬ l - a < n := by omega
  go_enter Try.func63, Try.ntmps63
  go_wp2_with fail
  refine (h1 _).mono ?_
  rintro _ wk ⟨rfl, hwk⟩
  rw [hwk]
  clear hwk wk h1 ha hn h hl
  go_wp2_with fail
  refine bodyPost_ret (v := .nilIface) (by simp [results, Try.results63, go_sem]) rfl ?_
  exact ⟨rfl, rfl⟩
end Go.Proofs.Ytphpfkhpihlalaa
