/- length.Mul; the walks of balance.text and balance.Text. -/
import Derived.Test.YtphpfkhpihlalaaAv6
import Derived.Laws.Slices
namespace Go.Proofs.Ytphpfkhpihlalaa
open Go.RowKit
set_option maxRecDepth 100000 in
theorem lmul_any (a k : Int) (w : World) (ha : 0 ≤ a) (hk : 0 ≤ k) (h : a * k ≤ 1152921504606846976) (ha1 : a ≤ 1152921504606846976) : Calls Try.prog 36 #[.int .i64 a, .int .i64 k] w fun e w' => e = .returned (.tuple #[.int .i64 (a * k), .nilIface]) ∧ w' = w := by
  have h1 := fun W => valid_any a W
  rw [show okL a = true by simp [okL]; omega] at h1
  have hk0 : ¬ k < 0 := by omega
  by_cases h0 : a = 0
  · subst h0
    rw [Int.zero_mul]
    go_enter Try.func36, Try.ntmps36
    go_wp2_with fail
    refine (h1 _).mono ?_
    rintro _ wk ⟨rfl, hwk⟩
    rw [hwk]
    clear hwk wk h1
    go_wp2_with fail
    refine bodyPost_ret (v := .tuple #[.int .i64 0, .nilIface]) (by simp [results, Try.results36, go_sem]) rfl ?_
    exact ⟨rfl, rfl⟩
  · have ha0 : (a == 0) = false := by simpa using h0
    have hpos : 0 ≤ a * k := Int.mul_nonneg ha hk
    have hm : IntKind.i64.wrap (a * k) = a * k := IntWalk.i64_in _ (by omega)
    have hdv : k ≤ 1152921504606846976 / a := (Int.le_ediv_iff_mul_le (by omega)).2 (by rw [Int.mul_comm]; exact h)
    have hd0 : 0 ≤ 1152921504606846976 / a := Int.le_trans hk hdv
    have hd1 : 1152921504606846976 / a ≤ 1152921504606846976 := Int.ediv_le_self _ (by omega)
    have hq : IntKind.i64.wrap ((1152921504606846976 : Int).tdiv a) = 1152921504606846976 / a := by
      rw [Int.tdiv_eq_ediv_of_nonneg (by omega)]
      exact IntWalk.i64_in _ (by omega)
    generalize (1152921504606846976 / a : Int) = q at hdv hq hd0 hd1
    have hgt : ¬ (q < k) := by omega
    go_enter Try.func36, Try.ntmps36
    go_wp2_with fail
    refine (h1 _).mono ?_
    rintro _ wk ⟨rfl, hwk⟩
    rw [hwk]
    clear hwk wk h1
    go_wp2_with fail
    refine bodyPost_ret (v := .tuple #[.int .i64 (a * k), .nilIface]) (by simp [results, Try.results36, go_sem]) rfl ?_
    exact ⟨rfl, rfl⟩
theorem sizeB (W : World) : (sizeOf (Try.prog.elem 22)).run Try.prog W = .ok 1 W := by kernel_rfl
theorem elemB : Try.prog.underlying 22 = some (.slice (Try.prog.elem 22)) := by kernel_rfl
theorem sB_pre (g o n c j : Nat) (hj : j ≤ c) (h0 : 0 < c) (W : World) : (Instr.slice 22 (.slice (some ⟨g, o, none⟩) n c) none (some (.int .i64 (j : Int))) none).run Try.prog W = .ok (.slice (some ⟨g, o, none⟩) j c) W := by
  rw [run_slice_h W 22 _ n c elemB .i64 j (by omega) (by omega), sizeB]
  have : ¬ c = 0 := by omega
  simp [Result.andThen, sliced, this, addr_add]
theorem sB_low (g o n c j : Nat) (hj : j < n) (hc : n ≤ c) (W : World) : (Instr.slice 22 (.slice (some ⟨g, o, none⟩) n c) (some (.int .i64 (j : Int))) none none).run Try.prog W = .ok (.slice (some ⟨g, o + j, none⟩) (n - j) (c - j)) W := by
  rw [run_slice_l W 22 _ n c elemB .i64 j (by omega) (by omega), sizeB]
  have : ¬ c = j := by omega
  simp [Result.andThen, sliced, this, addr_add]
/-- A slice of bytes in a block of its own. -/
structure SlB (w : World) (F : Nat → Prop) (g o : Nat) (bs : List UInt8) : Prop where
  lt : g < w.heap.size
  far : ¬ F g
  at_ : ∀ i b, bs[i]? = some b → w.cell? ⟨g, o + i, none⟩ = some (.int .u8 b.toNat)
theorem SlB.kept {w w' : World} {F G : Nat → Prop} {g o : Nat} {bs : List UInt8} (h : SlB w F g o bs) (k : Kept F w w') (hG : ∀ i, i < w.heap.size → G i → F i) : SlB w' G g o bs :=
  ⟨Nat.lt_of_lt_of_le h.lt k.size, fun hg => h.far (hG g h.lt hg), fun i b hi => (k.cell h.lt h.far).trans (h.at_ i b hi)⟩
theorem newF_old {F : Nat → Prop} {w w1 : World} : ∀ i, i < w.heap.size → NewF F w w1 i → F i := fun i hi h => h.1.resolve_right (by omega)
theorem SlB.take {w : World} {F : Nat → Prop} {g o : Nat} {bs : List UInt8} (h : SlB w F g o bs) (k : Nat) : SlB w F g o (bs.take k) :=
  ⟨h.lt, h.far, fun i b hi => h.at_ i b (by rw [List.getElem?_take] at hi; split at hi; exact hi; cases hi)⟩
theorem SlB.drop {w : World} {F : Nat → Prop} {g o : Nat} {bs : List UInt8} (h : SlB w F g o bs) (k : Nat) : SlB w F g (o + k) (bs.drop k) :=
  ⟨h.lt, h.far, fun i b hi => by rw [Nat.add_assoc]; exact h.at_ (k + i) b (by rw [List.getElem?_drop] at hi; exact hi)⟩
set_option maxRecDepth 100000 in
theorem text_walk1 (p g o c : Nat) (b : Nat) (w : World) (hb : w.cell? ⟨g, o, none⟩ = some (.int .u8 (b : Int))) {R : Option Nat → World → Prop} (g1 : Calls Try.prog 67 #[ptr p, .int .u8 (b : Int)] w (Ids R)) :
    Calls Try.prog 35 #[ptr p, .slice (some ⟨g, o, none⟩) 1 c] w (Ids R) := by
  unfold ptr at *
  go_enter Try.func35, Try.ntmps35
  go_wp2_with fail
  refine g1.mono ?_
  rintro _ w5 ⟨z, rfl, hr⟩
  have HR := Lib.hid hr
  clear hr g1
  cases z with
  | none =>
    unfold idV
    go_wp2_with fail
    refine bodyPost_ret (v := .tuple #[.int .i64 0, .iface 50 (.int .i64 3)]) (by simp [results, Try.results35, go_sem]) rfl ?_
    exact ⟨none, rfl, HR.out⟩
  | some r =>
    unfold idV
    go_wp2_with fail
    refine bodyPost_ret (v := .tuple #[.int .i64 (r : Int), .nilIface]) (by simp [results, Try.results35, go_sem]) rfl ?_
    exact ⟨some r, rfl, HR.out⟩
set_option maxRecDepth 100000 in
set_option maxHeartbeats 1000000 in
theorem text_walk2 (p g o n c : Nat) (w : World) (hn : 2 ≤ n) (h1 : n ≤ 65536) (hc : n ≤ c) {R R1 : Option Nat → World → Prop} {R2 : Nat → Option Nat → World → Prop}
    (g1 : Calls Try.prog 35 #[ptr p, .slice (some ⟨g, o, none⟩) (n / 2) c] w (Ids R1)) (n1 : ∀ W, R1 none W → R none W)
    (g2 : ∀ i W, R1 (some i) W → Calls Try.prog 35 #[ptr p, .slice (some ⟨g, o + n / 2, none⟩) (n - n / 2) (c - n / 2)] W (Ids (R2 i))) (n2 : ∀ i W, R2 i none W → R none W)
    (g3 : ∀ i j W, R2 i (some j) W → Calls Try.prog 68 #[ptr p, .int .i64 ((i : Nat) : Int), .int .i64 ((j : Nat) : Int)] W (Ids R)) :
    Calls Try.prog 35 #[ptr p, .slice (some ⟨g, o, none⟩) n c] w (Ids R) := by
  have hne : ((n : Int) == 1) = false := by simp; omega
  have hq : wrap64 ((n : Int) / 2) = ((n / 2 : Nat) : Int) := by
    unfold wrap64; omega
  have s1 := fun W => sB_pre g o n c (n / 2) (by omega) (by omega) W
  have s2 := fun W => sB_low g o n c (n / 2) (by omega) hc W
  generalize n / 2 = m at *
  generalize o + m = o2 at *
  generalize n - m = n3 at *
  generalize c - m = c2 at *
  have G2 := Lib.hid g2
  have G3 := Lib.hid g3
  have N1 := Lib.hid n1
  have N2 := Lib.hid n2
  clear g2 g3 n1 n2 hn h1 hc
  unfold ptr at *
  go_enter Try.func35, Try.ntmps35
  go_wp2_with fail
  refine g1.mono ?_
  rintro _ w1 ⟨z, rfl, hr⟩
  clear g1
  cases z with
  | none =>
    have HR := Lib.hid (N1.out _ hr)
    clear hr
    unfold idV
    go_wp2_with fail
    refine bodyPost_ret (v := .tuple #[.int .i64 0, .iface 50 (.int .i64 3)]) (by simp [results, Try.results35, go_sem]) rfl ?_
    exact ⟨none, rfl, HR.out⟩
  | some i =>
    have g5 := G2.out i _ hr
    clear hr
    unfold idV
    go_wp2_with fail
    refine g5.mono ?_
    rintro _ w2 ⟨z, rfl, hr⟩
    clear g5
    cases z with
    | none =>
      have HR := Lib.hid (N2.out i _ hr)
      clear hr
      unfold idV
      go_wp2_with fail
      refine bodyPost_ret (v := .tuple #[.int .i64 0, .iface 50 (.int .i64 3)]) (by simp [results, Try.results35, go_sem]) rfl ?_
      exact ⟨none, rfl, HR.out⟩
    | some j =>
      have g6 := G3.out i j _ hr
      clear hr
      unfold idV
      go_wp2_with fail
      refine g6.mono ?_
      rintro _ w3 ⟨z, rfl, hr⟩
      have HR := Lib.hid hr
      clear hr g6
      cases z with
      | none =>
        unfold idV
        go_wp2_with fail
        refine bodyPost_ret (v := .tuple #[.int .i64 0, .iface 50 (.int .i64 3)]) (by simp [results, Try.results35, go_sem]) rfl ?_
        exact ⟨none, rfl, HR.out⟩
      | some r =>
        unfold idV
        go_wp2_with fail
        refine bodyPost_ret (v := .tuple #[.int .i64 (r : Int), .nilIface]) (by simp [results, Try.results35, go_sem]) rfl ?_
        exact ⟨some r, rfl, HR.out⟩
theorem Out.more {m c : Nat} {E : List En} {g : List En → Nat → Prop} {o : List En × Option Nat} (h : Out m E c g o) : Out m E c (fun E' id => Ext E E' ∧ g E' id) o :=
  ⟨h.ok, h.ext, h.len, h.full, fun id hi => ⟨h.ext, h.good id hi⟩⟩
theorem AvEnd.more {T : TypeId} {w w' : World} {F : Nat → Prop} {p m c : Nat} {E : List En} {g : List En → Nat → Prop} {e : Ending} (h : AvEnd T w F p m E c g e w') : AvEnd T w F p m E c (fun E' id => Ext E E' ∧ g E' id) e w' := by
  obtain ⟨o, h1, h2, h3, h4⟩ := h
  exact ⟨o, h1.more, h2, h3, h4⟩
theorem text_ind : ∀ (n : Nat) {w : World} {F : Nat → Prop} {p m : Nat} {E : List En} (_ : EOk E) (_ : StAt w F p m E) {g o c : Nat} {bs : List UInt8} (_ : SlB w F g o bs) (_ : bs.length = n) (_ : 0 < n) (_ : n ≤ c) (_ : n ≤ 65536),
    Calls Try.prog 35 #[ptr p, .slice (some ⟨g, o, none⟩) n c] w (AvEnd 50 w F p m E (2 * n - 1) (fun E' id => Tx E' id bs (dpN n))) := by
  intro n
  induction n using Nat.strongRecOn with
  | _ n ih =>
  intro w F p m E hE h g o c bs hb hl h0 hc h1
  by_cases hn : n = 1
  · subst hn
    match bs, hl with
    | [b], _ =>
      have hc0 := hb.at_ 0 b rfl
      rw [Nat.add_zero] at hc0
      exact (text_walk1 p g o c b.toNat w hc0 ((letter_any hE h b).mono fun e w' he => he.ids)).mono fun e w' he => he.av.relax (Nat.le_refl _) fun E' id hx => by rw [dpN_one]; exact hx
  · have lt1 : (bs.take (n / 2)).length = n / 2 := by rw [List.length_take]; omega
    have ld1 : (bs.drop (n / 2)).length = n - n / 2 := by rw [List.length_drop]; omega
    refine (text_walk2 p g o n c w (by omega) h1 hc (R := AvR w F p m E (2 * n - 1) (fun E' id => Tx E' id bs (dpN n))) (R1 := AvR w F p m E (2 * (n / 2) - 1) (fun E' id => Tx E' id (bs.take (n / 2)) (dpN (n / 2))))
      (R2 := fun i => AvR w F p m E (2 * (n / 2) - 1 + (2 * (n - n / 2) - 1)) (fun E' j => Tx E' i (bs.take (n / 2)) (dpN (n / 2)) ∧ Tx E' j (bs.drop (n / 2)) (dpN (n - n / 2))))
      ((ih (n / 2) (by omega) hE h (hb.take _) lt1 (by omega) (by omega) (by omega)).mono fun e w' he => he.ids) (fun W hr => hr.none_ (by omega)) (fun i W hr => ?_) (fun i W hr => hr.none_ (by omega)) (fun i j W hr => ?_)).mono fun _ _ he => he.av
    · obtain ⟨E1, o1, k1, st1⟩ := hr
      exact (ih (n - n / 2) (by omega) o1.ok st1 ((hb.drop _).kept k1 newF_old) ld1 (by omega) (by omega) (by omega)).mono fun e w' he =>
        ((he.more.then_ k1 newF_sub o1.ext o1.len).relax (Nat.le_refl _) fun E' id hx => ⟨(o1.good i rfl).ext hx.1, hx.2⟩).ids
    · obtain ⟨E2, o2, k2, st2⟩ := hr
      obtain ⟨x1, x2⟩ := o2.good j rfl
      have x1 : Tx E2 i (bs.take (n / 2)) (dpN (n / 2)) := x1
      have x2 : Tx E2 j (bs.drop (n / 2)) (dpN (n - n / 2)) := x2
      exact (pair_any o2.ok st2 x1 x2 (dpN_near n) (by rw [lt1, ld1]; omega)).mono fun e w' he =>
        ((he.then_ k2 newF_sub o2.ext o2.len).relax (by omega) fun E' id hx => by rw [List.take_append_drop, ← dpN_two (by omega)] at hx; exact hx).ids
end Go.Proofs.Ytphpfkhpihlalaa
