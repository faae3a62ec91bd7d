/- The walk of the reference's Targets. -/
import Derived.Test.YtmondfckpgjikaaUnder
import Derived.Deep.RegionHeld3
import Derived.Deep.RegionLawGrows
namespace Go.Proofs.Ytmondfckpgjikaa
open Go.RowKit Go.WideMaps
theorem ints_one (zs : List Int) : ∀ u ∈ zs.map (Value.int .i64), u.oneCell' = true := by simp [Value.oneCell']
def RTRel (w : World) (L : Nat) (l : List Row) (v i : Value) (wr : World) : Prop :=
  ∃ (k : Nat) (A : Option Addr) (c : Nat) (out : List Int), k ≤ L ∧ i = .int .i64 k ∧ out = refT (l.take k) ∧ v = .slice A out.length c ∧ out.length ≤ c ∧ (out.length = 0 → A = none ∧ c = 0) ∧ Reads wr wr.heap.size 1 A out.length (out.map (Value.int .i64)) ∧ Below w.heap.size w wr
def InRel (wr : World) (x : Int) (out : List Int) (i : Value) (w' : World) : Prop :=
  ∃ k : Nat, k ≤ out.length ∧ i = .int .i64 k ∧ (∀ j (hj : j < out.length), j < k → out[j] < x) ∧ Below wr.heap.size wr w'
set_option maxRecDepth 100000 in
set_option maxHeartbeats 2000000 in
theorem rtargets_any (v : Value) (l : List Row) (w : World) (hL : RS w v l) (hn : l.length ≤ 1000000) :
    Calls Try.prog 33 #[v] w (IsEnd w (refT l)) := by
  obtain ⟨i0, hi, hz0, hz1, hz2⟩ := info_parts Try.infoI
  obtain ⟨A, c, rfl, hc, hr⟩ := hL
  obtain ⟨L, hL⟩ : ∃ L, L = l.length := ⟨_, rfl⟩
  have HL := Lib.hid hL
  rw [← hL] at hr hc hn ⊢
  clear hL
  go_enter Try.func33, Try.ntmps33
  go_wp2_with fail
  go_loopw [3, 4] (fun v i wr => RTRel w L l v i wr) (fun _ i _ => L - (intOf i).toNat)
  case atStart => exact ⟨0, none, 0, [], by omega, rfl, rfl, rfl, Nat.le_refl _, fun _ => ⟨rfl, rfl⟩, Reads.none_, Below.refl _ _⟩
  case round =>
    obtain ⟨k, Ao, co, out, hk, rfl, hout, rfl, hoc, hon, hro, hb⟩ := hrel
    have HO := Lib.hid hout
    have holen : out.length ≤ k := by rw [hout]; exact refT_len k _ (by simp; rw [← HL.out]; omega)
    by_cases hlt : k < L
    · clear hout
      have hkl : k < l.length := by rw [← HL.out]; exact hlt
      obtain ⟨b, o, rfl, hbl, hc0⟩ := hr.formN (by omega) (by decide)
      obtain ⟨_, q1, _⟩ := cellsR_at l k hkl
      have e1 := hc0 _ _ q1
      rw [← Nat.add_assoc] at e1
      have d1 : wr.cell? ⟨b, o + k * 3 + 1, none⟩ = some (.int .i64 l[k].n) := (hb.cell (p := ⟨b, o + k * 3 + 1, none⟩) hbl).trans e1
      have HSN := Lib.hid (show refT (l.take (k + 1)) = insI l[k].n (refT (l.take k)) by rw [List.take_succ_eq_append_getElem hkl, refT_snoc])
      have hbl2 : b < wr.heap.size := Nat.lt_of_lt_of_le hbl hb.size
      clear hc0 q1 e1
      generalize l[k].n = x at *
      obtain ⟨wo, hwo⟩ : ∃ wo : World, wo = wr := ⟨_, rfl⟩
      subst hwo
      have HB := Lib.hid hb
      clear hb
      obtain ⟨N, hN⟩ : ∃ N, N = out.length := ⟨_, rfl⟩
      have HN := Lib.hid hN
      have hnco : N ≤ co := by omega
      have hNk : N ≤ k := by omega
      rw [← hN] at hro hon ⊢
      clear hN hoc holen
      go_wp2_with fail
      go_loopw [5] (fun i w' => InRel wo x out i w') (fun i _ => N - (intOf i).toNat)
      case atStart => exact ⟨0, by omega, rfl, fun j _ h => absurd h (by omega), Below.refl _ _⟩
      case round =>
        obtain ⟨p, hp, rfl, hall, hbq⟩ := hrel
        rw [← HN.out] at hp
        have HAL := Lib.hid hall
        have f1 : wr.cell? ⟨b, o + k * 3 + 1, none⟩ = some (.int .i64 x) := (hbq.cell (p := ⟨b, o + k * 3 + 1, none⟩) hbl2).trans d1
        have q0 : (0 : Int) ≤ (p : Int) := by omega
        have q1 : (k : Int) < (L : Int) := by omega
        have q2 : (0 : Int) ≤ (k : Int) := by omega
        clear hall
        by_cases hpn : p < N
        · have hpl : p < out.length := by rw [← HN.out]; exact hpn
          obtain ⟨b2, o2, rfl, hbo2, hc2⟩ := hro.form (by omega)
          have g1 : wr.cell? ⟨b2, o2 + p, none⟩ = some (.int .i64 out[p]) := (hbq.cell (p := ⟨b2, o2 + p, none⟩) hbo2).trans (hc2 p _ (by rw [List.getElem?_map, List.getElem?_eq_getElem hpl]; rfl))
          have HPO := Lib.hid (show out[p]? = some out[p] from List.getElem?_eq_getElem hpl)
          have HST := Lib.hid (fun (h : out[p] < x) => (fun j (hj : j < out.length) (hjp : j < p + 1) => by
            rcases Nat.lt_or_ge j p with h1 | h1
            · exact HAL.out j hj h1
            · obtain rfl : j = p := by omega
              exact h : ∀ j (hj : j < out.length), j < p + 1 → out[j] < x))
          have HPI := Lib.hid (fun (h : ¬ out[p] < x) => posI_at (x := x) (out := out) (k := p) (by omega) HAL.out (fun _ => h))
          generalize out[p] = z at *
          have q3 : (p : Int) < (N : Int) := by omega
          clear hc2
          by_cases hzx : z < x
          · have hb1 : decide (z < x) = true := by simpa using hzx
            have HBQ := Lib.hid hbq
            clear hbq
            go_wp2_with fail
            go_quiet (fail)
            go_wp2_with fail
            go_roundw
            case rel => exact ⟨p + 1, by rw [← HN.out]; omega, by go_num, HST.out hzx, below_drewN HBQ.out _⟩
            case measure => simp [intOf]; omega
          · have hb0 : decide (z < x) = false := by simpa using hzx
            have HPK := Lib.hid (HPI.out hzx)
            have HBQ := Lib.hid hbq
            have hbw : b2 < wr.heap.size := Nat.lt_of_lt_of_le hbo2 hbq.size
            clear hbq
            go_wp2_with fail
            go_quiet (fail)

            rename_i nq
            have hbd : Below wr.heap.size wr (wr.drewN nq) := below_drewN (Below.refl _ _) nq
            have hB8 : Below wo.heap.size wo (wr.drewN nq) := HBQ.out.trans (hbd.mono HBQ.out.size)
            have hro8 := (hro.below hB8).more hB8.size
            have d8 := (hB8.cell (p := ⟨b, o + k * 3 + 1, none⟩) hbl2).trans d1
            have HB8 := Lib.hid hB8

            have g8 := (hbd.cell (p := ⟨b2, o2 + p, none⟩) hbw).trans g1
            have hbw8 := Nat.lt_of_lt_of_le hbw hbd.size
            clear d1 f1 g1 hro hbd hbw hB8 HBQ
            generalize wr.drewN nq = w8 at *
            clear nq hzx hb0
            by_cases hze : z = x
            · have hb2 : (z == x) = true := by simpa using hze
              have HZE := Lib.hid hze
              clear hze
              go_wp2_with fail
              go_quiet (fail)
              rename_i nq
              have hB9 := below_drewN HB8.out nq
              have hR9 := (hro8.below (below_drewN (Below.refl w8.heap.size w8) nq)).more (below_drewN (Below.refl w8.heap.size w8) nq).size
              generalize w8.drewN nq = w9 at *
              go_wp2_with fail
              go_roundw
              case rel =>
                refine ⟨k + 1, _, co, out, by omega, by go_num, ?_, by rw [← HN.out], by rw [← HN.out]; exact hnco, by rw [← HN.out]; exact hon, by rw [← HN.out]; exact hR9, HB.out.trans (hB9.mono HB.out.size)⟩
                rw [HSN.out, ← HO.out, insI, HPK.out, HPO.out, HZE.out, if_pos rfl]
              case measure => simp [intOf]; omega
            · have hb2 : (z == x) = false := by simpa using hze
              have HNE := Lib.hid (show ¬ out[p]? = some x by rw [HPO.out]; simpa using hze)
              clear hze
              go_wp2_with fail
              go_quiet (fail)
              rename_i nq
              have hbd : Below w8.heap.size w8 (w8.drewN nq) := below_drewN (Below.refl _ _) nq
              have hB9 := Lib.hid (below_drewN HB8.out nq)
              have hro9 := (hro8.below hbd).more hbd.size
              have d9 := (hbd.cell (p := ⟨b, o + k * 3 + 1, none⟩) (by show b < _; have := HB8.out.size; omega)).trans d8
              clear hro8 d8 g8 HB8 hbd
              obtain ⟨w9, hw9⟩ : ∃ w9, w9 = w8.drewN nq := ⟨_, rfl⟩
              rw [← hw9] at hB9 hro9 d9 ⊢
              clear hw9 hbw8
              have hsz9 := hB9.out.size
              have hcut := hro9.cut (k := p) (cap := co) hp hnco
              simp only [Option.map_some, addr_add, Nat.mul_one] at hcut
              have hown9 := World.ownsRow_lit (base := w9.heap.size) (e := 3) (size := 1) w9 #[.int .i64 x] 1 (Nat.le_refl _) (by decide) rfl
              have hcut9 := (hcut.alloc (Nat.le_refl _) (.cells #[.int .i64 x] 3)).drew
              have hown9d := hown9.drew
              have hbl9 : b < w9.heap.size := Nat.lt_of_lt_of_le hbl2 hsz9
              have q4 : (p : Int) ≤ (N : Int) := by omega
              have q5 : (N : Int) ≤ (co : Int) := by omega
              have q6 : (p : Int) ≤ (co : Int) := by omega
              have hold : ∀ w1, ((w9.alloc (.cells #[.int .i64 x] 3)).drew).grownBy w1 (some w9.heap.size) → ∀ bb, (some (⟨b2, o2, none⟩ : Addr)) = some bb → ∀ (j : Nat) (u : Value), ((out.map (Value.int .i64)).take p)[j]? = some u → w1.cell? (bb.add j) = some u := fun w1 hg bb hbb j u hu => by
                have h := ((hro9.alloc (Nat.le_refl _) (.cells #[.int .i64 x] 3)).drew).grown hg (by simp) (fun g e => by injection e with e; omega)
                have hjp : j < p := by
                  rcases Nat.lt_or_ge j p with h1 | h1
                  · exact h1
                  · rw [List.getElem?_take_eq_none h1] at hu; cases hu
                rw [List.getElem?_take_of_lt hjp] at hu
                obtain ⟨ad, e, _, hc⟩ := h.2 (by omega)
                rw [hbb] at e
                injection e with e
                subst e
                exact hc j u hu
              have HOLD := Lib.hid hold
              have hnone : (some (⟨b2, o2, none⟩ : Addr)) = none → p = 0 ∧ p = 0 := fun h => by
                have : N = 0 ∨ 0 < N := by omega
                rcases this with h1 | h1
                · omega
                · first | (cases h; done) | omega
              have hlt9 : ((out.map (Value.int .i64)).take p).length = p * 1 := by have := HN.out; simp; omega
              have hld9 : ((out.map (Value.int .i64)).drop p).length = N - p := by have := HN.out; simp; omega
              have hs1 : 1 + (N - p) ≤ maxLen := by unfold maxLen; omega
              have hs2 : (1 + (N - p)) * 8 ≤ 140737488355328 := by omega
              have hs3 : w9.heap.size ≤ ((w9.alloc (.cells #[.int .i64 x] 3)).drew).heap.size := by simp
              have hs4 : ∀ u ∈ (out.map (Value.int .i64)).drop p, u.oneCell' = true := fun u hu => ints_one out u (List.mem_of_mem_drop hu)
              have hs5 : ([Value.int .i64 x] ++ (out.map (Value.int .i64)).drop p).length = (1 + (N - p)) * 1 := by rw [List.length_append, hld9]; simp
              have hs6 : ∀ u ∈ [Value.int .i64 x] ++ (out.map (Value.int .i64)).drop p, u.oneCell' = true := fun u hu => by
                rcases List.mem_append.1 hu with h | h
                · simp at h; subst h; rfl
                · exact hs4 u h
              have hs7 : p < p + (1 + (N - p)) := by omega
              have hs8 : p + (1 + (N - p)) ≤ maxLen := by unfold maxLen; omega
              have hs9 : (p + (1 + (N - p))) * 8 ≤ 140737488355328 := by omega
              have hk1 : ∀ (w1 : World), ((w9.alloc (.cells #[.int .i64 x] 3)).drew).grownBy w1 (some w9.heap.size) → w1.cell? ⟨b, o + k * 3 + 1, none⟩ = some (.int .i64 x) ∧ b < w1.heap.size := fun w1 hg => by
                refine ⟨?_, ?_⟩
                · rw [World.cell?_of_block (hg.block b (by simp; omega) (by intro e; injection e with e; omega))]
                  exact (((Below.refl w9.heap.size w9).alloc (Nat.le_refl _) (.cells #[.int .i64 x] 3)).drew.cell (p := ⟨b, o + k * 3 + 1, none⟩) hbl9).trans d9
                · have := hg.size
                  simp at this
                  omega
              have hk2 : ∀ (w1 w2 : World), w1.cell? ⟨b, o + k * 3 + 1, none⟩ = some (.int .i64 x) ∧ b < w1.heap.size → w1.grownBy w2 none → w2.cell? ⟨b, o + k * 3 + 1, none⟩ = some (.int .i64 x) := fun w1 w2 h hg => by
                rw [World.cell?_of_block (hg.block b h.2 (by simp))]
                exact h.1
              have HK1 := Lib.hid hk1
              have HK2 := Lib.hid hk2
              have hfin : ∀ (w1 w2 : World) (A2 : Option Addr) (c2 : Nat), ((w9.alloc (.cells #[.int .i64 x] 3)).drew).grownBy w1 (some w9.heap.size) → w1.grownBy w2 none →
                  w2.ownsRow w1.heap.size 3 1 (.slice A2 (p + (1 + (N - p))) c2) (p + (1 + (N - p))) ((out.map (Value.int .i64)).take p ++ ([Value.int .i64 x] ++ (out.map (Value.int .i64)).drop p)) → RTRel w L l (.slice A2 (p + (1 + (N - p))) c2) (.int .i64 (k + 1)) w2 := fun w1 w2 A2 c2 hg1 hg2 ho => by
                have hins : insI x out = out.take p ++ x :: out.drop p := by rw [insI, HPK.out, if_neg HNE.out]
                have hlen : (insI x out).length = p + (1 + (N - p)) := by
                  have := HN.out
                  rw [hins]; simp; omega
                have hle := own_le ho
                have hR := Reads.of_own ho
                have hmap : (out.map (Value.int .i64)).take p ++ ([Value.int .i64 x] ++ (out.map (Value.int .i64)).drop p) = (insI x out).map (Value.int .i64) := by
                  rw [hins, List.map_append, List.map_cons, List.map_take, List.map_drop]; rfl
                rw [hmap] at hR
                have hb1 : Below wo.heap.size wo w2 := (((hB9.out.alloc hsz9 _).drew).grown hg1 (by simp; omega) (fun j hj => by injection hj with hj; omega)).grown hg2 (by have := hg1.size; simp at this; omega) (fun j hj => by cases hj)
                refine ⟨k + 1, A2, c2, insI x out, by omega, by go_num, by rw [HSN.out, ← HO.out], by rw [hlen], by rw [hlen]; exact hle, fun h => by rw [hlen] at h; omega, by rw [hlen]; exact hR, HB.out.trans (hb1.mono HB.out.size)⟩
              have HFIN := Lib.hid hfin
              have hp1 : 0 < 1 + (N - p) := by omega
              clear hold hown9 hcut hk1 hk2 hfin
              go_wp2_with fail
              go_region_held3 (fun w' => w'.cell? ⟨b, o + k * 3 + 1, none⟩ = some (.int .i64 x))
                (first | go_keep | assumption)
                (first
                  | (refine step_append_grows (by rfl) (.tmp 49) (.tmp 59) 46 (by rfl) 3 i0 (.int .i64 0) 1 8 Try.underlying46 hi hz0 hz1 hz2 rfl (by decide) (some (⟨b2, o2, none⟩ : Addr)) p p ((out.map (Value.int .i64)).take p) (by rfl) hnone hlt9 (HOLD.out _ hgrow) ad1 (1 + (N - p)) c1 ([Value.int .i64 x] ++ (out.map (Value.int .i64)).drop p) (by rfl) hs5 hcd1 hs6 hs7 hs8 hs9 ?_; intro v2 w2 hown2 hgrow2; obtain ⟨A2, c2, rfl⟩ := own_form hown2; have hS2 := HK2.out _ _ (HK1.out _ hgrow) hgrow2)
                  | (refine step_append_any _ rfl (.tmp 55) (.tmp 58) 46 rfl w9.heap.size 3 i0 (.int .i64 0) 1 8 Try.underlying46 hi hz0 hz1 hz2 rfl (by decide) (.slice (some ⟨w9.heap.size, 0, none⟩) 1 1) 1 [.int .i64 x] rfl hown9d w9.heap.size (if co = p then some ⟨b2, o2, none⟩ else some ⟨b2, o2 + p, none⟩) (N - p) (co - p) ((out.map (Value.int .i64)).drop p) rfl hcut9 hs4 hs1 hs2 hs3 ?_; intro v1 w1 hown1 hgrow hloc; obtain ⟨A1, c1, rfl⟩ := own_form hown1; obtain ⟨ad1, rfl, hbd1, hcd1⟩ := (Reads.of_own hown1).2 hp1; have hS1 := (HK1.out _ hgrow).1))
              have hrel := HFIN.out _ _ _ _ hgrow hgrow2 hown2
              have HREL := Lib.hid hrel
              clear hrel hown2 hown1 hgrow hgrow2 hloc hbd1 hcd1 hS2 hcut9 hown9d hro9 d9
              go_wp2_with fail
              go_roundw
              case rel => exact HREL.out
              case measure => simp [intOf]; omega
        · by_cases hN0 : N = 0
          · obtain ⟨rfl, hco⟩ := hon hN0
            have HCO := Lib.hid hco
            have HN0 := Lib.hid hN0
            have hco0 : co ≤ N := by omega
            clear hco hN0
            obtain rfl : p = N := by omega
            have HNL := Lib.hid (show ∀ j (hj : j < out.length), out[j] < x from fun j hj => HAL.out j hj (by rw [← HN.out] at hj; exact hj))
            have HPK := Lib.hid (posI_at (x := x) (out := out) (k := p) (by rw [← HN.out]; exact Nat.le_refl _) HAL.out (fun hj => absurd hj (by rw [← HN.out]; omega)))
            have HNE := Lib.hid (show ¬ out[p]? = some x by rw [List.getElem?_eq_none (by rw [← HN.out]; exact Nat.le_refl _)]; simp)
            have HBQ := Lib.hid hbq
            have q3 : decide ((p : Int) < (p : Int)) = false := by simp
            have q3' : decide (p < p) = false := by simp
            clear hbq
            go_wp2_with fail
            go_quiet (fail)
            rename_i nq
            have hbd : Below wr.heap.size wr (wr.drewN nq) := below_drewN (Below.refl _ _) nq
            have hB8 : Below wo.heap.size wo (wr.drewN nq) := HBQ.out.trans (hbd.mono HBQ.out.size)
            have hro8 := (hro.below hB8).more hB8.size
            have d8 := (hB8.cell (p := ⟨b, o + k * 3 + 1, none⟩) hbl2).trans d1
            have HB8 := Lib.hid hB8
            clear d1 f1 hro hbd hB8 HBQ
            generalize wr.drewN nq = w8 at *
            clear nq
            go_wp2_with fail
            go_quiet (fail)
            rename_i nq
            have hbd : Below w8.heap.size w8 (w8.drewN nq) := below_drewN (Below.refl _ _) nq
            have hB9 := Lib.hid (below_drewN HB8.out nq)
            have hro9 := (hro8.below hbd).more hbd.size
            have d9 := (hbd.cell (p := ⟨b, o + k * 3 + 1, none⟩) (by show b < _; have := HB8.out.size; omega)).trans d8
            clear hro8 d8 HB8 hbd
            obtain ⟨w9, hw9⟩ : ∃ w9, w9 = w8.drewN nq := ⟨_, rfl⟩
            rw [← hw9] at hB9 hro9 d9 ⊢
            clear hw9
            have hsz9 := hB9.out.size
            have hcut := hro9.cut (k := p) (cap := co) hp hnco
            simp only [Option.map_none, Nat.mul_one, Nat.sub_self, ite_self] at hcut
            have hown9 := World.ownsRow_lit (base := w9.heap.size) (e := 3) (size := 1) w9 #[.int .i64 x] 1 (Nat.le_refl _) (by decide) rfl
            have hcut9 := (hcut.alloc (Nat.le_refl _) (.cells #[.int .i64 x] 3)).drew
            have hown9d := hown9.drew
            have hbl9 : b < w9.heap.size := Nat.lt_of_lt_of_le hbl2 hsz9
            have q4 : (p : Int) ≤ (p : Int) := by omega
            have q5 : (p : Int) ≤ (co : Int) := by omega
            have q6 : (p : Int) ≤ (co : Int) := by omega
            have hold : ∀ w1, ((w9.alloc (.cells #[.int .i64 x] 3)).drew).grownBy w1 (some w9.heap.size) → ∀ bb, (none : Option Addr) = some bb → ∀ (j : Nat) (u : Value), ((out.map (Value.int .i64)).take p)[j]? = some u → w1.cell? (bb.add j) = some u := fun w1 hg bb hbb j u hu => by
              have h := ((hro9.alloc (Nat.le_refl _) (.cells #[.int .i64 x] 3)).drew).grown hg (by simp) (fun g e => by injection e with e; omega)
              have hjp : j < p := by
                rcases Nat.lt_or_ge j p with h1 | h1
                · exact h1
                · rw [List.getElem?_take_eq_none h1] at hu; cases hu
              rw [List.getElem?_take_of_lt hjp] at hu
              obtain ⟨ad, e, _, hc⟩ := h.2 (by omega)
              rw [hbb] at e
              injection e with e
              subst e
              exact hc j u hu
            have HOLD := Lib.hid hold
            have hnone : (none : Option Addr) = none → p = 0 ∧ p = 0 := fun _ => ⟨HN0.out, HN0.out⟩
            have hlt9 : ((out.map (Value.int .i64)).take p).length = p * 1 := by have := HN.out; simp; omega
            have hld9 : ((out.map (Value.int .i64)).drop p).length = 0 := by have := HN.out; simp; omega
            have hs1 : 1 + 0 ≤ maxLen := by unfold maxLen; omega
            have hs2 : (1 + 0) * 8 ≤ 140737488355328 := by omega
            have hs3 : w9.heap.size ≤ ((w9.alloc (.cells #[.int .i64 x] 3)).drew).heap.size := by simp
            have hs4 : ∀ u ∈ (out.map (Value.int .i64)).drop p, u.oneCell' = true := fun u hu => ints_one out u (List.mem_of_mem_drop hu)
            have hs5 : ([Value.int .i64 x] ++ (out.map (Value.int .i64)).drop p).length = (1 + 0) * 1 := by rw [List.length_append, hld9]; simp
            have hs6 : ∀ u ∈ [Value.int .i64 x] ++ (out.map (Value.int .i64)).drop p, u.oneCell' = true := fun u hu => by
              rcases List.mem_append.1 hu with h | h
              · simp at h; subst h; rfl
              · exact hs4 u h
            have hs7 : p < p + (1 + 0) := by omega
            have hs8 : p + (1 + 0) ≤ maxLen := by unfold maxLen; omega
            have hs9 : (p + (1 + 0)) * 8 ≤ 140737488355328 := by omega
            have hk1 : ∀ (w1 : World), ((w9.alloc (.cells #[.int .i64 x] 3)).drew).grownBy w1 (some w9.heap.size) → w1.cell? ⟨b, o + k * 3 + 1, none⟩ = some (.int .i64 x) ∧ b < w1.heap.size := fun w1 hg => by
              refine ⟨?_, ?_⟩
              · rw [World.cell?_of_block (hg.block b (by simp; omega) (by intro e; injection e with e; omega))]
                exact (((Below.refl w9.heap.size w9).alloc (Nat.le_refl _) (.cells #[.int .i64 x] 3)).drew.cell (p := ⟨b, o + k * 3 + 1, none⟩) hbl9).trans d9
              · have := hg.size
                simp at this
                omega
            have hk2 : ∀ (w1 w2 : World), w1.cell? ⟨b, o + k * 3 + 1, none⟩ = some (.int .i64 x) ∧ b < w1.heap.size → w1.grownBy w2 none → w2.cell? ⟨b, o + k * 3 + 1, none⟩ = some (.int .i64 x) := fun w1 w2 h hg => by
              rw [World.cell?_of_block (hg.block b h.2 (by simp))]
              exact h.1
            have HK1 := Lib.hid hk1
            have HK2 := Lib.hid hk2
            have hfin : ∀ (w1 w2 : World) (A2 : Option Addr) (c2 : Nat), ((w9.alloc (.cells #[.int .i64 x] 3)).drew).grownBy w1 (some w9.heap.size) → w1.grownBy w2 none →
                w2.ownsRow w1.heap.size 3 1 (.slice A2 (p + (1 + 0)) c2) (p + (1 + 0)) ((out.map (Value.int .i64)).take p ++ ([Value.int .i64 x] ++ (out.map (Value.int .i64)).drop p)) → RTRel w L l (.slice A2 (p + (1 + 0)) c2) (.int .i64 (k + 1)) w2 := fun w1 w2 A2 c2 hg1 hg2 ho => by
              have hins : insI x out = out.take p ++ x :: out.drop p := by rw [insI, HPK.out, if_neg HNE.out]
              have hlen : (insI x out).length = p + (1 + 0) := by
                have := HN.out
                rw [hins]; simp; omega
              have hle := own_le ho
              have hR := Reads.of_own ho
              have hmap : (out.map (Value.int .i64)).take p ++ ([Value.int .i64 x] ++ (out.map (Value.int .i64)).drop p) = (insI x out).map (Value.int .i64) := by
                rw [hins, List.map_append, List.map_cons, List.map_take, List.map_drop]; rfl
              rw [hmap] at hR
              have hb1 : Below wo.heap.size wo w2 := (((hB9.out.alloc hsz9 _).drew).grown hg1 (by simp; omega) (fun j hj => by injection hj with hj; omega)).grown hg2 (by have := hg1.size; simp at this; omega) (fun j hj => by cases hj)
              refine ⟨k + 1, A2, c2, insI x out, by omega, by go_num, by rw [HSN.out, ← HO.out], by rw [hlen], by rw [hlen]; exact hle, fun h => by rw [hlen] at h; omega, by rw [hlen]; exact hR, HB.out.trans (hb1.mono HB.out.size)⟩
            have HFIN := Lib.hid hfin
            have hp1 : 0 < 1 + 0 := by omega
            have hold0 : ∀ (b : Addr), (none : Option Addr) = some b → ∀ (j : Nat) (u : Value), ([] : List Value)[j]? = some u → ∀ w1 : World, w1.cell? (b.add j) = some u := fun b h => by cases h
            have hs40 : ∀ u ∈ ([] : List Value), u.oneCell' = true := fun u hu => by cases hu
            have hs60 : ∀ u ∈ [Value.int .i64 x] ++ [], u.oneCell' = true := fun u hu => by simp at hu; subst hu; rfl
            have hs70 : 0 < 0 + (1 + 0) := by omega
            have hs80 : 0 + (1 + 0) ≤ maxLen := by decide
            have hs90 : (0 + (1 + 0)) * 8 ≤ 140737488355328 := by omega
            clear hold hown9 hcut hk1 hk2 hfin
            go_wp2_with fail
            go_region_held3 (fun w' => w'.cell? ⟨b, o + k * 3 + 1, none⟩ = some (.int .i64 x))
              (first | go_keep | assumption)
              (first
                | (refine step_append_grows (by rfl) (.tmp 49) (.tmp 59) 46 (by rfl) 3 i0 (.int .i64 0) 1 8 Try.underlying46 hi hz0 hz1 hz2 rfl (by decide) (none : Option Addr) 0 0 [] (by rfl) (fun _ => ⟨rfl, rfl⟩) rfl (fun b h j u hu => hold0 b h j u hu _) ad1 (1 + 0) c1 ([Value.int .i64 x] ++ []) (by rfl) rfl hcd1 hs60 hs70 hs80 hs90 ?_; intro v2 w2 hown2 hgrow2; obtain ⟨A2, c2, rfl⟩ := own_form hown2; have hS2 := HK2.out _ _ (HK1.out _ hgrow) hgrow2)
                | (refine step_append_any _ rfl (.tmp 55) (.tmp 58) 46 rfl w9.heap.size 3 i0 (.int .i64 0) 1 8 Try.underlying46 hi hz0 hz1 hz2 rfl (by decide) (.slice (some ⟨w9.heap.size, 0, none⟩) 1 1) 1 [.int .i64 x] rfl hown9d w9.heap.size none 0 0 [] rfl Reads.none_ hs40 hs1 hs2 hs3 ?_; intro v1 w1 hown1 hgrow hloc; obtain ⟨A1, c1, rfl⟩ := own_form hown1; obtain ⟨ad1, rfl, hbd1, hcd1⟩ := (Reads.of_own hown1).2 hp1; have hS1 := (HK1.out _ hgrow).1))
            have hrel : RTRel w L l (.slice A2 (0 + (1 + 0)) c2) (.int .i64 (k + 1)) w2 := by
              have h0 := HN0.out
              have ho : out = [] := List.eq_nil_of_length_eq_zero (by rw [← HN.out]; exact h0)
              have h := HFIN.out w1 w2 A2 c2 hgrow hgrow2 (by rw [h0, ho]; exact hown2)
              rw [h0] at h
              exact h
            have HREL := Lib.hid hrel
            clear hrel hown2 hown1 hgrow hgrow2 hloc hbd1 hcd1 hS2 hown9d hro9 d9
            go_wp2_with fail
            go_roundw
            case rel => exact HREL.out
            case measure => simp [intOf]; omega
          · obtain ⟨b2, o2, rfl, hbo2, hc2⟩ := hro.form (by omega)
            clear hc2
            obtain rfl : p = N := by omega
            have HNL := Lib.hid (show ∀ j (hj : j < out.length), out[j] < x from fun j hj => HAL.out j hj (by rw [← HN.out] at hj; exact hj))
            have HPK := Lib.hid (posI_at (x := x) (out := out) (k := p) (by rw [← HN.out]; exact Nat.le_refl _) HAL.out (fun hj => absurd hj (by rw [← HN.out]; omega)))
            have HNE := Lib.hid (show ¬ out[p]? = some x by rw [List.getElem?_eq_none (by rw [← HN.out]; exact Nat.le_refl _)]; simp)
            have HBQ := Lib.hid hbq
            have q3 : decide ((p : Int) < (p : Int)) = false := by simp
            have q3' : decide (p < p) = false := by simp
            clear hbq
            go_wp2_with fail
            go_quiet (fail)
            rename_i nq
            have hbd : Below wr.heap.size wr (wr.drewN nq) := below_drewN (Below.refl _ _) nq
            have hB8 : Below wo.heap.size wo (wr.drewN nq) := HBQ.out.trans (hbd.mono HBQ.out.size)
            have hro8 := (hro.below hB8).more hB8.size
            have d8 := (hB8.cell (p := ⟨b, o + k * 3 + 1, none⟩) hbl2).trans d1
            have HB8 := Lib.hid hB8
            clear d1 f1 hro hbd hB8 HBQ
            generalize wr.drewN nq = w8 at *
            clear nq
            go_wp2_with fail
            go_quiet (fail)
            rename_i nq
            have hbd : Below w8.heap.size w8 (w8.drewN nq) := below_drewN (Below.refl _ _) nq
            have hB9 := Lib.hid (below_drewN HB8.out nq)
            have hro9 := (hro8.below hbd).more hbd.size
            have d9 := (hbd.cell (p := ⟨b, o + k * 3 + 1, none⟩) (by show b < _; have := HB8.out.size; omega)).trans d8
            clear hro8 d8 HB8 hbd
            obtain ⟨w9, hw9⟩ : ∃ w9, w9 = w8.drewN nq := ⟨_, rfl⟩
            rw [← hw9] at hB9 hro9 d9 ⊢
            clear hw9
            have hsz9 := hB9.out.size
            have hcut := hro9.cut (k := p) (cap := co) hp hnco
            simp only [Option.map_some, addr_add, Nat.mul_one, Nat.sub_self] at hcut
            have hown9 := World.ownsRow_lit (base := w9.heap.size) (e := 3) (size := 1) w9 #[.int .i64 x] 1 (Nat.le_refl _) (by decide) rfl
            have hcut9 := (hcut.alloc (Nat.le_refl _) (.cells #[.int .i64 x] 3)).drew
            have hown9d := hown9.drew
            have hbl9 : b < w9.heap.size := Nat.lt_of_lt_of_le hbl2 hsz9
            have q4 : (p : Int) ≤ (p : Int) := by omega
            have q5 : (p : Int) ≤ (co : Int) := by omega
            have q6 : (p : Int) ≤ (co : Int) := by omega
            have hold : ∀ w1, ((w9.alloc (.cells #[.int .i64 x] 3)).drew).grownBy w1 (some w9.heap.size) → ∀ bb, (some (⟨b2, o2, none⟩ : Addr)) = some bb → ∀ (j : Nat) (u : Value), ((out.map (Value.int .i64)).take p)[j]? = some u → w1.cell? (bb.add j) = some u := fun w1 hg bb hbb j u hu => by
              have h := ((hro9.alloc (Nat.le_refl _) (.cells #[.int .i64 x] 3)).drew).grown hg (by simp) (fun g e => by injection e with e; omega)
              have hjp : j < p := by
                rcases Nat.lt_or_ge j p with h1 | h1
                · exact h1
                · rw [List.getElem?_take_eq_none h1] at hu; cases hu
              rw [List.getElem?_take_of_lt hjp] at hu
              obtain ⟨ad, e, _, hc⟩ := h.2 (by omega)
              rw [hbb] at e
              injection e with e
              subst e
              exact hc j u hu
            have HOLD := Lib.hid hold
            have hnone : (some (⟨b2, o2, none⟩ : Addr)) = none → p = 0 ∧ p = 0 := fun h => by
              have : p = 0 ∨ 0 < p := by omega
              rcases this with h1 | h1
              · omega
              · first | (cases h; done) | omega
            have hlt9 : ((out.map (Value.int .i64)).take p).length = p * 1 := by have := HN.out; simp; omega
            have hld9 : ((out.map (Value.int .i64)).drop p).length = 0 := by have := HN.out; simp; omega
            have hs1 : 1 + 0 ≤ maxLen := by unfold maxLen; omega
            have hs2 : (1 + 0) * 8 ≤ 140737488355328 := by omega
            have hs3 : w9.heap.size ≤ ((w9.alloc (.cells #[.int .i64 x] 3)).drew).heap.size := by simp
            have hs4 : ∀ u ∈ (out.map (Value.int .i64)).drop p, u.oneCell' = true := fun u hu => ints_one out u (List.mem_of_mem_drop hu)
            have hs5 : ([Value.int .i64 x] ++ (out.map (Value.int .i64)).drop p).length = (1 + 0) * 1 := by rw [List.length_append, hld9]; simp
            have hs6 : ∀ u ∈ [Value.int .i64 x] ++ (out.map (Value.int .i64)).drop p, u.oneCell' = true := fun u hu => by
              rcases List.mem_append.1 hu with h | h
              · simp at h; subst h; rfl
              · exact hs4 u h
            have hs7 : p < p + (1 + 0) := by omega
            have hs8 : p + (1 + 0) ≤ maxLen := by unfold maxLen; omega
            have hs9 : (p + (1 + 0)) * 8 ≤ 140737488355328 := by omega
            have hk1 : ∀ (w1 : World), ((w9.alloc (.cells #[.int .i64 x] 3)).drew).grownBy w1 (some w9.heap.size) → w1.cell? ⟨b, o + k * 3 + 1, none⟩ = some (.int .i64 x) ∧ b < w1.heap.size := fun w1 hg => by
              refine ⟨?_, ?_⟩
              · rw [World.cell?_of_block (hg.block b (by simp; omega) (by intro e; injection e with e; omega))]
                exact (((Below.refl w9.heap.size w9).alloc (Nat.le_refl _) (.cells #[.int .i64 x] 3)).drew.cell (p := ⟨b, o + k * 3 + 1, none⟩) hbl9).trans d9
              · have := hg.size
                simp at this
                omega
            have hk2 : ∀ (w1 w2 : World), w1.cell? ⟨b, o + k * 3 + 1, none⟩ = some (.int .i64 x) ∧ b < w1.heap.size → w1.grownBy w2 none → w2.cell? ⟨b, o + k * 3 + 1, none⟩ = some (.int .i64 x) := fun w1 w2 h hg => by
              rw [World.cell?_of_block (hg.block b h.2 (by simp))]
              exact h.1
            have HK1 := Lib.hid hk1
            have HK2 := Lib.hid hk2
            have hfin : ∀ (w1 w2 : World) (A2 : Option Addr) (c2 : Nat), ((w9.alloc (.cells #[.int .i64 x] 3)).drew).grownBy w1 (some w9.heap.size) → w1.grownBy w2 none →
                w2.ownsRow w1.heap.size 3 1 (.slice A2 (p + (1 + 0)) c2) (p + (1 + 0)) ((out.map (Value.int .i64)).take p ++ ([Value.int .i64 x] ++ (out.map (Value.int .i64)).drop p)) → RTRel w L l (.slice A2 (p + (1 + 0)) c2) (.int .i64 (k + 1)) w2 := fun w1 w2 A2 c2 hg1 hg2 ho => by
              have hins : insI x out = out.take p ++ x :: out.drop p := by rw [insI, HPK.out, if_neg HNE.out]
              have hlen : (insI x out).length = p + (1 + 0) := by
                have := HN.out
                rw [hins]; simp; omega
              have hle := own_le ho
              have hR := Reads.of_own ho
              have hmap : (out.map (Value.int .i64)).take p ++ ([Value.int .i64 x] ++ (out.map (Value.int .i64)).drop p) = (insI x out).map (Value.int .i64) := by
                rw [hins, List.map_append, List.map_cons, List.map_take, List.map_drop]; rfl
              rw [hmap] at hR
              have hb1 : Below wo.heap.size wo w2 := (((hB9.out.alloc hsz9 _).drew).grown hg1 (by simp; omega) (fun j hj => by injection hj with hj; omega)).grown hg2 (by have := hg1.size; simp at this; omega) (fun j hj => by cases hj)
              refine ⟨k + 1, A2, c2, insI x out, by omega, by go_num, by rw [HSN.out, ← HO.out], by rw [hlen], by rw [hlen]; exact hle, fun h => by rw [hlen] at h; omega, by rw [hlen]; exact hR, HB.out.trans (hb1.mono HB.out.size)⟩
            have HFIN := Lib.hid hfin
            have hp1 : 0 < 1 + 0 := by omega
            clear hold hown9 hcut hk1 hk2 hfin
            go_wp2_with fail
            go_region_held3 (fun w' => w'.cell? ⟨b, o + k * 3 + 1, none⟩ = some (.int .i64 x))
              (first | go_keep | assumption)
              (first
                | (refine step_append_grows (by rfl) (.tmp 49) (.tmp 59) 46 (by rfl) 3 i0 (.int .i64 0) 1 8 Try.underlying46 hi hz0 hz1 hz2 rfl (by decide) (some (⟨b2, o2, none⟩ : Addr)) p p ((out.map (Value.int .i64)).take p) (by rfl) hnone hlt9 (HOLD.out _ hgrow) ad1 (1 + 0) c1 ([Value.int .i64 x] ++ (out.map (Value.int .i64)).drop p) (by rfl) hs5 hcd1 hs6 hs7 hs8 hs9 ?_; intro v2 w2 hown2 hgrow2; obtain ⟨A2, c2, rfl⟩ := own_form hown2; have hS2 := HK2.out _ _ (HK1.out _ hgrow) hgrow2)
                | (refine step_append_any _ rfl (.tmp 55) (.tmp 58) 46 rfl w9.heap.size 3 i0 (.int .i64 0) 1 8 Try.underlying46 hi hz0 hz1 hz2 rfl (by decide) (.slice (some ⟨w9.heap.size, 0, none⟩) 1 1) 1 [.int .i64 x] rfl hown9d w9.heap.size (if co = p then some ⟨b2, o2, none⟩ else some ⟨b2, o2 + p, none⟩) 0 (co - p) ((out.map (Value.int .i64)).drop p) rfl hcut9 hs4 hs1 hs2 hs3 ?_; intro v1 w1 hown1 hgrow hloc; obtain ⟨A1, c1, rfl⟩ := own_form hown1; obtain ⟨ad1, rfl, hbd1, hcd1⟩ := (Reads.of_own hown1).2 hp1; have hS1 := (HK1.out _ hgrow).1))
            have hrel := HFIN.out _ _ _ _ hgrow hgrow2 hown2
            have HREL := Lib.hid hrel
            clear hrel hown2 hown1 hgrow hgrow2 hloc hbd1 hcd1 hS2 hcut9 hown9d hro9 d9
            go_wp2_with fail
            go_roundw
            case rel => exact HREL.out
            case measure => simp [intOf]; omega
    · have hkL : k = L := by omega
      subst hkL
      have htk : l.take k = l := List.take_of_length_le (by rw [← HL.out]; exact Nat.le_refl _)
      rw [htk] at hout
      have HE := Lib.hid hout
      clear hout holen htk
      go_wp2_with fail
      go_ret
      have he := HE.out
      subst he
      exact ⟨_, _, rfl, hro, hb⟩
end Go.Proofs.Ytmondfckpgjikaa
