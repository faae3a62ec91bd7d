/- The walk of the player's open (func 30). The walk of the player's do (func 31). -/
import Derived.Test.YtcppmmdkblmfoaaPlIs
namespace Go.Proofs.Ytcppmmdkblmfoaa
open Go.RowKit Go.WideMaps
/-- What wal.Open gives, in the words of the player. -/
def OpP (w : World) (base : Nat) (F : Nat → Prop) (sb mb n : Nat) (st' : AS) (ok : Bool) (ps : List (List UInt8)) (k : Nat) (e : Ending) (w2 : World) : Prop :=
  ∃ po A N c code, e = .returned (.tuple #[.pointer po, .slice A N c, errV code]) ∧ Kept F w w2 ∧
    ∃ F2, SysM w2 base F2 sb mb n st' ∧ (∀ i, F2 i → (F i ∨ w.heap.size ≤ i) ∧ i < w2.heap.size) ∧
      (ok = true → code = 0 ∧ N = ps.length ∧ ∃ lb w1 vs, po = some ⟨lb, 0, none⟩ ∧ w.heap.size ≤ lb ∧ ¬ F2 lb ∧ Blk w2 lb 78 (logC sb logN ps.length k false) ∧ Below w.heap.size w w1 ∧ lb < w1.heap.size ∧ w1.ownsRow (lb + 1) 22 1 (.slice A ps.length c) ps.length vs ∧ PaysL (lb + 1) w1 (Value.slice A ps.length c).ownBlock vs ps ∧ Kept (fun i => F i ∨ i = lb) w1 w2) ∧
      (ok = false → po = none ∧ N = 0 ∧ code = 8)
theorem wopen_pl {w : World} {base : Nat} {F : Nat → Prop} {sb mb n : Nat} {st : AS} {r : RL} (hs : SysM w base F sb mb n st) (hc : ∀ i, F i → i < w.heap.size) (hr : StR st r) :
    Calls Try.prog 22 #[.pointer (some ⟨sb, 0, none⟩), .string logN] w (OpP w base F sb mb n (openA st logN).st (rOpen r).2 (frames ((rOpen r).1.syn ++ (rOpen r).1.more)).1 (frames ((rOpen r).1.syn ++ (rOpen r).1.more)).2) := by
  obtain ⟨_, _, _, hok, hbad⟩ := open_law hr
  refine (open_any base sb mb n F st logN w hs hc logN_valid).mono ?_
  intro e w2 h
  unfold OpenEnd at h
  cases ho : (rOpen r).2
  · obtain ⟨h1, h2⟩ := hbad ho
    rw [h1] at h
    simp only at h
    rw [h2] at h
    obtain ⟨rfl, hS, hk⟩ := h
    exact ⟨none, none, 0, 0, 8, rfl, hk, _, hS, fun i hi => hi, fun e => Bool.noConfusion e, fun _ => ⟨rfl, rfl, rfl⟩⟩
  · obtain ⟨_, h1⟩ := hok ho
    rw [h1] at h
    simp only at h
    obtain ⟨w1, A, c, vs, lb, rfl, hb, hrow, hpay, hlb, hlb1, hL, hk⟩ := h
    refine ⟨some ⟨lb, 0, none⟩, A, _, c, 0, rfl, ?_, _, hL.1, fun i hi => ⟨?_, hi.2⟩, fun _ => ⟨rfl, rfl, lb, w1, vs, rfl, hlb, hL.2.2.1, hL.2.1, hb, hlb1, hrow, hpay, hk⟩, fun e => Bool.noConfusion e⟩
    · exact (Kept.of_below hb).trans (hk.mono fun i hi => by
        rcases hi with h | h
        · exact .inl h
        · exact .inr (by rw [h]; exact hlb))
    · rcases hi.1 with h | h
      · exact .inl h
      · exact .inr (Nat.le_trans hb.size h)
def PlEnd (w : World) (base sb mb n pb : Nat) (st : AS) (r : RL) (e : Ending) (w' : World) : Prop :=
  e = .returned (.bool true) ∧ Below base w w' ∧ ∃ F G lv, PlM w' base F sb mb n pb G st r lv
def wr6 (w : World) (g : Nat) (a b0 b1 b2 b3 b4 : Value) : World :=
  (((((w.setCell ⟨g, 2, none⟩ b0).setCell ⟨g, 3, none⟩ b1).setCell ⟨g, 4, none⟩ b2).setCell ⟨g, 5, none⟩ b3).setCell ⟨g, 6, none⟩ b4).setCell ⟨g, 1, none⟩ a
/-- The player's state without a word on its log. -/
structure PlM0 (w : World) (base : Nat) (F : Nat → Prop) (sb mb n pb : Nat) (G : Nat → Prop) (st : AS) (r : RL) (lv : Value) : Prop where
  sys : SysM w base F sb mb n st
  cap : ∀ i, F i → i < w.heap.size
  str : StR st r
  blk : ∃ A1 n1 c1 A2 n2 c2, Blk w pb 59 #[.pointer (some ⟨sb, 0, none⟩), lv, .slice A1 n1 c1, .slice A2 n2 c2, .int .i64 r.left, .bool r.off, .bool r.br] ∧ PayG G w (.slice A1 n1 c1) r.syn ∧ PayG G w (.slice A2 n2 c2) r.more
  pbF : ¬ F pb
  gF : ∀ i, G i → ¬ F i ∧ i ≠ pb
  small : (r.syn ++ r.more).length ≤ 100000
set_option maxRecDepth 100000 in
set_option maxHeartbeats 4000000 in
theorem popen0_any {w : World} {base : Nat} {F : Nat → Prop} {sb mb n pb : Nat} {G : Nat → Prop} {st : AS} {r : RL} {lv : Value} (h : PlM0 w base F sb mb n pb G st r lv) (hpb : base ≤ pb) :
    Calls Try.prog 30 #[.pointer (some ⟨pb, 0, none⟩)] w (PlEnd w base sb mb n pb (openA st logN).st (rOpen r).1) := by
  obtain ⟨A1, n1, c1, A2, n2, c2, hblk, hp1, hp2⟩ := h.blk
  have hopen := wopen_pl h.sys h.cap h.str
  obtain ⟨hSt, hbr', hlen', hok', hbad'⟩ := open_law h.str
  obtain ⟨r', hr'⟩ : ∃ r', r' = (rOpen r).1 := ⟨_, rfl⟩
  obtain ⟨ok, hok⟩ : ∃ ok, ok = (rOpen r).2 := ⟨_, rfl⟩
  have hrop := fun w' v (hv : RLM (fun i => G i ∧ i < w.heap.size) w' v r) => ropen_any _ v r w' hv h.str.lo h.str.hi (by have := h.small; rw [List.length_append] at this; omega)
  rw [← hr', ← hok] at hopen
  rw [← hr'] at hSt hbr' hlen' hok' ⊢
  rw [← hok] at hok' hbad'
  simp only [← hr', ← hok] at hrop
  have HPbF := Lib.hid h.pbF
  have HGF := Lib.hid h.gF
  have HCAP := Lib.hid h.cap
  have HSM := Lib.hid (Nat.le_trans hlen' h.small)
  have HST := Lib.hid hSt
  have HOK := Lib.hid hok'
  have HBAD := Lib.hid hbad'
  have HBR := Lib.hid hbr'
  have HBS := Lib.hid h.sys.base_le
  have HFB := Lib.hid (show ∀ i, F i → base ≤ i from by obtain ⟨_, _, _, _, h4, _⟩ := h.sys; exact h4)
  clear h hSt hok' hbad' hbr' hlen' hr' hok
  obtain ⟨syn, more, left, off, br⟩ := r
  simp only at hblk hp1 hp2
  have HRL := Lib.hid (show ∀ w', Kept F w w' → RLM (fun i => G i ∧ i < w.heap.size) w' (rlV (.slice A1 n1 c1) (.slice A2 n2 c2) left off br) ⟨syn, more, left, off, br⟩ from fun w' hk => ⟨A1, n1, c1, A2, n2, c2, rfl, (hp1.mono (fun i hi hg => ⟨hg, hi⟩)).keptF hk (fun i _ hg => (HGF.out i hg.1).1), (hp2.mono (fun i hi hg => ⟨hg, hi⟩)).keptF hk (fun i _ hg => (HGF.out i hg.1).1)⟩)
  have HPB := Lib.hid hblk.lt
  have HBK := Lib.hid (show ∀ w', Kept F w w' → Blk w' pb 59 #[.pointer (some ⟨sb, 0, none⟩), lv, .slice A1 n1 c1, .slice A2 n2 c2, .int .i64 left, .bool off, .bool br] from fun w' hk => hblk.kept hk HPbF.out)
  clear hp1 hp2
  have p0 := hblk.cell 0
  simp only [List.getElem?_toArray, List.getElem?_cons_zero] at p0
  clear hblk
  go_enter Try.func30, Try.ntmps30
  go_wp2_with fail
  refine hopen.mono ?_
  rintro e w2 ⟨po, A, N, c, code, rfl, hk2, F2, hS2, hF2, hgood, hbad⟩
  clear hopen p0
  have hrop2 := hrop w2 _ (HRL.out w2 hk2)
  unfold rlV at hrop2
  have hk := HBK.out w2 hk2
  have HS2 := Lib.hid hS2
  have HF2 := Lib.hid hF2
  have HGD := Lib.hid hgood
  have HBD := Lib.hid hbad
  clear hS2 hF2 hgood hbad hrop
  have x2 := hk.cell 2
  have x3 := hk.cell 3
  have x4 := hk.cell 4
  have x5 := hk.cell 5
  have x6 := hk.cell 6
  simp only [List.getElem?_toArray, List.getElem?_cons_zero, List.getElem?_cons_succ] at x2 x3 x4 x5 x6
  go_wp2_with fail
  refine hrop2.mono ?_
  rintro e w3 ⟨v, rfl, ⟨A3, n3, c3, A4, n4, c4, rfl, hp3, hp4⟩, hb3⟩
  unfold rlV
  clear hrop2 x2 x3 x4 x5 x6
  go_upto_region 3 with (fail)
  obtain ⟨w4, hw4⟩ : ∃ w4, w4 = w3.alloc (.cells #[.slice A3 n3 c3, .slice A4 n4 c4, .int .i64 r'.left, .bool r'.off, .bool r'.br] 57) := ⟨_, rfl⟩
  rw [← hw4]
  have hk4 : Blk w4 w3.heap.size 57 #[.slice A3 n3 c3, .slice A4 n4 c4, .int .i64 r'.left, .bool r'.off, .bool r'.br] := by rw [hw4]; exact Blk.new _ _ _
  have hb34 : Below w3.heap.size w3 w4 := by rw [hw4]; exact (Below.refl _ _).alloc (Nat.le_refl _) _
  have hkp : Blk w4 pb 59 #[.pointer (some ⟨sb, 0, none⟩), lv, .slice A1 n1 c1, .slice A2 n2 c2, .int .i64 left, .bool off, .bool br] := (hk.below hb3 hk.lt).below hb34 (Nat.lt_of_lt_of_le hk.lt hb3.size)
  clear hw4 hk
  have x0 := hk4.cell 0
  have x1 := hk4.cell 1
  have x2 := hk4.cell 2
  have x3 := hk4.cell 3
  have x4 := hk4.cell 4
  simp only [List.getElem?_toArray, List.getElem?_cons_zero, List.getElem?_cons_succ] at x0 x1 x2 x3 x4
  have z1 := hkp.cell 1
  have z2 := hkp.cell 2
  have z3 := hkp.cell 3
  have z4 := hkp.cell 4
  have z5 := hkp.cell 5
  have z6 := hkp.cell 6
  simp only [List.getElem?_toArray, List.getElem?_cons_zero, List.getElem?_cons_succ] at z1 z2 z3 z4 z5 z6
  have y1 := hkp.frozen 1
  have y2 := hkp.frozen 2
  have y3 := hkp.frozen 3
  have y4 := hkp.frozen 4
  have y5 := hkp.frozen 5
  have y6 := hkp.frozen 6
  go_upto_region 4 with (fail)
  obtain ⟨w5, hw5⟩ : ∃ w5, w5 = wr6 w4 pb (.pointer po) (.slice A3 n3 c3) (.slice A4 n4 c4) (.int .i64 r'.left) (.bool r'.off) (.bool r'.br) := ⟨_, rfl⟩
  have hkq : Blk w5 pb 59 #[.pointer (some ⟨sb, 0, none⟩), .pointer po, .slice A3 n3 c3, .slice A4 n4 c4, .int .i64 r'.left, .bool r'.off, .bool r'.br] := by
    have := (((((hkp.set_ 2 (.slice A3 n3 c3)).set_ 3 (.slice A4 n4 c4)).set_ 4 (.int .i64 r'.left)).set_ 5 (.bool r'.off)).set_ 6 (.bool r'.br)).set_ 1 (.pointer po)
    rw [hw5]
    simpa [wr6] using this
  have hk45 : Kept (fun i => i = pb) w4 w5 := by
    rw [hw5]
    exact (((((kept_set w4 pb 2 _).trans ((kept_set _ pb 3 _).mono fun _ hi => .inl hi)).trans ((kept_set _ pb 4 _).mono fun _ hi => .inl hi)).trans ((kept_set _ pb 5 _).mono fun _ hi => .inl hi)).trans ((kept_set _ pb 6 _).mono fun _ hi => .inl hi)).trans ((kept_set _ pb 1 _).mono fun _ hi => .inl hi)
  have hne : w3.heap.size ≠ pb := by have := HPB.out; have := hk2.size; have := hb3.size; omega
  have hks : Blk w5 w3.heap.size 57 #[.slice A3 n3 c3, .slice A4 n4 c4, .int .i64 r'.left, .bool r'.off, .bool r'.br] := hk4.kept hk45 hne
  unfold wr6 at hw5
  rw [← hw5]
  clear hw5 x0 x1 x2 x3 x4 z1 z2 z3 z4 z5 z6 y1 y2 y3 y4 y5 y6 hk4 hkp
  have hk35 : Kept (fun i => i = pb) w3 w5 := (Kept.of_below hb34).trans (hk45.mono fun _ hi => .inl hi)
  have hk25 : Kept (fun i => i = pb) w2 w5 := (Kept.of_below hb3).trans (hk35.mono fun _ hi => .inl hi)
  have hb05 : Below base w w5 := hk25.below (hk2.below (Below.refl base w) HBS.out HFB.out) (Nat.le_trans HBS.out hk2.size) fun i hi => by have : i = pb := hi; omega
  have HB05 := Lib.hid hb05
  have hF2p : ¬ F2 pb := fun hf => by
    rcases (HF2.out pb hf).1 with h | h
    · exact HPbF.out h
    · have := HPB.out; omega
  have HPL := Lib.hid (show ∀ w', Below w5.heap.size w5 w' → ∃ F G lv, PlM w' base F sb mb n pb G (openA st logN).st r' lv from fun w' hb => by
    have hs : ∀ i, F2 i → ¬ i = pb := fun i hi e => hF2p (e ▸ hi)
    refine ⟨F2, fun i => (G i ∧ i < w.heap.size) ∨ w2.heap.size ≤ i, .pointer po, (HS2.out.kept hk25 hs).below hb, fun i hi => Nat.lt_of_lt_of_le (HF2.out i hi).2 (Nat.le_trans hk25.size hb.size), HST.out, ?_, hF2p, ?_, ?_, HSM.out⟩
    · have hg : ∀ i, ((G i ∧ i < w.heap.size) ∨ w2.heap.size ≤ i) → ¬ i = pb := fun i hi e => by
        rcases hi with h | h
        · exact (HGF.out i h.1).2 e
        · have := HPB.out; have := hk2.size; omega
      exact ⟨A3, n3, c3, A4, n4, c4, hkq.below hb hkq.lt, ((hp3.keptF hk35 fun i _ hi => hg i hi).keptF (F := fun _ => False) (Kept.of_below hb) fun _ _ _ h => h), ((hp4.keptF hk35 fun i _ hi => hg i hi).keptF (F := fun _ => False) (Kept.of_below hb) fun _ _ _ h => h)⟩
    · intro i hi
      rcases hi with h | h
      · refine ⟨fun hf => ?_, (HGF.out i h.1).2⟩
        rcases (HF2.out i hf).1 with h' | h'
        · exact (HGF.out i h.1).1 h'
        · omega
      · refine ⟨fun hf => ?_, ?_⟩
        · have := (HF2.out i hf).2; omega
        · have := HPB.out; have := hk2.size; omega
    · cases ok
      · exact .inl (by rw [(HBD.out rfl).1])
      · obtain ⟨_, _, lb, w1, vs, hpo, hlb, hnf, hlk, hb1, hlb1, _, _, hk12⟩ := HGD.out rfl
        have hlp : lb ≠ pb := by have := HPB.out; omega
        refine .inr ⟨(HOK.out rfl).1, lb, _, _, by rw [hpo], ?_, hnf, hlp, ?_, Nat.le_trans HBS.out hlb, rfl, rfl⟩
        · rw [HBR.out]
          exact (hlk.kept hk25 hlp).below hb (hlk.kept hk25 hlp).lt
        · rintro (h | h)
          · omega
          · have := hk12.size; omega)
  cases ok
  · obtain ⟨hpo, hN, hcode⟩ := HBD.out rfl
    subst hpo hN hcode
    have hkind := kind_any 8 w5
    rw [show kcode 8 = 2 from rfl] at hkind
    clear hk25 hk35 hk45 hkq hks hb05 hp3 hp4
    go_wp2_with fail
    refine hkind.mono ?_
    rintro e w6 ⟨rfl, rfl⟩
    go_wp2_with fail
    go_ret
    exact ⟨rfl, HB05.out, HPL.out w5 (Below.refl _ _)⟩
  · obtain ⟨hcode, hN, lb, w1, vs, hpo, hlb, hnf, hlk, hb1, hlb1, hrow, hpay, hk12⟩ := HGD.out rfl
    subst hcode hN hpo
    rw [errV_zero]
    have hg : ∀ i, ((G i ∧ i < w.heap.size) ∨ w2.heap.size ≤ i) → ¬ i = pb := fun i hi e => by
      rcases hi with h | h
      · exact (HGF.out i h.1).2 e
      · have := HPB.out; have := hk2.size; omega
    obtain ⟨e3, hc3, hr3⟩ := (hp3.keptF hk35 fun i _ hi => hg i hi).reads
    obtain ⟨e4, hc4, hr4⟩ := (hp4.keptF hk35 fun i _ hi => hg i hi).reads
    have hdl : (r'.syn ++ r'.more).length = n3 + n4 := by rw [List.length_append, e3, e4]
    have hnn : n3 + n4 ≤ 100000 := by rw [← hdl]; exact HSM.out
    have HDL := Lib.hid hdl
    have hall := all_any A3 A4 n3 c3 n4 c4 w5.heap.size r'.syn r'.more r'.left r'.off r'.br w5 hr3 hr4 (Nat.le_refl _) (by omega) (by omega)
    unfold rlV at hall
    have hwlb : w.heap.size ≤ lb := hlb
    have HKZ := Lib.hid (show ∀ w', Below w5.heap.size w5 w' → LL w' (.slice A (frames (r'.syn ++ r'.more)).1.length c) (frames (r'.syn ++ r'.more)).1 from fun w' hb => by
      have hk15 : Kept (fun i => (F i ∨ i = lb) ∨ i = pb) w1 w' := ((hk12.mono fun _ hi => .inl hi).trans (hk25.mono fun _ hi => .inl (.inr hi))).trans (Kept.of_below hb)
      have hF' : ∀ i, ((F i ∨ i = lb) ∨ i = pb) → i < lb + 1 ∨ w1.heap.size ≤ i := fun i hi => by
        rcases hi with (h | h) | h
        · have := HCAP.out i h; exact .inl (by omega)
        · exact .inl (by omega)
        · have := HPB.out; exact .inl (by omega)
      exact LL.of_own (own_keptF hrow hk15 fun g hg hf => by have := hF' g hf; have := hrow.lt g hg; omega) (hpay.keptF hk15 hF').ok)
    have x0 := hks.cell 0
    have x1 := hks.cell 1
    have x2 := hks.cell 2
    have x3 := hks.cell 3
    have x4 := hks.cell 4
    simp only [List.getElem?_toArray, List.getElem?_cons_zero, List.getElem?_cons_succ] at x0 x1 x2 x3 x4
    clear hk25 hk35 hk45 hkq hks hb05 hp3 hp4 hrow hpay hk12 hr3 hr4 e3 e4 hdl hlk hb1 hg
    go_wp2_with fail
    refine hall.mono ?_
    rintro e w6 ⟨A6, c6, rfl, hown6, hb6⟩
    clear hall x0 x1 x2 x3 x4
    rw [HDL.out] at hown6 ⊢
    have hfr := rframesL_any A6 (n3 + n4) c6 w6.heap.size (r'.syn ++ r'.more) w6 (Reads.of_own hown6) (Nat.le_refl _) (by omega) (own_le hown6)
    clear hown6
    go_wp2_with fail
    refine hfr.mono ?_
    rintro e w7 ⟨A7, c7, vs7, rfl, hown7, hpay7, hb7⟩
    clear hfr
    have hb57 := hb6.trans (hb7.mono hb6.size)
    have HB7 := Lib.hid hb57
    have hsame := same_any _ _ _ _ w7 (HKZ.out w7 hb57) (LL.of_own hown7 hpay7.ok) (by have := (frames_len _ (r'.syn ++ r'.more) (Nat.le_refl _)).2; rw [HDL.out] at this; omega)

    clear hown7 hpay7 hb7 hb6 hb57
    go_wp2_with fail
    refine hsame.mono ?_
    intro e w8 h
    obtain ⟨rfl, hb8⟩ := h.to
    clear h
    go_wp2_with fail
    go_ret
    have hb58 := HB7.out.trans (hb8.mono HB7.out.size)
    have hbs : base ≤ w5.heap.size := Nat.le_trans HBS.out HB05.out.size
    exact ⟨rfl, HB05.out.trans (hb58.mono hbs), HPL.out w8 hb58⟩
theorem popen_any {w : World} {base : Nat} {F : Nat → Prop} {sb mb n pb : Nat} {G : Nat → Prop} {st : AS} {r : RL} {lv : Value} (h : PlM w base F sb mb n pb G st r lv) (hpb : base ≤ pb) :
    Calls Try.prog 30 #[.pointer (some ⟨pb, 0, none⟩)] w (PlEnd w base sb mb n pb (openA st logN).st (rOpen r).1) :=
  popen0_any ⟨h.sys, h.cap, h.str, h.blk, h.pbF, h.gF, h.small⟩ hpb
end Go.Proofs.Ytcppmmdkblmfoaa
namespace Go.Proofs.Ytcppmmdkblmfoaa
open Go.RowKit Go.WideMaps
/-- What an act leaves: the state of the player again, the log's bytes at most 308 more. -/
def PdEnd (w : World) (base sb mb n pb : Nat) (N : Nat) (e : Ending) (w' : World) : Prop :=
  e = .returned (.bool true) ∧ Below base w w' ∧ ∃ F G st r lv, PlM w' base F sb mb n pb G st r lv ∧ (r.syn ++ r.more).length ≤ N
def actV (k : Nat) (A : Option Addr) (nb cb : Nat) (x : Int) : Value := .agg #[.int .u8 (k : Int), .slice A nb cb, .int .i64 x]
theorem PlM.more {w : World} {base : Nat} {F : Nat → Prop} {sb mb n n' pb : Nat} {G : Nat → Prop} {st : AS} {r : RL} {lv : Value} (h : PlM w base F sb mb n pb G st r lv) (hn : n ≤ n') : PlM w base F sb mb n' pb G st r lv :=
  ⟨h.sys.mono hn, h.cap, h.str, h.blk, h.pbF, h.gF, h.log, h.small⟩
theorem PlM.below {w w' : World} {base : Nat} {F : Nat → Prop} {sb mb n pb : Nat} {G : Nat → Prop} {st : AS} {r : RL} {lv : Value} (h : PlM w base F sb mb n pb G st r lv) (hb : Below w.heap.size w w') : ∃ G', PlM w' base F sb mb n pb G' st r lv := by
  obtain ⟨A1, n1, c1, A2, n2, c2, hblk, hp1, hp2⟩ := h.blk
  have hk := Kept.of_below (F := fun _ => False) hb
  refine ⟨G, h.sys.below hb, fun i hi => Nat.lt_of_lt_of_le (h.cap i hi) hb.size, h.str, ⟨A1, n1, c1, A2, n2, c2, hblk.below hb hblk.lt, hp1.keptF hk fun _ _ _ h => h, hp2.keptF hk fun _ _ _ h => h⟩, h.pbF, h.gF, ?_, h.small⟩
  rcases h.log with h1 | ⟨hw, lb, c, z, h1, h2, h3⟩
  · exact .inl h1
  · exact .inr ⟨hw, lb, c, z, h1, h2.below hb h2.lt, h3⟩
set_option maxRecDepth 100000 in
set_option maxHeartbeats 2000000 in
theorem pdo_open {w : World} {base : Nat} {F : Nat → Prop} {sb mb n pb : Nat} {G : Nat → Prop} {st : AS} {r : RL} {lv : Value} (h : PlM w base F sb mb n pb G st r lv) (hpb : base ≤ pb)
    (k : Nat) (A : Option Addr) (nb cb : Nat) (x : Int) (hk : k % 8 = 5) (hk2 : k < 256) :
    Calls Try.prog 31 #[.pointer (some ⟨pb, 0, none⟩), actV k A nb cb x] w (PdEnd w base sb mb n pb (r.syn ++ r.more).length) := by
  have hlen := (open_law h.str).2.2.1
  have ht : ((k : Int).tmod 8) = 5 := by rw [Int.tmod_eq_emod_of_nonneg (by omega)]; omega
  obtain ⟨wa, hwa⟩ : ∃ wa, wa = w.alloc (.cells #[.int .u8 (k : Int), .slice A nb cb, .int .i64 x] 61) := ⟨_, rfl⟩
  have hba : Below w.heap.size w wa := by rw [hwa]; exact (Below.refl _ _).alloc (Nat.le_refl _) _
  have hbk : Blk wa w.heap.size 61 #[.int .u8 (k : Int), .slice A nb cb, .int .i64 x] := by rw [hwa]; exact Blk.new _ _ _
  have hbs := h.sys.base_le
  obtain ⟨G', h'⟩ := h.below hba
  have hop := popen_any h' hpb
  have x0 := hbk.cell 0
  simp only [List.getElem?_toArray, List.getElem?_cons_zero] at x0
  have HLEN := Lib.hid hlen
  have HWA := Lib.hid hwa
  have HBA := Lib.hid (hba.mono hbs)
  clear hwa h h' hba hbk hk hlen
  unfold actV
  go_enter Try.func31, Try.ntmps31
  go_upto_region 1 with (fail)
  rw [← HWA.out]
  go_wp2_with fail
  refine hop.mono ?_
  rintro e w1 ⟨rfl, hb1, F1, G1, lv1, hP⟩
  go_wp2_with fail
  go_ret
  exact ⟨rfl, HBA.out.trans hb1, F1, G1, _, _, lv1, hP, HLEN.out⟩
set_option maxRecDepth 100000 in
set_option maxHeartbeats 2000000 in
theorem pdo_fail {w : World} {base : Nat} {F : Nat → Prop} {sb mb n pb : Nat} {G : Nat → Prop} {st : AS} {r : RL} {lv : Value} (h : PlM w base F sb mb n pb G st r lv) (hpb : base ≤ pb)
    (k : Nat) (A : Option Addr) (nb cb : Nat) (x : Int) (hk : k % 8 = 6) (hk2 : k < 256) (hx : x ≤ 9223372036854775807) (N : Nat) (hN : (r.syn ++ r.more).length ≤ N) :
    Calls Try.prog 31 #[.pointer (some ⟨pb, 0, none⟩), actV k A nb cb x] w (PdEnd w base sb mb n pb N) := by
  have ht : ((k : Int).tmod 8) = 6 := by rw [Int.tmod_eq_emod_of_nonneg (by omega)]; omega
  obtain ⟨wa, hwa⟩ : ∃ wa, wa = w.alloc (.cells #[.int .u8 (k : Int), .slice A nb cb, .int .i64 x] 61) := ⟨_, rfl⟩
  have hba : Below w.heap.size w wa := by rw [hwa]; exact (Below.refl _ _).alloc (Nat.le_refl _) _
  have hbk : Blk wa w.heap.size 61 #[.int .u8 (k : Int), .slice A nb cb, .int .i64 x] := by rw [hwa]; exact Blk.new _ _ _
  have hbs := h.sys.base_le
  obtain ⟨G', h'⟩ := h.below (hba.drew)
  obtain ⟨A1, n1, c1, A2, n2, c2, hblk, hp1, hp2⟩ := h'.blk
  have hfl := fail_any base sb mb n F st x wa.drew h'.sys hx
  have hFB : ∀ i, F i → base ≤ i := by obtain ⟨_, _, _, _, h4, _⟩ := h'.sys; exact h4
  have hsa := hba.size
  have x0 := hbk.cell 0
  have x2 := hbk.cell 2
  have y2 := hbk.drew.cell 2
  have p0 : wa.cell? ⟨pb, 0, none⟩ = some (.pointer (some ⟨sb, 0, none⟩)) := by have := hblk.cell 0; simpa using this
  simp only [List.getElem?_toArray, List.getElem?_cons_zero, List.getElem?_cons_succ] at x0 x2 y2
  have HWA := Lib.hid hwa
  have HBA := Lib.hid (hba.drew.mono hbs)
  have HP := Lib.hid h'
  have HFB := Lib.hid hFB
  have HS := Lib.hid (Nat.le_trans hbs hba.size)
  have HBL := Lib.hid hblk
  have HP1 := Lib.hid hp1
  have HP2 := Lib.hid hp2
  have HBK := Lib.hid (show Blk wa.drew w.heap.size 61 #[.int .u8 (k : Int), .slice A nb cb, .int .i64 x] from hbk)
  have hwF : ¬ F w.heap.size := fun hf => by have := h.cap _ hf; omega
  have HWF := Lib.hid hwF
  have HN := Lib.hid hN
  clear hwa h h' hba hbk hk hblk hp1 hp2 hFB hwF hN
  unfold actV
  go_enter Try.func31, Try.ntmps31
  go_upto_region 1 with (fail)
  rw [← HWA.out]
  go_upto_region 10 with (fail)
  go_still_tail 6, (by kernel_rfl)
  change wpList _ _ _ _ _ wa.drew
  clear x0 x2 p0
  generalize wa.drew = wb at *
  go_wp2_with fail
  refine hfl.mono ?_
  rintro e w1 ⟨rfl, hS1, hk1⟩
  clear hfl y2
  have hkp := HBL.out.kept hk1 HP.out.pbF
  have hka := HBK.out.kept hk1 HWF.out
  have y2 := hka.cell 2
  have z4 := hkp.cell 4
  have u4 := hkp.frozen 4
  simp only [List.getElem?_toArray, List.getElem?_cons_zero, List.getElem?_cons_succ] at y2 z4
  go_upto_region 12 with (fail)
  obtain ⟨w2, hw2⟩ : ∃ w2, w2 = w1.setCell ⟨pb, 4, none⟩ (.int .i64 (max x (-1))) := ⟨_, rfl⟩
  rw [← hw2]
  have hk2' : Kept (fun i => i = pb) w1 w2 := by rw [hw2]; exact kept_set w1 pb 4 _
  have hkq := hkp.set_ 4 (.int .i64 (max x (-1)))
  rw [← hw2] at hkq
  simp only [List.setIfInBounds_toArray, List.set_cons_succ, List.set_cons_zero] at hkq
  clear hw2 z4 u4 y2
  go_wp2_with fail
  go_ret
  have hp := HP.out
  have hFB := HFB.out
  have hb1 : Below base wb w1 := hk1.below (Below.refl base wb) hp.sys.base_le hFB
  have hb2 : Below base wb w2 := hk2'.below hb1 (Nat.le_trans hp.sys.base_le hk1.size) fun i hi => by have : i = pb := hi; omega
  have hnp : ∀ i, F i → ¬ i = pb := fun i hi e => hp.pbF (e ▸ hi)
  refine ⟨rfl, HBA.out.trans hb2, F, G', _, ⟨r.syn, r.more, max x (-1), r.off, r.br⟩, lv, ⟨hS1.kept hk2' hnp, fun i hi => Nat.lt_of_lt_of_le (hp.cap i hi) (Nat.le_trans hk1.size hk2'.size), fail_law hp.str x hx, ?_, hp.pbF, hp.gF, ?_, hp.small⟩, HN.out⟩
  · exact ⟨A1, n1, c1, A2, n2, c2, hkq, (HP1.out.keptF hk1 fun i _ hi => (hp.gF i hi).1).keptF hk2' fun i _ hi => (hp.gF i hi).2, (HP2.out.keptF hk1 fun i _ hi => (hp.gF i hi).1).keptF hk2' fun i _ hi => (hp.gF i hi).2⟩
  · rcases hp.log with h1 | ⟨hw, lb, c, z, h1, h2, h3, h4, h5⟩
    · exact .inl h1
    · exact .inr ⟨hw, lb, c, z, h1, (h2.kept hk1 h3).kept hk2' h4, h3, h4, h5⟩
end Go.Proofs.Ytcppmmdkblmfoaa
