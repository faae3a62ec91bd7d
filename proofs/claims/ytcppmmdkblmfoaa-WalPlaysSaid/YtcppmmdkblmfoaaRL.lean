/- Plain: a log that is filled, synced and crashed; words for payloads whose blocks lie in a set. The reference's log: plain, and the walks of op and All. -/
import Derived.Test.YtcppmmdkblmfoaaKeep
import Derived.Test.YtcppmmdkblmfoaaCrash
import Derived.Test.YtcppmmdkblmfoaaBits
import Derived.Deep.RegionHeld3
namespace Go.Proofs.Ytcppmmdkblmfoaa
open Go.RowKit Go.WideMaps
def payK (l : List UInt8) : List UInt8 := 7 :: l.take 200
theorem payK_len (l : List UInt8) : 1 ≤ (payK l).length ∧ (payK l).length ≤ 201 := by
  unfold payK; simp; omega
/-- The bytes of the frames of some payloads. -/
def dat (P : List (List UInt8)) : List UInt8 := cat (P.map frameL)
theorem dat_snoc (P : List (List UInt8)) (b : List UInt8) : dat (P ++ [b]) = dat P ++ frameL b := by
  unfold dat; rw [List.map_append]; exact cat_snoc _ _
theorem dat_cons (p : List UInt8) (t : List (List UInt8)) : dat (p :: t) = frameL p ++ dat t := rfl
theorem dat_nil : dat [] = [] := rfl
theorem dat_ne {P : List (List UInt8)} (h : P ≠ []) : dat P ≠ [] := by
  cases P with
  | nil => exact absurd rfl h
  | cons p t =>
    rw [dat_cons]
    intro e
    have := congrArg List.length e
    rw [List.length_append, frameL_len] at this
    simp at this
theorem dat_len (P : List (List UInt8)) (n : Nat) (h : ∀ p ∈ P, p.length ≤ n) : (dat P).length ≤ P.length * (n + 8) := by
  induction P with
  | nil => simp [dat_nil]
  | cons p t ih =>
    have := ih fun q hq => h q (by simp [hq])
    have := h p (by simp)
    rw [dat_cons, List.length_append, frameL_len, List.length_cons, Nat.add_mul]
    omega
def sysK (d : List UInt8) (s : Nat) : AS := if d = [] then emptyA else one d s
theorem sysK_nil (s : Nat) : sysK [] s = emptyA := if_pos rfl
theorem sysK_ne {d : List UInt8} (h : d ≠ []) (s : Nat) : sysK d s = one d s := if_neg h
theorem lapp_sys (d b : List UInt8) (s : Nat) (c z : Int) (h0 : 1 ≤ b.length) (h1 : b.length ≤ 1048576) (hd : d.length + b.length + 8 ≤ 16777216) (hs : d = [] → s = 0) :
    lappA (sysK d s) logN c z false b = ⟨sysK (d ++ frameL b) s, c + 1, z + (b.length + 8 : Nat), false, 0⟩ := by
  have hne : d ++ frameL b ≠ [] := by
    intro e
    have := congrArg List.length e
    rw [List.length_append, frameL_len] at this
    simp at this
  rw [sysK_ne hne]
  by_cases h : d = []
  · subst h
    rw [sysK_nil, hs rfl, List.nil_append]
    unfold lappA
    rw [if_neg (by decide), if_neg (by omega), if_neg (by omega), append_empty _ (by rw [frameL_len]; omega)]
    simp only [if_true]
  · rw [sysK_ne h]; exact lapp_one d b s c z h0 h1 hd
theorem lsync_sys (d : List UInt8) (s : Nat) (c : Int) (hc : c = 0 ↔ d = []) : lsyncA (sysK d s) logN c false = (sysK d d.length, false, 0) := by
  by_cases h : d = []
  · subst h
    rw [sysK_nil, sysK_nil]
    unfold lsyncA
    rw [if_neg (by decide), if_pos (hc.2 rfl)]
  · rw [sysK_ne h, sysK_ne h]; exact lsync_one d s c fun e => h (hc.1 e)
theorem crash_one (f : AF) (ks : List Int) (hs : f.sync ≤ f.data.length) : ∃ m, f.sync ≤ m ∧ m ≤ f.data.length ∧ crashL [f] ks = [⟨f.name, f.data.take m, m⟩] := by
  obtain ⟨nm, d, s⟩ := f
  simp only at hs
  unfold crashL crash1
  simp only [crashL]
  by_cases h : d.length - s = 0
  · rw [if_pos h]
    exact ⟨d.length, hs, Nat.le_refl _, by rw [List.take_length, show s = d.length by omega]⟩
  · rw [if_neg h]
    cases ks with
    | nil => exact ⟨s + 0, by simp, hs, rfl⟩
    | cons k t =>
      refine ⟨s + (clipI k 0 ((d.length - s : Nat) : Int)).toNat, Nat.le_add_right _ _, ?_, rfl⟩
      show s + (clipI k 0 ((d.length - s : Nat) : Int)).toNat ≤ d.length
      unfold clipI
      split
      · omega
      · split <;> omega
theorem openA_one (d : List UInt8) (s : Nat) (hs : s ≤ d.length) : openA (one d s) logN = ⟨one (d.take (frames d).2) (min s (frames d).2), some (frames d), 0⟩ := open_one d s hs
theorem crash_open (d : List UInt8) (s : Nat) (ks : List Int) (hs : s ≤ d.length) :
    ∃ m, s ≤ m ∧ m ≤ d.length ∧ ∃ st', openA ⟨crashL (sysK d s).files ks, false, false, 0⟩ logN = ⟨st', some (frames (d.take m)), 0⟩ := by
  by_cases h : d = []
  · subst h
    refine ⟨0, by simpa using hs, Nat.le_refl _, emptyA, ?_⟩
    rw [sysK_nil]
    have : frames (List.take 0 ([] : List UInt8)) = ([], 0) := frames_none (by unfold step1; rw [if_pos (by decide)])
    rw [this]
    rfl
  · rw [sysK_ne h]
    obtain ⟨m, h1, h2, h3⟩ := crash_one ⟨logN.data.toList, d, s⟩ ks hs
    simp only at h1 h2 h3
    refine ⟨m, h1, h2, one ((d.take m).take (frames (d.take m)).2) (min m (frames (d.take m)).2), ?_⟩
    rw [show (one d s).files = [⟨logN.data.toList, d, s⟩] from rfl, h3]
    exact open_one (d.take m) m (by rw [List.length_take]; omega)
theorem step1_cut (p : List UInt8) (m : Nat) (hp : p.length ≤ 1048576) (hm : m < p.length + 8) : step1 ((frameL p).take m) = none := by
  unfold step1
  have hl : ((frameL p).take m).length = m := by rw [List.length_take, frameL_len]; omega
  rw [hl]
  by_cases h8 : m < 8
  · rw [if_pos h8]
  · rw [if_neg h8, if_pos]
    have e : rd4 ((frameL p).take m) = p.length := by
      have : (frameL p).take m = be4b p.length ++ (be4b (Crc.sum (bytes p)) ++ p).take (m - 4) := by
        unfold frameL
        rw [List.append_assoc, List.take_append, List.take_of_length_le (by simp [be4b]; omega)]
        rfl
      rw [this]
      exact rd4_be4b _ (by omega) _
    rw [e]
    omega
theorem frames_cut : ∀ (P : List (List UInt8)) (m : Nat), (∀ p ∈ P, 1 ≤ p.length ∧ p.length ≤ 1048576) →
    ∃ j, j ≤ P.length ∧ (frames ((dat P).take m)).1 = P.take j ∧ ∀ i, i ≤ P.length → (dat (P.take i)).length ≤ m → i ≤ j
  | [], m, _ => ⟨0, Nat.le_refl _, by
      rw [dat_nil, List.take_nil, frames_none (by unfold step1; rw [if_pos (by decide)])]
      rfl, fun i hi _ => hi⟩
  | p :: t, m, h => by
    have hp := h p (by simp)
    by_cases hm : m < p.length + 8
    · refine ⟨0, Nat.zero_le _, ?_, fun i hi hl => ?_⟩
      · have : (dat (p :: t)).take m = (frameL p).take m := by
          rw [dat_cons, List.take_append, show m - (frameL p).length = 0 by rw [frameL_len]; omega]
          simp
        rw [this, frames_none (step1_cut p m hp.2 hm)]
        rfl
      · cases i with
        | zero => exact Nat.le_refl _
        | succ i =>
          rw [List.take_succ_cons, dat_cons, List.length_append, frameL_len] at hl
          omega
    · obtain ⟨j, hj, hf, hi⟩ := frames_cut t (m - (p.length + 8)) fun q hq => h q (by simp [hq])
      refine ⟨j + 1, by simp; omega, ?_, fun i hil hl => ?_⟩
      · have : (dat (p :: t)).take m = frameL p ++ (dat t).take (m - (p.length + 8)) := by
          rw [dat_cons, List.take_append, List.take_of_length_le (by rw [frameL_len]; omega), frameL_len]
        rw [this, frames_frame p _ hp.1 hp.2, hf]
        rfl
      · cases i with
        | zero => exact Nat.zero_le _
        | succ i =>
          rw [List.take_succ_cons, dat_cons, List.length_append, frameL_len] at hl
          have := hi i (by simpa using hil) (by omega)
          omega
/-! ### payloads whose blocks lie in a set -/
def PayG (G : Nat → Prop) (w : World) (v : Value) (p : List UInt8) : Prop :=
  ∃ A n c, v = .slice A n c ∧ n ≤ c ∧ p.length = n ∧ (0 < n → ∃ ad : Addr, A = some ad ∧ ad.block < w.heap.size ∧ G ad.block ∧ ∀ j u, (p.map byteV)[j]? = some u → w.cell? (ad.add j) = some u)
section
variable {G G' F : Nat → Prop} {w w' : World} {v : Value} {p : List UInt8} {vs : List Value} {ps : List (List UInt8)}
theorem PayG.ok (h : PayG G w v p) : PayOk w none v p := by
  obtain ⟨A, n, c, h1, h2, h3, h⟩ := h
  refine ⟨A, n, c, h1, h2, h3, fun hn => ?_⟩
  obtain ⟨ad, e, hb, _, hc⟩ := h hn
  exact ⟨ad, e, hb, by simp, hc⟩
theorem PayG.mono (h : PayG G w v p) (hG : ∀ i, i < w.heap.size → G i → G' i) : PayG G' w v p := by
  obtain ⟨A, n, c, h1, h2, h3, h⟩ := h
  refine ⟨A, n, c, h1, h2, h3, fun hn => ?_⟩
  obtain ⟨ad, e, hb, hg, hc⟩ := h hn
  exact ⟨ad, e, hb, hG _ hb hg, hc⟩
theorem PayG.keptF (h : PayG G w v p) (hk : Kept F w w') (hF : ∀ i, i < w.heap.size → G i → ¬ F i) : PayG G w' v p := by
  obtain ⟨A, n, c, h1, h2, h3, h⟩ := h
  refine ⟨A, n, c, h1, h2, h3, fun hn => ?_⟩
  obtain ⟨ad, e, hb, hg, hc⟩ := h hn
  refine ⟨ad, e, Nat.lt_of_lt_of_le hb hk.size, hg, fun j u hu => ?_⟩
  rw [← hc j u hu]
  exact hk.cell (by rw [block_of_add]; exact hb) (by rw [block_of_add]; exact hF _ hb hg)
theorem PayG.of_own {base n c : Nat} {A : Option Addr} (h : w.ownsRow base 5 1 (.slice A n c) n (p.map byteV)) (hc : n ≤ c) (hG : ∀ g, base ≤ g → g < w.heap.size → G g) : PayG G w (.slice A n c) p := by
  have hr := Reads.of_own h
  refine ⟨A, n, c, rfl, hc, by have := hr.1; simpa using this, fun hn => ?_⟩
  obtain ⟨ad, e, hb, hcell⟩ := hr.2 hn
  obtain ⟨g, cap, hv, hbase, _⟩ := h.form hn
  have e2 : A = some ⟨g, 0, none⟩ := by injection hv
  rw [e] at e2
  injection e2 with e2
  exact ⟨ad, e, hb, hG _ (by rw [e2]; exact hbase) hb, hcell⟩
def PaysG (G : Nat → Prop) (w : World) (vs : List Value) (ps : List (List UInt8)) : Prop :=
  vs.length = ps.length ∧ ∀ (i : Nat) (v : Value) (p : List UInt8), vs[i]? = some v → ps[i]? = some p → PayG G w v p
theorem PaysG.nil (G : Nat → Prop) (w : World) : PaysG G w [] [] := ⟨rfl, fun i v p h => by simp at h⟩
theorem PaysG.ok (h : PaysG G w vs ps) : Pays w none vs ps := ⟨h.1, fun i v p hv hp => (h.2 i v p hv hp).ok⟩
theorem PaysG.mono (h : PaysG G w vs ps) (hG : ∀ i, i < w.heap.size → G i → G' i) : PaysG G' w vs ps := ⟨h.1, fun i v p hv hp => (h.2 i v p hv hp).mono hG⟩
theorem PaysG.keptF (h : PaysG G w vs ps) (hk : Kept F w w') (hF : ∀ i, i < w.heap.size → G i → ¬ F i) : PaysG G w' vs ps := ⟨h.1, fun i v p hv hp => (h.2 i v p hv hp).keptF hk hF⟩
theorem PaysG.snoc (h : PaysG G w vs ps) (hv : PayG G w v p) : PaysG G w (vs ++ [v]) (ps ++ [p]) := by
  refine ⟨by simp [h.1], fun i v' p' h1 h2 => ?_⟩
  have hl := h.1
  rw [List.getElem?_append] at h1 h2
  by_cases hi : i < vs.length
  · rw [if_pos hi] at h1; rw [if_pos (by omega)] at h2
    exact h.2 i v' p' h1 h2
  · rw [if_neg hi] at h1; rw [if_neg (by omega)] at h2
    rw [← hl] at h2
    generalize i - vs.length = k at *
    rcases k with _ | k
    · simp at h1 h2; subst h1 h2; exact hv
    · simp at h1
theorem PaysG.take (h : PaysG G w vs ps) (k : Nat) : PaysG G w (vs.take k) (ps.take k) := by
  refine ⟨by simp [h.1], fun i v p hv hp => ?_⟩
  rw [List.getElem?_take] at hv hp
  split at hv
  · rename_i hi
    rw [if_pos hi] at hp
    exact h.2 i v p hv hp
  · cases hv
end
end Go.Proofs.Ytcppmmdkblmfoaa
namespace Go.Proofs.Ytcppmmdkblmfoaa
open Go.RowKit Go.WideMaps
structure RL where
  syn : List UInt8
  more : List UInt8
  left : Int
  off : Bool
  br : Bool
def opL (left : Int) (off : Bool) : Int × Bool × Bool :=
  if off = true ∨ left = 0 then (left, true, false) else if 0 < left then (left - 1, off, true) else (left, off, true)
def rlV (s m : Value) (left : Int) (off br : Bool) : Value := .agg #[s, m, .int .i64 left, .bool off, .bool br]
def OpEnd (w : World) (v : Value) (e : Ending) (w' : World) : Prop := e = .returned v ∧ Below w.heap.size w w'
set_option maxRecDepth 100000 in
set_option maxHeartbeats 1000000 in
theorem op_any (A1 A2 : Option Addr) (n1 c1 n2 c2 : Nat) (left : Int) (off br : Bool) (w : World) (hl : -1 ≤ left) (hl2 : left ≤ 9223372036854775807) :
    Calls Try.prog 54 #[rlV (.slice A1 n1 c1) (.slice A2 n2 c2) left off br] w (OpEnd w (.tuple #[rlV (.slice A1 n1 c1) (.slice A2 n2 c2) (opL left off).1 (opL left off).2.1 br, .bool (opL left off).2.2])) := by
  unfold rlV
  cases off
  · by_cases h0 : left = 0
    · subst h0
      have HD := Lib.hid (show opL 0 false = (0, true, false) by decide)
      go_enter Try.func54, Try.ntmps54
      go_wp2_with fail
      refine bodyPost_ret (v := .tuple #[.agg #[.slice A1 n1 c1, .slice A2 n2 c2, .int .i64 0, .bool true, .bool br], .bool false]) (by simp [results, Try.results54, go_sem]) rfl ⟨?_, ((Below.refl _ _).alloc (Nat.le_refl _) _).alloc (by simp) _⟩
      rw [HD.out]
    · have b0 : (left == 0) = false := by simpa using h0
      by_cases h1 : 0 < left
      · have HD := Lib.hid (show opL left false = (left - 1, false, true) by unfold opL; rw [if_neg (by simp [h0]), if_pos h1])
        clear h0
        go_enter Try.func54, Try.ntmps54
        go_wp2_with fail
        refine bodyPost_ret (v := .tuple #[.agg #[.slice A1 n1 c1, .slice A2 n2 c2, .int .i64 (left - 1), .bool false, .bool br], .bool true]) (by simp [results, Try.results54, go_sem]) rfl ⟨?_, ((Below.refl _ _).alloc (Nat.le_refl _) _).alloc (by simp) _⟩
        rw [HD.out]
      · have HD := Lib.hid (show opL left false = (left, false, true) by unfold opL; rw [if_neg (by simp [h0]), if_neg h1])
        clear h0
        go_enter Try.func54, Try.ntmps54
        go_wp2_with fail
        refine bodyPost_ret (v := .tuple #[.agg #[.slice A1 n1 c1, .slice A2 n2 c2, .int .i64 left, .bool false, .bool br], .bool true]) (by simp [results, Try.results54, go_sem]) rfl ⟨?_, ((Below.refl _ _).alloc (Nat.le_refl _) _).alloc (by simp) _⟩
        rw [HD.out]
  · have HD := Lib.hid (show opL left true = (left, true, false) by unfold opL; rw [if_pos (.inl rfl)])
    go_enter Try.func54, Try.ntmps54
    go_wp2_with fail
    refine bodyPost_ret (v := .tuple #[.agg #[.slice A1 n1 c1, .slice A2 n2 c2, .int .i64 left, .bool true, .bool br], .bool false]) (by simp [results, Try.results54, go_sem]) rfl ⟨?_, ((Below.refl _ _).alloc (Nat.le_refl _) _).alloc (by simp) _⟩
    rw [HD.out]
set_option maxRecDepth 100000 in
set_option maxHeartbeats 2000000 in
theorem all_any (A1 A2 : Option Addr) (n1 c1 n2 c2 B : Nat) (d1 d2 : List UInt8) (left : Int) (off br : Bool) (w : World) (hr1 : Reads w B 1 A1 n1 (d1.map byteV)) (hr2 : Reads w B 1 A2 n2 (d2.map byteV)) (hB : B ≤ w.heap.size) (h1 : n1 ≤ 16777216) (h2 : n2 ≤ 16777216) :
    Calls Try.prog 47 #[rlV (.slice A1 n1 c1) (.slice A2 n2 c2) left off br] w (ClEnd w (d1 ++ d2)) := by
  obtain ⟨i0, hi, hz0, hz1, hz2⟩ := info_parts infoB
  have HL1 := Lib.hid (show d1.length = n1 by have := hr1.1; simpa using this)
  have HL2 := Lib.hid (show d2.length = n2 by have := hr2.1; simpa using this)
  unfold rlV
  obtain ⟨wb, hwb⟩ : ∃ wb, wb = w.alloc (.cells #[.slice A1 n1 c1, .slice A2 n2 c2, .int .i64 left, .bool off, .bool br] 57) := ⟨_, rfl⟩
  have hbk : Blk wb w.heap.size 57 #[.slice A1 n1 c1, .slice A2 n2 c2, .int .i64 left, .bool off, .bool br] := by rw [hwb]; exact Blk.new _ _ _
  have hbw : Below w.heap.size w wb := by rw [hwb]; exact (Below.refl _ _).alloc (Nat.le_refl _) _
  have hsz : w.heap.size < wb.heap.size := hbk.lt
  have x0 := hbk.cell 0
  have x1 := hbk.cell 1
  simp only [List.getElem?_toArray, List.getElem?_cons_zero, List.getElem?_cons_succ] at x0 x1
  have hown6d : ((wb.alloc (.cells #[] 5)).drew).ownsRow wb.heap.size 5 1 (.slice (some ⟨wb.heap.size, 0, none⟩) 0 0) 0 [] := World.ownsRow_lit (e := 5) (size := 1) wb #[] 0 (Nat.le_refl _) (by decide) rfl
  have hq : Below wb.heap.size wb ((wb.alloc (.cells #[] 5)).drew) := ((Below.refl _ _).alloc (Nat.le_refl _) _).drew
  have hrA : Reads ((wb.alloc (.cells #[] 5)).drew) B 1 A1 n1 (d1.map byteV) := (hr1.below (hbw.mono hB)).below (hq.mono (Nat.le_trans hB hbw.size))
  have hs1 : 0 + n1 ≤ maxLen := by unfold maxLen; omega
  have hs2 : (0 + n1) * 1 ≤ 140737488355328 := by omega
  have hs3 : wb.heap.size ≤ ((wb.alloc (.cells #[] 5)).drew).heap.size := hq.size
  have ht1 : 0 + n1 + n2 ≤ maxLen := by unfold maxLen; omega
  have ht2 : (0 + n1 + n2) * 1 ≤ 140737488355328 := by omega
  have K1 := Lib.hid (show ∀ w1 : World, ((wb.alloc (.cells #[] 5)).drew).grownBy w1 (Value.slice (some ⟨wb.heap.size, 0, none⟩) 0 0).ownBlock → Below wb.heap.size wb w1 from fun w1 hg => hq.grown hg hs3 (fun g h => (hown6d.lt g h).1))
  have K2 := Lib.hid (show ∀ w1 : World, Below wb.heap.size wb w1 → w1.cell? ⟨w.heap.size, 0, none⟩ = some (.slice A1 n1 c1) ∧ w1.cell? ⟨w.heap.size, 1, none⟩ = some (.slice A2 n2 c2) from fun w1 h => ⟨(h.cell (p := ⟨w.heap.size, 0, none⟩) hsz).trans x0, (h.cell (p := ⟨w.heap.size, 1, none⟩) hsz).trans x1⟩)
  have K3 := Lib.hid (show ∀ w1 : World, Below wb.heap.size wb w1 → Reads w1 B 1 A2 n2 (d2.map byteV) from fun w1 h => (hr2.below (hbw.mono hB)).below (h.mono (Nat.le_trans hB hbw.size)))
  have HBW := Lib.hid hbw
  have HWB := Lib.hid hwb
  have hwsz : wb.heap.size = w.heap.size + 1 := by rw [hwb]; simp
  have HSZ := Lib.hid hwsz
  clear hr1 hr2 hbk hbw hwb hsz hwsz hq
  go_enter Try.func47, Try.ntmps47
  go_wp2_with fail
  rw [← HWB.out]
  go_region_held3 (fun w' => w'.cell? ⟨w.heap.size, 0, none⟩ = some (.slice A1 n1 c1) ∧ w'.cell? ⟨w.heap.size, 1, none⟩ = some (.slice A2 n2 c2))
    (first | go_keep | (go_split_ands; exact ⟨by assumption, by assumption⟩) | assumption)
    (first
      | (refine step_append_any _ rfl (.tmp 6) (.tmp 8) 22 rfl wb.heap.size 5 i0 (.int .u8 0) 1 1 Try.underlying22 hi hz0 hz1 hz2 rfl (by decide) (.slice A3 (0 + n1) c3) (0 + n1) ([] ++ d1.map byteV) rfl hown1 B A2 n2 c2 (d2.map byteV) rfl hr2' (oneB d2) ht1 ht2 hs22 ?_; intro v2 w2 hown2 hg2 hv2; obtain ⟨A4, c4, rfl⟩ := own_form hown2; have hb2 := below_own hb1 hb1.size (Nat.le_refl _) hown1 hg2; have hS2 := K2.out _ hb2; have hS2a := hS2.1; have hS2b := hS2.2)
      | (refine step_append_any _ rfl (.tmp 3) (.tmp 5) 22 rfl wb.heap.size 5 i0 (.int .u8 0) 1 1 Try.underlying22 hi hz0 hz1 hz2 rfl (by decide) (.slice (some ⟨wb.heap.size, 0, none⟩) 0 0) 0 [] rfl hown6d B A1 n1 c1 (d1.map byteV) rfl hrA (oneB d1) hs1 hs2 hs3 ?_; intro v1 w1 hown1 hg1 hv1; obtain ⟨A3, c3, rfl⟩ := own_form hown1; have hb1 := K1.out _ hg1; have hr2' := K3.out _ hb1; have hs22 := hb1.size; have hS1 := K2.out _ hb1; have hS1a := hS1.1; have hS1b := hS1.2))
  have HF := Lib.hid (show ClEnd w (d1 ++ d2) (.returned (.slice A4 (n1 + n2) c4)) w2 from by
    have hl : (d1 ++ d2).length = n1 + n2 := by rw [List.length_append, HL1.out, HL2.out]
    rw [Nat.zero_add] at hown2
    unfold ClEnd
    rw [hl]
    refine ⟨A4, c4, rfl, ?_, HBW.out.trans (hb2.mono (by have := HSZ.out; omega))⟩
    have := own_low hown2 (base' := w.heap.size) (by have := HSZ.out; omega)
    rw [List.map_append]
    exact this)
  clear hown1 hown2 hg1 hg2 hb1 hb2 hS1 hS2 hr2' hS1a hS1b hS2a hS2b hown6d hrA
  go_wp2_with fail
  go_ret
  exact HF.out
end Go.Proofs.Ytcppmmdkblmfoaa
