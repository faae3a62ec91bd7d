/- The walk of wal.Open. -/
import Derived.Test.YtcppmmdkblmfoaaLogA
namespace Go.Proofs.Ytcppmmdkblmfoaa
open Go.RowKit Go.WideMaps
theorem SysM.data_le {w : World} {base sb mb n : Nat} {F : Nat → Prop} {st : AS} (h : SysM w base F sb mb n st) {nm : List UInt8} {f : AF} (hf : findA nm st.files = some f) : f.data.length ≤ 16777216 := by
  obtain ⟨frs, h1, h2, _⟩ := h
  rw [find_abs h2, Option.map_eq_some_iff] at hf
  obtain ⟨r, hr, rfl⟩ := hf
  exact (h1.2.2.2.1 _ (findG_name hr).2).1.2.2.2
theorem PaysL.low {lo lo' : Nat} {w : World} {N : Option Nat} {vs : List Value} {ps : List (List UInt8)} (h : PaysL lo w N vs ps) (hl : lo' ≤ lo) : PaysL lo' w N vs ps := by
  refine ⟨h.1, fun i v p hv hp => ?_⟩
  obtain ⟨A, n, c, h1, h2, h3, h4⟩ := h.2 i v p hv hp
  refine ⟨A, n, c, h1, h2, h3, fun hn => ?_⟩
  obtain ⟨ad, e, h5, h6⟩ := h4 hn
  exact ⟨ad, e, Nat.le_trans hl h5, h6⟩
theorem own_low {w : World} {base base' e size n : Nat} {v : Value} {xs : List Value} (h : w.ownsRow base e size v n xs) (hb : base' ≤ base) : w.ownsRow base' e size v n xs := by
  refine ⟨h.1, ?_⟩
  rcases h.2 with h2 | ⟨g, cap, cur, h1, h3, h4⟩
  · exact .inl h2
  · exact .inr ⟨g, cap, cur, h1, Nat.le_trans hb h3, h4⟩
structure OR where
  st : AS
  res : Option (List (List UInt8) × Nat)
  code : Int
def openA (st : AS) (nm : ByteArray) : OR :=
  match findA nm.data.toList st.files with
  | none => ⟨st, some ([], 0), 0⟩
  | some f => if (frames f.data).2 < f.data.length then (if (truncA st nm (frames f.data).2).2 = 0 then ⟨(truncA st nm (frames f.data).2).1, some (frames f.data), 0⟩ else ⟨(truncA st nm (frames f.data).2).1, none, (truncA st nm (frames f.data).2).2⟩)
    else ⟨st, some (frames f.data), 0⟩
def OpenOk (w : World) (base : Nat) (F : Nat → Prop) (sb mb n : Nat) (nm : ByteArray) (st' : AS) (ps : List (List UInt8)) (k : Nat) (e : Ending) (w' : World) : Prop :=
  ∃ w1 A c vs lb, e = .returned (.tuple #[.pointer (some ⟨lb, 0, none⟩), .slice A ps.length c, .nilIface]) ∧ Below w.heap.size w w1 ∧ w1.ownsRow (lb + 1) 22 1 (.slice A ps.length c) ps.length vs ∧ PaysL (lb + 1) w1 (Value.slice A ps.length c).ownBlock vs ps ∧ w.heap.size ≤ lb ∧ lb < w1.heap.size ∧
    LogM w' base (Cap F w1.heap.size w'.heap.size) sb mb n st' lb nm ps.length k false ∧ Kept (fun i => F i ∨ i = lb) w1 w'
def OpenBad (w : World) (base : Nat) (F : Nat → Prop) (sb mb n : Nat) (st' : AS) (code : Int) (e : Ending) (w' : World) : Prop :=
  e = .returned (.tuple #[.pointer none, .slice none 0 0, errV code]) ∧ SysM w' base (Cap F w.heap.size w'.heap.size) sb mb n st' ∧ Kept F w w'
def OpenEnd (w : World) (base : Nat) (F : Nat → Prop) (sb mb n : Nat) (nm : ByteArray) (r : OR) (e : Ending) (w' : World) : Prop :=
  match r.res with
  | some (ps, k) => OpenOk w base F sb mb n nm r.st ps k e w'
  | none => OpenBad w base F sb mb n r.st r.code e w'
def RetK (w : World) (v : Value) (e : Ending) (w' : World) : Prop := e = .returned v ∧ w = w'
theorem open_name (sb : Nat) (nm : ByteArray) (w : World) (h : validN nm = false) (hs : nm.size ≤ maxLen) : Calls Try.prog 22 #[.pointer (some ⟨sb, 0, none⟩), .string nm] w (RetW w (.tuple #[.pointer none, .slice none 0 0, .iface 33 (.int .i64 13)])) := by
  unfold maxLen at hs
  by_cases h1 : 1 ≤ nm.size
  · have h2 : ¬ nm.size ≤ 32 := fun h2 => by simp [validN, h1, h2] at h
    have b1 : decide ((nm.size : Int) < 1) = false := by simp; omega
    have b2 : (32 : Int) < (nm.size : Int) := by omega
    have b3 : ¬ (nm.size : Int) < 1 := by omega
    clear h1 h2 h
    go_enter Try.func22, Try.ntmps22
    go_wp2_with fail
    go_ret3
    exact ⟨rfl, rfl⟩
  · have b1 : (nm.size : Int) < 1 := by omega
    have b3 : nm.size = 0 := by omega
    clear h1 h
    go_enter Try.func22, Try.ntmps22
    go_wp2_with fail
    go_ret3
    exact ⟨rfl, rfl⟩
set_option maxRecDepth 100000 in
set_option maxHeartbeats 4000000 in
theorem open_any (base sb mb n : Nat) (F : Nat → Prop) (st : AS) (nm : ByteArray) (w : World) (hS : SysM w base F sb mb n st) (hF : ∀ i, F i → i < w.heap.size) (hv : validN nm = true) :
    Calls Try.prog 22 #[.pointer (some ⟨sb, 0, none⟩), .string nm] w (OpenEnd w base F sb mb n nm (openA st nm)) := by
  have hv' : 1 ≤ nm.size ∧ nm.size ≤ 32 := by simpa [validN] using hv
  obtain ⟨hv1, hv2⟩ := hv'
  have hs : nm.size ≤ maxLen := by unfold maxLen; omega
  have b1 : ¬ (nm.size : Int) < 1 := by omega
  have b2 : ¬ (32 : Int) < (nm.size : Int) := by omega
  have b3 : decide ((nm.size : Int) < 1) = false := by simp; omega
  have b4 : decide ((32 : Int) < (nm.size : Int)) = false := by simp; omega
  obtain ⟨wa, hwa⟩ : ∃ wa, wa = w.alloc (.cells (logC sb nm 0 0 false) 78) := ⟨_, rfl⟩
  have hba : Below w.heap.size w wa := by rw [hwa]; exact (Below.refl _ _).alloc (Nat.le_refl _) _
  have hblka : Blk wa w.heap.size 78 (logC sb nm 0 0 false) := by rw [hwa]; exact Blk.new _ _ _
  have hsa : wa.heap.size = w.heap.size + 1 := by rw [hwa]; simp
  have HSA := Lib.hid hsa
  have hSa := hS.below hba
  have hrd := read_any base sb mb n F st nm wa hSa hs
  have HBS := Lib.hid (show base ≤ w.heap.size from hS.base_le)
  have HWA := Lib.hid (show w.alloc (.cells #[.pointer (some ⟨sb, 0, none⟩), .string nm, .int .i64 0, .int .i64 0, .bool false] 78) = wa from hwa.symm)
  have HS := Lib.hid hSa
  have HFT := Lib.hid hF
  have HB := Lib.hid hblka
  have HBA := Lib.hid hba
  have HDL := Lib.hid (fun (f : AF) (hf : findA nm.data.toList st.files = some f) => hS.data_le hf)
  clear hF hba hblka hwa hSa hS hsa hv hv1 hv2
  go_enter Try.func22, Try.ntmps22
  go_wp2_with fail
  rw [HWA.out]
  refine hrd.mono ?_
  rintro e wb ⟨hbb, he⟩
  clear hrd
  cases hfind : findA nm.data.toList st.files with
  | none =>
    rw [hfind] at he
    simp only at he
    subst he
    have HD := Lib.hid (show openA st nm = ⟨st, some ([], 0), 0⟩ by unfold openA; rw [hfind])
    clear hfind
    unfold errV
    rw [if_neg (by decide)]
    go_wp2_with fail
    go_ret3
    rw [HD.out]
    have hb1 := HBA.out.trans (hbb.mono (HBA.out.size))
    have hlt : w.heap.size < wb.heap.size := by have := hbb.size; rw [HSA.out] at this; omega
    have hL : LogM wb base F sb mb n st w.heap.size nm 0 0 false := ⟨HS.out.below hbb, HB.out.below hbb HB.out.lt, fun h => by have := HFT.out _ h; omega, HBS.out, fun i hi => by have := HFT.out _ hi; omega⟩
    exact ⟨wb, none, 0, [], w.heap.size, rfl, hb1, World.ownsRow_nil _ _ _ _, PaysL.nil _ _ _, Nat.le_refl _, hlt, hL.keep (Nat.le_refl _), Kept.refl _ _⟩
  | some f =>
    rw [hfind] at he
    simp only at he
    obtain ⟨A, c, rfl, hownb⟩ := he
    have hdl := HDL.out f hfind
    have HD := Lib.hid (show openA st nm = if (frames f.data).2 < f.data.length then (if (truncA st nm (frames f.data).2).2 = 0 then ⟨(truncA st nm (frames f.data).2).1, some (frames f.data), 0⟩ else ⟨(truncA st nm (frames f.data).2).1, none, (truncA st nm (frames f.data).2).2⟩)
    else ⟨st, some (frames f.data), 0⟩ by unfold openA; rw [hfind])
    have hle := (frames_len f.data.length f.data (Nat.le_refl _)).1
    clear hfind
    obtain ⟨fname, d, fs⟩ := f
    simp only at hownb hdl HD hle
    have hfr := framesL_any A d.length c _ d wb (Reads.of_own hownb) (Nat.le_refl _) (by omega) (own_le hownb)
    have HOWN := Lib.hid hownb
    clear hownb
    go_wp2_with fail
    refine hfr.mono ?_
    rintro e w1 ⟨Al, cl, vs, rfl, hown1, hps1, hb1⟩
    clear hfr
    have hb01 : Below w.heap.size w w1 := HBA.out.trans ((hbb.trans (hb1.mono hbb.size)).mono HBA.out.size)
    have hba1 : Below wa.heap.size wa w1 := hbb.trans (hb1.mono hbb.size)
    have hlo : w.heap.size + 1 ≤ wb.heap.size := by have := hbb.size; rw [HSA.out] at this; exact this
    have hL : LogM w1 base F sb mb n st w.heap.size nm 0 0 false := ⟨HS.out.below hba1, HB.out.below hba1 HB.out.lt, fun h => by have := HFT.out _ h; omega, HBS.out, fun i hi => by have := HFT.out _ hi; have := hb01.size; omega⟩
    have hlt1 : w.heap.size < w1.heap.size := by have := hb1.size; omega
    have hownL : w1.ownsRow (w.heap.size + 1) 22 1 (.slice Al (frames d).1.length cl) (frames d).1.length vs := own_low hown1 hlo
    have hpsL := hps1.low hlo
    have HLG := Lib.hid hL
    have hblk1 := hL.2.1
    have f2 := hblk1.frozen 2
    have f3 := hblk1.frozen 3
    have g2 := hblk1.cell 2
    have g3 := hblk1.cell 3
    simp only [logC, List.getElem?_toArray, List.getElem?_cons_zero, List.getElem?_cons_succ] at g2 g3
    have HSY := Lib.hid (show SysM w1 base F sb mb n st from hL.1)
    have htr := trunc_any base sb mb n F st nm (frames d).2 w1 hL.1 hs
    have hpl : (frames d).1.length ≤ 1000000000 := by have := (frames_len d.length d (Nat.le_refl _)).2; omega
    have HBK := Lib.hid hblk1
    have HFIN := Lib.hid (fun (w2 w3 : World) (st' : AS) (hs2 : SysM w2 base (Grow F w1.heap.size) sb mb n st') (hk2 : Kept F w1 w2) (hk3 : Kept (fun i => i = w.heap.size) w2 w3) (hb3 : Blk w3 w.heap.size 78 (logC sb nm ((frames d).1.length : Nat) ((frames d).2 : Nat) false)) =>
      (show OpenOk w base F sb mb n nm st' (frames d).1 (frames d).2 (.returned (.tuple #[.pointer (some ⟨w.heap.size, 0, none⟩), .slice Al (frames d).1.length cl, .nilIface])) w3 from
        have h := hL.write (Below.refl _ w1) hs2 hk2 hk3 hb3
        ⟨w1, Al, cl, vs, w.heap.size, rfl, hb01, hownL, hpsL, Nat.le_refl _, hlt1, h.1, h.2⟩))
    have HS1 := Lib.hid (hL.1.wide (w := w1) hL.1.base_le)
    have HLE := Lib.hid hb01.size
    have HB01 := Lib.hid hb01
    clear hL hblk1 hownL hpsL hown1 hps1 hb01 hba1 hb1 hbb
    by_cases hlt : (frames d).2 < d.length
    · have HD1 := Lib.hid (show openA st nm = if (truncA st nm (frames d).2).2 = 0 then ⟨(truncA st nm (frames d).2).1, some (frames d), 0⟩ else ⟨(truncA st nm (frames d).2).1, none, (truncA st nm (frames d).2).2⟩ by rw [HD.out, if_pos hlt])
      obtain ⟨PS, hPS⟩ : ∃ PS, PS = (frames d).1 := ⟨_, rfl⟩
      obtain ⟨K, hK⟩ : ∃ K, K = (frames d).2 := ⟨_, rfl⟩
      have HP := Lib.hid hPS
      have HKK := Lib.hid hK
      rw [← hK] at hlt hle htr ⊢
      rw [← hPS] at hpl ⊢
      clear hPS hK
      go_wp2_with fail
      refine htr.mono ?_
      rintro e w2 ⟨rfl, hS2, hk2⟩
      have hblk2 := HBK.out.kept hk2 (fun h => by have := HFT.out _ h; omega)
      clear f2 f3 g2 g3
      have f2 := hblk2.frozen 2
      have f3 := hblk2.frozen 3
      have g2 := hblk2.cell 2
      have g3 := hblk2.cell 3
      simp only [logC, List.getElem?_toArray, List.getElem?_cons_zero, List.getElem?_cons_succ] at g2 g3
      have hS2' := hS2
      rw [HKK.out] at hS2'
      have HF2 := Lib.hid (fun (w3 : World) => HFIN.out w2 w3 _ hS2' hk2)
      clear hS2'
      have HB2 := Lib.hid hblk2
      clear hblk2
      by_cases hz : (truncA st nm (frames d).2).2 = 0
      · have HD2 := Lib.hid (show openA st nm = ⟨(truncA st nm (frames d).2).1, some (frames d), 0⟩ by rw [HD1.out, if_pos hz])
        have hz' : (truncA st nm K).2 = 0 := by rw [HKK.out]; exact hz
        rw [hz', errV_zero]
        clear hz hz'
        go_wp2_with fail
        go_ret3
        rw [HD2.out]
        unfold OpenEnd
        simp only
        rw [HP.out, HKK.out]
        exact HF2.out _ ((kept_set w2 w.heap.size 2 _).trans ((kept_set _ w.heap.size 3 _).mono fun i hi => .inl hi)) (by have := (HB2.out.set_ 2 (.int .i64 ((frames d).1.length : Nat))).set_ 3 (.int .i64 ((frames d).2 : Nat)); simpa [logC] using this)
      · have HD2 := Lib.hid (show openA st nm = ⟨(truncA st nm (frames d).2).1, none, (truncA st nm (frames d).2).2⟩ by rw [HD1.out, if_neg hz])
        have hz' : ¬ (truncA st nm K).2 = 0 := by rw [HKK.out]; exact hz
        have hev : errV (truncA st nm K).2 = .iface 33 (.int .i64 (truncA st nm K).2) := by unfold errV; rw [if_neg hz']
        have HE := Lib.hid hev
        rw [hev]
        have HS2 := Lib.hid hS2
        have HK2 := Lib.hid hk2
        clear hz hz' hev hS2 hk2
        go_wp2_with fail
        go_ret3
        rw [HD2.out]
        unfold OpenEnd
        simp only
        rw [← HE.out, HKK.out]
        refine ⟨rfl, ?_, (Kept.of_below HB01.out).trans (HK2.out.mono fun i hi => .inl hi)⟩
        have h := HS2.out.trim
        rw [HKK.out] at h
        exact h.grow (fun i hi => ⟨by
          rcases hi.1 with h | h
          · exact .inl h
          · exact .inr (Nat.le_trans HLE.out h), hi.2⟩) fun i hi => by
          rcases hi.1 with h | h
          · obtain ⟨_, _, _, _, h4, _⟩ := HSY.out
            exact h4 i h
          · have := HBS.out; omega
    · have HD1 := Lib.hid (show openA st nm = ⟨st, some (frames d), 0⟩ by rw [HD.out, if_neg hlt])
      obtain ⟨PS, hPS⟩ : ∃ PS, PS = (frames d).1 := ⟨_, rfl⟩
      obtain ⟨K, hK⟩ : ∃ K, K = (frames d).2 := ⟨_, rfl⟩
      have HP := Lib.hid hPS
      have HKK := Lib.hid hK
      rw [← hK] at hlt hle htr ⊢
      rw [← hPS] at hpl ⊢
      have hge : d.length ≤ K := by omega
      clear hPS hK htr
      go_wp2_with fail
      go_ret3
      rw [HD1.out]
      unfold OpenEnd
      simp only
      rw [HP.out, HKK.out]
      exact HFIN.out w1 _ st HS1.out (Kept.refl _ _) ((kept_set w1 w.heap.size 2 _).trans ((kept_set _ w.heap.size 3 _).mono fun i hi => .inl hi)) (by have := (HBK.out.set_ 2 (.int .i64 ((frames d).1.length : Nat))).set_ 3 (.int .i64 ((frames d).2 : Nat)); simpa [logC] using this)
end Go.Proofs.Ytcppmmdkblmfoaa
