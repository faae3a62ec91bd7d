/- The walks of the reference's without and with. -/
import Derived.Test.YthmbmecodddkeaaRF2
import Derived.Deep.QuietTactic
import Derived.BigQuiet
namespace Go.Proofs.Ythmbmecodddkeaa
open Go.RowKit Go.WideMaps
theorem infoF : (Try.prog.info? 86).map (fun i => (i.zero, i.size, i.bytes)) = some (some (.agg #[.string ByteArray.empty, .slice none 0 0, .int .i64 0]), 3, 48) := by kernel_rfl
/-- Old blocks of G, and what is new behind the function's own first blocks. -/
def LoG (G : Nat → Prop) (n m : Nat) : Nat → Prop := fun i => (G i ∧ i < n) ∨ m ≤ i
def ReW (G : Nat → Prop) (w : World) (l : List PF) (left : Int) (off : Bool) (e : Ending) (w' : World) : Prop :=
  ∃ fv, e = .returned (.agg #[fv, .int .i64 left, .bool off]) ∧ FsM (UpG G w.heap.size) w' fv l ∧ Below w.heap.size w w'
def set1 (w : World) (g : Nat) (b : Value) : World := w.setCell ⟨g, 0, none⟩ b
theorem dropG_snoc (s : List UInt8) (l : List PF) (p : PF) : dropG pn s (l ++ [p]) = dropG pn s l ++ if pn p = s then [] else [p] := by
  unfold dropG
  rw [List.filter_append]
  by_cases h : pn p = s <;> simp [h]
theorem dropG_len (s : List UInt8) (l : List PF) : (dropG pn s l).length ≤ l.length := List.length_filter_le _ _
theorem oneP {G : Nat → Prop} {w : World} {p : PF} (h : PayG G w p.2 p.1.data) : ∀ u ∈ cellsP [p], u.oneCell' = true :=
  (show PsG G w [p] from fun q hq => by simp at hq; subst hq; exact h).one
theorem reads_newP (w : World) (nm : List UInt8) (dv : Value) (data : List UInt8) (sync : Nat) : Reads (w.alloc (.cells #[.string ⟨nm.toArray⟩, dv, .int .i64 (sync : Int)] 86)) (w.heap.size + 1) 3 (some ⟨w.heap.size, 0, none⟩) 1 (cellsP [(⟨nm, data, sync⟩, dv)]) := by
  refine ⟨by simp [cellsP, rowP], fun _ => ⟨_, rfl, by simp, ?_⟩⟩
  have := news_alloc w #[.string ⟨nm.toArray⟩, dv, .int .i64 (sync : Int)] 86
  have e : cellsP [((⟨nm, data, sync⟩, dv) : PF)] = (#[.string ⟨nm.toArray⟩, dv, .int .i64 (sync : Int)] : Array Value).toList := by simp [cellsP, rowP, strV]
  rw [e]; exact this
theorem reads_newS (w : World) (s : ByteArray) (dv : Value) (data : List UInt8) (sync : Nat) : Reads (w.alloc (.cells #[.string s, dv, .int .i64 (sync : Int)] 86)) (w.heap.size + 1) 3 (some ⟨w.heap.size, 0, none⟩) 1 (cellsP [(⟨s.data.toList, data, sync⟩, dv)]) := by
  have := reads_newP w s.data.toList dv data sync
  simpa using this
theorem own_leN {w : World} {base e n c size : Nat} {A : Option Addr} {xs : List Value} (h : w.ownsRow base e size (.slice A n c) n xs) (_ : 0 < size) : n ≤ c := by
  obtain ⟨hl, h⟩ := h
  rcases h with ⟨h1, rfl⟩ | ⟨g', cap, cur, h1, h2, h3, h4, h5⟩
  · injection h1 with _ e2 _; omega
  · injection h1 with _ _ e3; subst e3; exact h4
theorem psG_drop {G : Nat → Prop} {w : World} {l : List PF} (s : List UInt8) (h : PsG G w l) : PsG G w (dropG pn s l) := fun p hp => h p (List.mem_filter.1 hp).1
theorem psG_lo {G : Nat → Prop} {w w' : World} {l : List PF} {m : Nat} (h : PsG (fun i => G i ∧ i < w.heap.size) w l) (hb : Below w.heap.size w w') : PsG (LoG G w.heap.size m) w' l := (h.mono fun _ _ h => .inl h).below hb
theorem loG_up {G : Nat → Prop} {n m i : Nat} (h : LoG G n m i) (hm : n ≤ m) : UpG G n i := by
  rcases h with h | h
  · exact .inl h.1
  · exact .inr (Nat.le_trans hm h)
def WoRel (wa : World) (l : List PF) (s : List UInt8) (n : Nat) (s5 s6 : Value) (wr : World) : Prop :=
  ∃ k A c, k ≤ n ∧ s6 = .int .i64 (k : Nat) ∧ s5 = .slice A (dropG pn s (l.take k)).length c ∧ (dropG pn s (l.take k)).length ≤ c ∧ wr.ownsRow wa.heap.size 86 3 (.slice A (dropG pn s (l.take k)).length c) (dropG pn s (l.take k)).length (cellsP (dropG pn s (l.take k))) ∧ Below wa.heap.size wa wr
set_option maxRecDepth 100000 in
set_option maxHeartbeats 2000000 in
theorem rwithout_any (G : Nat → Prop) (fv : Value) (l : List PF) (left : Int) (off : Bool) (s : ByteArray) (w : World) (hF : FsM G w fv l) (hn : l.length ≤ 1000000) :
    Calls Try.prog 50 #[.agg #[fv, .int .i64 left, .bool off], .string s] w (ReW G w (dropG pn s.data.toList l) left off) := by
  obtain ⟨i0, hi, hz0, hz1, hz2⟩ := info_parts infoF
  obtain ⟨hka, hkb, hba⟩ := two_blk w fv (.int .i64 left) (.bool off)
  obtain ⟨wa, hwa⟩ : ∃ wa, wa = two w fv (.int .i64 left) (.bool off) := ⟨_, rfl⟩
  rw [← hwa] at hka hkb hba
  have hsa : w.heap.size + 2 ≤ wa.heap.size := by rw [hwa]; simp [two]
  obtain ⟨A, c, rfl, hc, hr, _, hps⟩ := hF
  obtain ⟨n, hl⟩ : ∃ n, l.length = n := ⟨_, rfl⟩
  rw [hl] at hc hr hn hka ⊢
  rw [hl] at hwa
  unfold two at hwa
  have HWA := Lib.hid hwa
  have HL := Lib.hid hl
  have HB := Lib.hid hba
  have HKB := Lib.hid hkb
  have HKA := Lib.hid hka
  have HPS := Lib.hid (show PsG (fun i => G i ∧ i < w.heap.size) w l from hps.mono fun i hi hg => ⟨hg, hi⟩)
  have HSA := Lib.hid hsa
  have HPST := Lib.hid (show ∀ k, PsG (fun i => G i ∧ i < w.heap.size) w (l.take k) from fun k p hp => HPS.out p (List.mem_of_mem_take hp))
  have hra := hr.below hba
  clear hwa hba hka hkb hr hps hl
  go_enter Try.func50, Try.ntmps50
  go_upto_region 1 with (fail)
  rw [← HWA.out]
  go_wp2_with fail
  go_loopw [5, 6] (fun s5 s6 wr => WoRel wa l s.data.toList n s5 s6 wr) (fun _ s6 _ => n - (intOf s6).toNat)
  case atStart => exact ⟨0, none, 0, Nat.zero_le _, rfl, rfl, Nat.le_refl _, ⟨by simp [dropG, cellsP], .inl ⟨rfl, rfl⟩⟩, Below.refl _ _⟩
  case round =>
    obtain ⟨k, A2, c2, hk, rfl, rfl, hc2, hown, hbr⟩ := hrel
    have hkA := HKA.out.below hbr HKA.out.lt
    have x0 := hkA.cell 0
    simp only [List.getElem?_toArray, List.getElem?_cons_zero] at x0
    by_cases hlt : k < n
    · have hkl : k < l.length := by have := HL.out; omega
      obtain ⟨b, o, rfl, hbl, hc'⟩ := (hra.below (hbr.mono (show w.heap.size ≤ wa.heap.size by have := HSA.out; omega))).formN (by omega) (by decide)
      have hcc := cellsP_at l k hkl
      have c0 := hc' _ _ hcc.1
      have c1 := hc' _ _ hcc.2.1
      have c3 := hc' _ _ hcc.2.2
      rw [← Nat.add_assoc] at c1 c3
      unfold strV at c0
      have hsn : dropG pn s.data.toList (l.take (k + 1)) = dropG pn s.data.toList (l.take k) ++ if pn l[k] = s.data.toList then [] else [l[k]] := by rw [List.take_succ_eq_append_getElem hkl, dropG_snoc]
      have hpk := HPS.out _ (List.getElem_mem hkl)
      have heqs := eq_toList l[k].1.name s
      have hlen := dropG_len s.data.toList (l.take k)
      rw [List.length_take] at hlen
      have HSN := Lib.hid hsn
      clear hcc hc' hsn hkA
      generalize dropG pn s.data.toList (l.take k) = d at *
      by_cases hbf : l[k].1.name = s.data.toList
      · rw [decide_eq_true hbf] at heqs
        have heqn : (!(l[k].1.name == s.toList)) = false := by rw [heqs]; rfl
        have heqn2 : (l[k].1.name != s.toList) = false := by rw [bne, heqs]; rfl
        have HN := Lib.hid (show dropG pn s.data.toList (l.take (k + 1)) = d by rw [HSN.out, if_pos (show pn l[k] = s.data.toList from hbf), List.append_nil])
        clear hbf
        generalize l[k].1.name = nm at *
        go_wp2_with fail
        go_roundw
        · exact ⟨k + 1, A2, c2, by omega, by go_num, by rw [HN.out], by rw [HN.out]; exact hc2, by rw [HN.out]; exact hown, hbr⟩
        · simp [intOf]; omega
      · rw [decide_eq_false hbf] at heqs
        have heqn : (!(l[k].1.name == s.toList)) = true := by rw [heqs]; rfl
        have heqn2 : (l[k].1.name != s.toList) = true := by rw [bne, heqs]; rfl
        have HN := Lib.hid (show dropG pn s.data.toList (l.take (k + 1)) = d ++ [l[k]] by rw [HSN.out, if_neg (show ¬ pn l[k] = s.data.toList from hbf)])
        clear hbf
        generalize l[k] = p at *
        obtain ⟨⟨nm, data, sync⟩, dv⟩ := p
        simp only at c0 c1 c3 heqs heqn heqn2 hpk HN
        have ho1 := hown.alloc (.cells #[.string ⟨nm.toArray⟩, dv, .int .i64 (sync : Int)] 86)
        have hrx := reads_newP wr nm dv data sync
        have hone := oneP (p := (⟨nm, data, sync⟩, dv)) hpk
        have hs1 := hbr.size
        go_wp2_with (at_builtin; refine wpList_append_any _ rfl (.tmp 22) (.tmp 28) 50 rfl wa.heap.size 86 i0 (.agg #[.string ByteArray.empty, .slice none 0 0, .int .i64 0]) 3 48 Try.underlying50 hi hz0 hz1 hz2 rfl (by decide) _ _ _ rfl ho1 _ _ _ _ (cellsP [(⟨nm, data, sync⟩, dv)]) rfl hrx hone (by unfold maxLen; omega) (by omega) (by simp; omega) ?_)
        intro v3 w3 hown3 hg3 _
        obtain ⟨A3, c3', rfl⟩ := own_form hown3
        rw [← cellsP_append] at hown3
        have hb3 := below_own (hbr.alloc hs1 (.cells #[.string ⟨nm.toArray⟩, dv, .int .i64 (sync : Int)] 86)) (by simp; omega) (Nat.le_refl _) ho1 hg3
        have hc3 := own_leN hown3 (by decide)
        clear hg3 ho1 hrx hown hbr
        go_wp2_with fail
        go_roundw
        · have hll : (d ++ [((⟨nm, data, sync⟩, dv) : PF)]).length = d.length + 1 := by simp
          exact ⟨k + 1, A3, c3', by omega, by go_num, by rw [HN.out, hll], by rw [HN.out, hll]; exact hc3, by rw [HN.out, hll]; exact hown3, hb3⟩
        · simp [intOf]; omega
    · have HD := Lib.hid (show dropG pn s.data.toList (l.take k) = dropG pn s.data.toList l by rw [List.take_of_length_le (by have := HL.out; omega)])
      rw [HD.out] at hown hc2 ⊢
      generalize dropG pn s.data.toList l = d at *
      have hkB := HKB.out.below hbr HKB.out.lt
      have HFB := Lib.hid (show FsM (LoG G w.heap.size wa.heap.size) wr (.slice A2 d.length c2) d from FsM.of_own hown rfl hc2 (fun g hg _ => .inr hg) (by
        rw [← HD.out]
        exact psG_lo (psG_drop _ (HPST.out k)) (HB.out.trans (hbr.mono HB.out.size))))
      have hbw := HB.out.trans (hbr.mono HB.out.size)
      have u0 := hkA.frozen 0
      clear hown hra
      go_upto_region 8 with (fail)
      obtain ⟨w1, hw1⟩ : ∃ w1, w1 = wr.setCell ⟨w.heap.size, 0, none⟩ (.slice A2 d.length c2) := ⟨_, rfl⟩
      rw [← hw1]
      have hk1 := hkA.set_ 0 (.slice A2 d.length c2)
      rw [← hw1] at hk1
      simp only [List.setIfInBounds_toArray, List.set_cons_zero] at hk1
      have hk2 := hkB.far (p := ⟨w.heap.size, 0, none⟩) (show w.heap.size + 1 ≠ w.heap.size by omega) (.slice A2 d.length c2)
      rw [← hw1] at hk2
      have hb1 : Below w.heap.size w w1 := by rw [hw1]; exact hbw.setCell (Nat.le_refl _) _
      have HK1 := Lib.hid (show Kept (fun i => i = w.heap.size) wr w1 by rw [hw1]; exact kept_set wr w.heap.size 0 _)
      clear hw1 x0 u0 hkA hkB hbr hbw hc2
      have x0 := hk1.cell 0
      have x1 := hk1.cell 1
      have x2 := hk1.cell 2
      simp only [List.getElem?_toArray, List.getElem?_cons_zero, List.getElem?_cons_succ] at x0 x1 x2
      have z0 := hk2.cell 0
      have z1 := hk2.cell 1
      have z2 := hk2.cell 2
      simp only [List.getElem?_toArray, List.getElem?_cons_zero, List.getElem?_cons_succ] at z0 z1 z2
      have y0 := hk2.frozen 0
      have y1 := hk2.frozen 1
      have y2 := hk2.frozen 2
      go_wp2_with fail
      obtain ⟨wF, hwF⟩ : ∃ wF, wF = set3 w1 (w.heap.size + 1) (.slice A2 d.length c2) (.int .i64 left) (.bool off) := ⟨_, rfl⟩
      have HKF0 := Lib.hid hwF
      have hkF : Blk wF (w.heap.size + 1) 52 #[(.slice A2 d.length c2 : Value), (.int .i64 left : Value), (.bool off : Value)] := by rw [hwF]; exact set3_blk hk2 _ _ _
      have hbF : Below w.heap.size w wF := by rw [hwF]; exact set3_below hb1 hb1.size (Nat.le_succ _) _ _ _
      have f0 := hkF.cell 0
      have f1 := hkF.cell 1
      have f2 := hkF.cell 2
      simp only [List.getElem?_toArray, List.getElem?_cons_zero, List.getElem?_cons_succ] at f0 f1 f2
      unfold set3 at hwF
      rw [← hwF]
      refine bodyPost_ret (v := .agg #[(.slice A2 d.length c2 : Value), (.int .i64 left : Value), (.bool off : Value)]) (by simp [results, Try.results50, go_sem, f0, f1, f2]) rfl ?_
      have HKF := Lib.hid (show Kept (fun i => i = w.heap.size + 1) w1 wF from HKF0 ▸ set3_kept _ _ _ _ _)
      exact ⟨_, rfl, ((HFB.out.keptF HK1.out (fun i _ hi e => by rcases hi with h | h; omega; have := HSA.out; omega)).keptF HKF.out (fun i _ hi e => by rcases hi with h | h; omega; have := HSA.out; omega)).mono (fun i _ hi => loG_up hi (by have := HSA.out; omega)), hbF⟩
end Go.Proofs.Ythmbmecodddkeaa
