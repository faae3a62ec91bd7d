/- Bytes that are appended to a row of the call's own; the walk of plan.quote. The walk of plan.Format of a plan that is right (printed by gen_ppf.py). -/
import Derived.Test.YtoegklpomlhneaaGreatDoorqRq
import Derived.Test.YtoegklpomlhneaaGreatDoorqPar
import Derived.Lib.AppendStr
import Derived.Lib.AppendIntMem
import Derived.Lib.BufferKept
import Derived.Test.YtoegklpomlhneaaGreatDoorqRa
import Derived.IntWalk
import Derived.Deep.RegionLaw
import Derived.Test.YtoegklpomlhneaaGreatDoorqRl
import Derived.Test.YtoegklpomlhneaaGreatDoorqRm
import Derived.Test.YtoegklpomlhneaaGreatDoorqShelf
namespace Go.Proofs.YtoegklpomlhneaaGreatDoor
open Go.RowKit
theorem infoU8 : (Tryz.prog.info? 5).map (fun i => (i.zero, i.size, i.bytes)) = some (some (.int .u8 0), 1, 1) := by kernel_rfl
/-- A text in a row of the call's own. -/
def TxO (w : World) (base : Nat) (v : Value) (T : List UInt8) : Prop := w.ownsRow base 5 1 v T.length (Lib.byteCells T)
theorem TxO.nil (w : World) (base : Nat) : TxO w base (.slice none 0 0) [] := ⟨rfl, .inl ⟨rfl, rfl⟩⟩
theorem TxO.below {w w' : World} {base : Nat} {v : Value} {T : List UInt8} (h : TxO w base v T) (hb : Below w.heap.size w w') : TxO w' base v T := own_below h hb
/-- What a call that fills a text of its own leaves: all below its blocks, and every block that is no row of bytes. -/
structure Gx (B : Nat) (w w' : World) : Prop where
  bel : Below B w w'
  oth : Lib.OthersKept 5 none w w'
section
variable {B : Nat} {a b c : World}
theorem Gx.refl (B : Nat) (a : World) : Gx B a a := ⟨Below.refl _ _, Lib.OthersKept.refl _ _ _⟩
theorem Gx.trans (h : Gx B a b) (k : Gx B b c) : Gx B a c := ⟨h.bel.trans k.bel, h.oth.trans k.oth⟩
theorem Gx.below (h : Gx B a b) (k : Below b.heap.size b c) (hB : B ≤ b.heap.size) : Gx B a c := ⟨h.bel.trans (k.mono hB), h.oth.below k⟩
theorem Gx.alloc (h : Gx B a b) (hB : B ≤ b.heap.size) (o : Obj) : Gx B a (b.alloc o) := h.below (below_alloc b o) hB
theorem Gx.drewN (h : Gx B a b) (n : Nat) : Gx B a (b.drewN n) := ⟨below_drewN h.bel n, h.oth⟩
theorem Gx.blk (h : Gx B a b) {g : Nat} {t : TypeId} {cs : Array Value} (hb : Blk a g t cs) (ht : t ≠ 5) : Blk b g t cs := h.oth g _ hb (by simp) (fun c fz e => ht (by injection e with _ h1 _))
end
theorem own_rows {w : World} {base : Nat} {v : Value} {T : List UInt8} (h : TxO w base v T) : ∀ g, v.ownBlock = some g → ∃ c fz, w.heap[g]? = some (.cells c 5 fz) := by
  intro g hg
  rcases h.2 with ⟨rfl, _⟩ | ⟨g', cap, cur, rfl, _, h1, _⟩
  · cases hg
  · injection hg with hg
    subst hg
    exact ⟨_, _, h1⟩
theorem app_lit {ops : Array Oper} {rest : List Oper} {o : Oper} {a : Act} {Q : Exit → Act → World → Prop} {w : World} (cs : Array Value) (hgd : o.guard = none) (s x : Operand)
    (ho : o.op = .call { callee := .builtin .append, args := #[s, x], argTypes := #[76, 76] }) (base : Nat) (v : Value) (T S : List UInt8) (hs : a.eval s = v) (hown : TxO w base v T)
    (c : Nat) (hx : a.eval x = .slice (some ⟨w.heap.size, 0, none⟩) S.length c) (hcs : cs = (Lib.byteCells S).toArray) (hlim : T.length + S.length ≤ 140737488355328) (hbase : base ≤ w.heap.size)
    (h : ∀ v' w', TxO w' base v' (T ++ S) → Gx base w w' → wpList Tryz.prog ops Q rest (a.put o.dst v') w') : wpList Tryz.prog ops Q (o :: rest) a (w.alloc (.cells cs 5)) := by
  obtain ⟨i0, hinf, hz0, hz1, hz2⟩ := info_parts infoU8
  subst hcs
  have hb1 : Below w.heap.size w (w.alloc (.cells (Lib.byteCells S).toArray 5)) := below_alloc w _
  have hr : Reads (w.alloc (.cells (Lib.byteCells S).toArray 5)) (w.heap.size + 1) 1 (some ⟨w.heap.size, 0, none⟩) S.length (Lib.byteCells S) := Reads.of_alloc w (Lib.byteCells S).toArray 5 (by omega) (by simp [Lib.byteCells])
  refine wpList_append_any _ hgd s x 76 ho base 5 i0 (.int .u8 0) 1 1 Tryz.underlying76 hinf hz0 hz1 hz2 rfl (by decide) v T.length (Lib.byteCells T) hs (own_below hown hb1) _ _ S.length c (Lib.byteCells S) hx hr (fun u hu => ?_) (by unfold maxLen; omega) (by omega) (by simp; omega) ?_
  · obtain ⟨b, _, rfl⟩ := List.mem_map.1 hu
    rfl
  · intro v' w' h1 h2 _
    refine h v' w' ?_ ?_
    · unfold TxO
      rw [List.length_append, Lib.byteCells_append]
      exact h1
    · exact ⟨below_own (hb1.mono hbase) (by simp; omega) (Nat.le_refl _) (own_below hown hb1) h2, ((Lib.OthersKept.refl _ _ w).below hb1).grown h2 (own_rows (hown.below hb1))⟩
theorem step_lit {ops : Array Oper} {o : Oper} {a : Act} {K : Act → World → Prop} {Q : Exit → Act → World → Prop} {E : Prop} {w : World} (W : World) (hgd : o.guard = none) (s x : Operand)
    (ho : o.op = .call { callee := .builtin .append, args := #[s, x], argTypes := #[76, 76] }) (base : Nat) (v : Value) (T S : List UInt8) (hs : a.eval s = v) (hown : TxO w base v T)
    (c : Nat) (hx : a.eval x = .slice (some ⟨w.heap.size, 0, none⟩) S.length c) (hbase : base ≤ w.heap.size)
    (hlim : T.length + S.length ≤ 140737488355328) (hb : Below w.heap.size w W) (hr : Reads W (w.heap.size + 1) 1 (some ⟨w.heap.size, 0, none⟩) S.length (Lib.byteCells S))
    (h : ∀ v' w', TxO w' base v' (T ++ S) → Gx base w w' → K (a.put o.dst v') w') :
    if Region.wanted o (yielded ops a.tmps) = true then Oper.wp Tryz.prog o a W K Q else E := by
  obtain ⟨i0, hinf, hz0, hz1, hz2⟩ := info_parts infoU8
  refine step_append_any _ hgd s x 76 ho base 5 i0 (.int .u8 0) 1 1 Tryz.underlying76 hinf hz0 hz1 hz2 rfl (by decide) v T.length (Lib.byteCells T) hs (own_below hown hb) _ _ S.length c (Lib.byteCells S) hx hr (fun u hu => ?_) (by unfold maxLen; omega) (by omega) (Nat.le_trans hbase hb.size) ?_
  · obtain ⟨b, _, rfl⟩ := List.mem_map.1 hu
    rfl
  · intro v' w' h1 h2 _
    refine h v' w' ?_ ?_
    · unfold TxO
      rw [List.length_append, Lib.byteCells_append]
      exact h1
    · exact ⟨below_own (hb.mono hbase) (Nat.le_trans hbase hb.size) (Nat.le_refl _) (own_below hown hb) h2, ((Lib.OthersKept.refl _ _ w).below hb).grown h2 (own_rows (hown.below hb))⟩
def hexDs : Array UInt8 := #[48, 49, 50, 51, 52, 53, 54, 55, 56, 57, 97, 98, 99, 100, 101, 102]
theorem hexDs_at : ∀ x : Fin 16, hexDs[x.val]? = some (hexC x.val) := by decide +kernel
theorem and15 : ∀ m : Fin 256, bits BinOp.and IntKind.u8 (m.val : Int) 15 = ((m.val % 16 : Nat) : Int) := by decide +kernel
theorem hex_idx {P : Program} {ty : TypeId} (ht : P.underlying ty = some .string) (x : Nat) (hx : x < 16) (w : World) : (Instr.index ty (.string ⟨#[48, 49, 50, 51, 52, 53, 54, 55, 56, 57, 97, 98, 99, 100, 101, 102]⟩) (.int .u8 x)).run P w = .ok (.int .u8 (hexC x).toNat) w := by
  rw [run_index_string _ _ _ _ _ ht, dif_pos ⟨by omega, by show (x : Int) < 16; omega⟩]
  congr 2
  have h := hexDs_at ⟨x, hx⟩
  obtain ⟨h1, h2⟩ := Array.getElem?_eq_some_iff.1 h
  have h3 : hexC x = hexDs[x]'h1 := h2.symm
  rw [h3]
  rfl
theorem quote_fact (b : UInt8) : quoteB b = if b = 34 ∨ b = 92 then [92, b] else if b < 32 ∨ 126 < b then [92, 120, hexC (b.toNat / 16), hexC (b.toNat % 16)] else [b] := rfl
def QuRel (w : World) (base : Nat) (T t : List UInt8) (f : Nat) (v i : Value) (wr : World) : Prop := ∃ k : Nat, i = .int .i64 k ∧ k ≤ t.length ∧ t.length - k < f ∧ Hid (TxO wr base v (T ++ 34 :: quoteT (t.take k))) ∧ Hid (Gx base w wr)
theorem quoteT_snoc {t : List UInt8} {k : Nat} {b : UInt8} (h : t[k]? = some b) : quoteT (t.take (k + 1)) = quoteT (t.take k) ++ quoteB b := by
  rw [List.take_add_one, h]
  unfold quoteT
  rw [List.flatMap_append]
  simp
theorem idx_str {P : Program} {ty : TypeId} (ht : P.underlying ty = some .string) {T : List UInt8} {k : Nat} {b : UInt8} (hb : T[k]? = some b) (w : World) : (Instr.index ty (.string ⟨T.toArray⟩) (.int .i64 k)).run P w = .ok (.int .u8 b.toNat) w := idxT ht hb w
set_option maxRecDepth 100000 in
set_option maxHeartbeats 8000000 in
theorem quote_any (base : Nat) (v : Value) (T t : List UInt8) (w : World) (hv : TxO w base v T) (hbase : base ≤ w.heap.size) (hlim : T.length + 4 * t.length + 10 ≤ 140737488355328) :
    Calls Tryz.prog 30 #[v, .string ⟨t.toArray⟩] w fun e w' => ∃ v', e = .returned v' ∧ TxO w' base v' (T ++ 34 :: (quoteT t ++ [34])) ∧ Gx base w w' := by
  obtain ⟨Av, cv, rfl⟩ := own_form hv
  have HV := Lib.hid hv
  have HLIM := Lib.hid hlim
  clear hv hlim
  go_enter Tryz.func30, Tryz.ntmps30
  go_wp2_with (at_builtin; refine app_lit _ rfl (.tmp 7) (.tmp 8) rfl base _ T [34] rfl HV.out _ rfl rfl (by have := HLIM.out; simp; omega) hbase ?_)
  intro v1 w1 hv1 hb1
  have HV1 := Lib.hid (show TxO w1 base v1 (T ++ 34 :: quoteT (t.take 0)) by simpa [quoteT] using hv1)
  have HB1 := Lib.hid hb1
  clear hv1 hb1
  go_wp2_with fail
  go_loopg [0, 5, 6, 12, 22, 33] (t.length + 1) (fun f v _ _ i _ _ wr => QuRel w base T t f v i wr)
  case atStart => exact ⟨0, rfl, by omega, by omega, HV1, HB1⟩
  case round =>
    obtain ⟨k, rfl, hk, hkf, HR, HB⟩ := hrel
    obtain ⟨f, rfl⟩ : ∃ f, gk = f + 1 := ⟨gk - 1, by omega⟩
    have hzr := HB.out.bel.size
    by_cases hlt : k < t.length
    · obtain ⟨b, hb⟩ : ∃ b, t[k]? = some b := ⟨t[k], List.getElem?_eq_getElem hlt⟩
      have hix := fun W => idxT Tryz.underlying9 hb W
      have HQ := Lib.hid (quoteT_snoc hb)
      have hql := quoteT_len (t.take k)
      have htl : (t.take k).length = k := by rw [List.length_take]; omega
      have hlen : (T ++ 34 :: quoteT (t.take k)).length + 4 ≤ 140737488355328 := by have := HLIM.out; simp only [List.length_append, List.length_cons]; omega
      have HLN := Lib.hid hlen
      have q0 : (k : Int) < (t.length : Int) := by omega
      have q1 : (0 : Int) ≤ (k : Int) := by omega
      have ek : wrap64 ((k : Int) + 1) = (k : Int) + 1 := IntWalk.wrap64_in _ (by have := HLIM.out; omega)
      obtain ⟨m, hm⟩ : ∃ m : Nat, b.toNat = m := ⟨_, rfl⟩
      have hm255 : m < 256 := hm ▸ b.toNat_lt
      have HM := Lib.hid hm
      rw [hm] at hix
      clear hb hql htl hlen hm
      by_cases h34 : m = 34
      · subst h34
        have HQB : Hid (quoteB b = [92, b]) := Lib.hid (by have : b = 34 := UInt8.toNat_inj.1 HM.out; subst this; rfl)
        go_wp2_with (at_builtin; refine app_lit _ rfl (.tmp 29) (.tmp 31) rfl base _ _ [92, b] rfl HR.out _ rfl (by simp [Lib.byteCells, HM.out]) (by have := HLN.out; simp only [List.length_cons, List.length_nil]; omega) (by omega) ?_)
        intro v2 w2 hv2 hb2
        have HR2 : Hid (TxO w2 base v2 (T ++ 34 :: quoteT (t.take (k + 1)))) := Lib.hid (by rw [HQ.out, HQB.out]; simpa using hv2)
        have HB2 := Lib.hid (HB.out.trans hb2)
        clear hv2 hb2
        go_wp2_with fail
        go_roundg f
        case measure => omega
        case rel => exact ⟨k + 1, by go_num, by omega, by omega, HR2, HB2⟩
      by_cases h92 : m = 92
      · subst h92
        have HQB : Hid (quoteB b = [92, b]) := Lib.hid (by have : b = 92 := UInt8.toNat_inj.1 HM.out; subst this; rfl)
        go_wp2_with (at_builtin; refine app_lit _ rfl (.tmp 29) (.tmp 31) rfl base _ _ [92, b] rfl HR.out _ rfl (by simp [Lib.byteCells, HM.out]) (by have := HLN.out; simp only [List.length_cons, List.length_nil]; omega) (by omega) ?_)
        intro v2 w2 hv2 hb2
        have HR2 : Hid (TxO w2 base v2 (T ++ 34 :: quoteT (t.take (k + 1)))) := Lib.hid (by rw [HQ.out, HQB.out]; simpa using hv2)
        have HB2 := Lib.hid (HB.out.trans hb2)
        clear hv2 hb2
        go_wp2_with fail
        go_roundg f
        case measure => omega
        case rel => exact ⟨k + 1, by go_num, by omega, by omega, HR2, HB2⟩
      have e34 : ((m : Int) == 34) = false := by simp; omega
      have e92 : ((m : Int) == 92) = false := by simp; omega
      have hbn : ¬ (b = 34 ∨ b = 92) := by
        have := HM.out
        rintro (rfl | rfl)
        · exact h34 this.symm
        · exact h92 this.symm
      by_cases hx : m < 32 ∨ 126 < m
      · have ex := hex_idx Tryz.underlying9 (m / 16) (by omega)
        have ey := hex_idx Tryz.underlying9 (m % 16) (by omega)
        have e16 : (m : Int) / 16 = ((m / 16 : Nat) : Int) := by omega
        have eand := and15 ⟨m, hm255⟩
        dsimp only at eand
        obtain ⟨x, hx16⟩ : ∃ x, x = m / 16 := ⟨_, rfl⟩
        obtain ⟨y, hy16⟩ : ∃ y, y = m % 16 := ⟨_, rfl⟩
        rw [← hx16] at ex e16
        rw [← hy16] at ey eand
        have HQB : Hid (quoteB b = [92, 120, hexC x, hexC y]) := Lib.hid (by
          have := HM.out
          rw [quoteB, if_neg hbn, if_pos, this, hx16, hy16]
          rcases hx with h | h
          · exact .inl (UInt8.lt_iff_toNat_lt.2 (by rw [this]; exact h))
          · exact .inr (UInt8.lt_iff_toNat_lt.2 (by rw [this]; exact h)))
        clear hx16 hy16
        rcases hx with hx | hx
        · have e32 : (m : Int) < 32 := by omega
          go_wp2_with fail
          go_region_law (first | (refine step_lit (w := wr) _ rfl (.tmp 40) (.tmp 47) rfl base _ _ [92, 120, hexC x, hexC y] rfl HR.out _ rfl (by omega) (by have := HLN.out; simp only [List.length_cons, List.length_nil]; omega) (below_alloc _ _).drew (Reads.of_alloc wr #[.int .u8 92, .int .u8 120, .int .u8 (hexC x).toNat, .int .u8 (hexC y).toNat] 5 (by omega) rfl).drew ?_; intro v2 w2 hv2 hb2; have HV2 := Lib.hid hv2; have HB2 := Lib.hid hb2; clear hv2 hb2))
          all_goals
            have HR2 : Hid (TxO w2 base v2 (T ++ 34 :: quoteT (t.take (k + 1)))) := Lib.hid (by rw [HQ.out, HQB.out]; simpa using HV2.out)
            have HB3 := Lib.hid (HB.out.trans HB2.out)
            clear HV2 HB2
            go_wp2_with fail
            go_roundg f
            case measure => omega
            case rel => exact ⟨k + 1, by go_num, by omega, by omega, HR2, HB3⟩
        · have e32 : ¬ ((m : Int) < 32) := by omega
          have e126 : 126 < (m : Int) := by omega
          go_wp2_with fail
          go_region_law (first | (refine step_lit (w := wr) _ rfl (.tmp 40) (.tmp 47) rfl base _ _ [92, 120, hexC x, hexC y] rfl HR.out _ rfl (by omega) (by have := HLN.out; simp only [List.length_cons, List.length_nil]; omega) (below_alloc _ _).drew (Reads.of_alloc wr #[.int .u8 92, .int .u8 120, .int .u8 (hexC x).toNat, .int .u8 (hexC y).toNat] 5 (by omega) rfl).drew ?_; intro v2 w2 hv2 hb2; have HV2 := Lib.hid hv2; have HB2 := Lib.hid hb2; clear hv2 hb2))
          all_goals
            have HR2 : Hid (TxO w2 base v2 (T ++ 34 :: quoteT (t.take (k + 1)))) := Lib.hid (by rw [HQ.out, HQB.out]; simpa using HV2.out)
            have HB3 := Lib.hid (HB.out.trans HB2.out)
            clear HV2 HB2
            go_wp2_with fail
            go_roundg f
            case measure => omega
            case rel => exact ⟨k + 1, by go_num, by omega, by omega, HR2, HB3⟩
      · have HQB : Hid (quoteB b = [b]) := Lib.hid (by
          have := HM.out
          rw [quoteB, if_neg hbn, if_neg]
          rintro (h | h)
          · have := UInt8.lt_iff_toNat_lt.1 h; simp at this; omega
          · have := UInt8.lt_iff_toNat_lt.1 h; simp at this; omega)
        have e32 : ¬ ((m : Int) < 32) := by omega
        have e126 : ¬ (126 < (m : Int)) := by omega
        go_wp2_with (at_builtin; refine app_lit _ rfl (.tmp 18) (.tmp 20) rfl base _ _ [b] rfl HR.out _ rfl (by simp [Lib.byteCells, HM.out]) (by have := HLN.out; simp only [List.length_cons, List.length_nil]; omega) (by omega) ?_)
        intro v2 w2 hv2 hb2
        have HR2 : Hid (TxO w2 base v2 (T ++ 34 :: quoteT (t.take (k + 1)))) := Lib.hid (by rw [HQ.out, HQB.out]; simpa using hv2)
        have HB2 := Lib.hid (HB.out.trans hb2)
        clear hv2 hb2
        go_wp2_with fail
        go_roundg f
        case measure => omega
        case rel => exact ⟨k + 1, by go_num, by omega, by omega, HR2, HB2⟩
    · have hkl : k = t.length := by omega
      subst hkl
      have q0 : ¬ ((t.length : Int) < (t.length : Int)) := by omega
      have hvv := HR.out
      rw [List.take_length] at hvv
      have hql := quoteT_len t
      have HVV := Lib.hid hvv
      clear hvv
      go_wp2_with (at_builtin; refine app_lit _ rfl (.tmp 50) (.tmp 51) rfl base _ _ [34] rfl HVV.out _ rfl rfl (by have := HLIM.out; simp only [List.length_append, List.length_cons, List.length_nil]; omega) (by omega) ?_)
      intro v2 w2 hv2 hb2
      have HV2 := Lib.hid (show TxO w2 base v2 (T ++ 34 :: (quoteT t ++ [34])) by simpa using hv2)
      have HB2 := Lib.hid (HB.out.trans hb2)
      clear hv2 hb2
      go_wp2_with fail
      go_ret
      exact ⟨_, rfl, HV2.out, HB2.out⟩
end Go.Proofs.YtoegklpomlhneaaGreatDoor
namespace Go.Proofs.YtoegklpomlhneaaGreatDoor
open Go.RowKit
def tabOk (B : Nat) (w : World) : Prop := Lib.TabBelow Tryz.prog B w "internal/strconv.uint64pow10" .u64 Lib.pow10Tab
theorem appInt (base : Nat) (v : Value) (T : List UInt8) (i : Int) (hi : i64R i) (w : World) (hown : TxO w base v T) (hb : base ≤ w.heap.size) (hlim : T.length + 21 ≤ 140737488355328) (htab : tabOk base w) :
    Calls Tryz.prog 28 #[v, .int .i64 i, .int .i64 10] w fun e w' => ∃ v', e = .returned v' ∧ TxO w' base v' (T ++ Lib.itoa i) ∧ Gx base w w' := by
  refine (Tryz.strconv_AppendInt_10 base T.length i hi.1 hi.2 v (Lib.byteCells T) w hown hb hlim htab).mono ?_
  rintro e w' ⟨v', rfl, h1, h2, h3⟩
  refine ⟨v', rfl, ?_, h2, h3⟩
  unfold TxO
  rw [List.length_append, Lib.byteCells_append]
  exact h1
theorem app_str {ops : Array Oper} {rest : List Oper} {o : Oper} {a : Act} {Q : Exit → Act → World → Prop} {w : World} (hgd : o.guard = none) (s x : Operand)
    (ho : o.op = .call { callee := .builtin .append, args := #[s, x], argTypes := #[76, 9] }) (base : Nat) (v : Value) (T S : List UInt8) (hs : a.eval s = v) (hown : TxO w base v T)
    (hx : a.eval x = .string ⟨S.toArray⟩) (hlim : T.length + S.length ≤ 140737488355328) (hbase : base ≤ w.heap.size)
    (h : ∀ v' w', TxO w' base v' (T ++ S) → Gx base w w' → wpList Tryz.prog ops Q rest (a.put o.dst v') w') : wpList Tryz.prog ops Q (o :: rest) a w := by
  obtain ⟨i0, hinf, hz0, hz1, hz2⟩ := info_parts infoU8
  have hsz : (ByteArray.mk S.toArray).size = S.length := by simp [ByteArray.size]
  refine Lib.wpList_append_own_string _ hgd s x 76 9 ho base 5 i0 Tryz.underlying76 Tryz.underlying9 hinf hz0 hz1 hz2 v T.length (Lib.byteCells T) hs hown ⟨S.toArray⟩ hx (by rw [hsz]; unfold maxLen; omega) (by rw [hsz]; omega) hbase ?_
  intro v' w' h1 h2 _
  refine h v' w' ?_ ⟨below_own (Below.refl _ _) hbase (Nat.le_refl _) hown h2, (Lib.OthersKept.refl _ _ w).grown h2 (own_rows hown)⟩
  unfold TxO
  rw [List.length_append, Lib.byteCells_append]
  rw [hsz] at h1
  exact h1
theorem of_numsB (l : List UInt8) : ((l.map fun b => (b.toNat : Int)).map fun n : Int => UInt8.ofNat n.toNat) = l := by
  induction l with
  | nil => rfl
  | cons x l ih => simp only [List.map_cons, ih, Int.toNat_natCast, UInt8.ofNat_toNat]
theorem str_row (w : World) (A : Option Addr) (n c B : Nat) (l : List UInt8) (hr : Reads w B 1 A n (Lib.byteCells l)) :
    (convert 76 9 (.slice A n c)).run Tryz.prog w = .ok (.string ⟨l.toArray⟩) w := by
  rcases Nat.eq_zero_or_pos n with h0 | h0
  · subst h0
    have hl : l = [] := List.eq_nil_of_length_eq_zero (by have := hr.1; simpa [Lib.byteCells] using this)
    subst hl
    rcases A with _ | ad
    · exact run_convert_bytes_nil w 76 5 Tryz.underlying76 Tryz.underlying5 0 c 9 Tryz.underlying9
    · rw [run_convert_bytes_string w 76 9 5 _ _ _ Tryz.underlying76 Tryz.underlying5 Tryz.underlying9]
      have := run_bytesToString (P := Tryz.prog) w ad 0 c [] (run_loadCells_list (P := Tryz.prog) w ad [] (fun j v hj => by simp at hj))
      exact this
  · obtain ⟨b, o, rfl, _, hc⟩ := hr.form h0
    have hl : l.length = n := by have := hr.1; simpa [Lib.byteCells] using this
    have := run_convert_bytes_arg (P := Tryz.prog) w 76 5 Tryz.underlying76 Tryz.underlying5 b o n c (l.map fun b => (b.toNat : Int)) (by simpa using hl) (fun i hi => by
      have h2 : (Lib.byteCells l)[i]? = some (.int .u8 (l[i]'(by omega)).toNat) := by simp [Lib.byteCells, hl, hi]
      rw [hc i _ h2]
      simp [hl, hi, List.getD]) 9 Tryz.underlying9
    rw [this]
    unfold strOfNums
    rw [of_numsB]
/-- What bounds the text of a plan. -/
structure FmtOk (l : List St) : Prop where
  num : ∀ (i : Nat) (s : St), l[i]? = some s → i64R s.num
  quo : ∀ (i : Nat) (s : St), l[i]? = some s → (fmtK l i).length + 4 * s.text.length + s.op.length + 100 ≤ 140737488355328
  room : ∀ (i : Nat) (s : St), l[i]? = some s → (fmtK l i).length + (fmtS i s).length + 100 ≤ 140737488355328
def FoRel (w : World) (l : List St) (f : Nat) (b i : Value) (wr : World) : Prop := ∃ k : Nat, i = .int .i64 k ∧ k ≤ l.length ∧ l.length - k < f ∧ Hid (TxO wr w.heap.size b (fmtK l k)) ∧ Hid (Gx w.heap.size w wr)
def FiRel (w : World) (T : List UInt8) (args : List Int) (f : Nat) (b i : Value) (wr : World) : Prop := ∃ k : Nat, i = .int .i64 k ∧ k ≤ args.length ∧ args.length - k < f ∧ Hid (TxO wr w.heap.size b (T ++ argsT (args.take k))) ∧ Hid (Gx w.heap.size w wr)
theorem argsT_snoc {args : List Int} {k : Nat} {a : Int} (h : args[k]? = some a) : argsT (args.take (k + 1)) = argsT (args.take k) ++ (32 :: Lib.itoa a) := by
  rw [List.take_add_one, h]
  unfold argsT
  rw [List.flatMap_append]
  simp
theorem argsT_le (args : List Int) (k : Nat) : (argsT (args.take k)).length ≤ (argsT args).length := by
  have h : argsT args = argsT (args.take k) ++ argsT (args.drop k) := by
    unfold argsT
    rw [← List.flatMap_append, List.take_append_drop]
  rw [h, List.length_append]
  omega
set_option maxRecDepth 100000 in
set_option maxHeartbeats 16000000 in
theorem Format_ok (A : Option Addr) (c : Nat) (l : List St) (w : World) (hP : PlAt w (fun i => i < w.heap.size) A l) (hm : Modest l) (hE : checkR l = 0) (htab : tabOk w.heap.size w) (hf : FmtOk l) :
    Calls Tryz.prog 8 #[.agg #[.slice A l.length c]] w fun e w' => e = .returned (.tuple #[.string ⟨(fmtL l).toArray⟩, .nilIface]) ∧ Below w.heap.size w w' := by
  have HP := Lib.hid hP
  have HTAB := Lib.hid htab
  have HF := Lib.hid hf
  have HBB := Lib.hid (Blk.new w 29 #[.slice A l.length c])
  have hck := Check_any A c l (w.alloc (.cells #[.slice A l.length c] 29)) (hP.below (below_alloc w _)) hm
  have HCK := Lib.hid hck
  have hn := hm.1
  have HE := Lib.hid hE
  have hv : errV (checkR l) = .nilIface := by rw [hE]; rfl
  have HV0 := Lib.hid hv
  clear hP hck hm hE hv htab hf
  go_enter Tryz.func8, Tryz.ntmps8
  go_wp2_with fail
  refine HCK.out.mono ?_
  rintro e w1 ⟨rfl, hb1⟩
  rw [HV0.out]
  have HG1 := Lib.hid (((Gx.refl w.heap.size w).alloc (Nat.le_refl _) (.cells #[.slice A l.length c] 29)).below hb1 (by simp))
  have s0 := (HBB.out.below hb1 (by simp)).cell 0
  simp only [List.getElem?_toArray, List.getElem?_cons_zero] at s0
  clear hb1
  go_wp2_with fail
  go_loopg [5, 6, 7, 8, 9, 11, 20, 41, 52, 65] (l.length + 1) (fun f b _ _ _ _ _ i _ _ _ wr => FoRel w l f b i wr)
  case atStart => exact ⟨0, rfl, by omega, by omega, Lib.hid (TxO.nil _ _), HG1⟩
  case round =>
    clear s0 HG1
    obtain ⟨k, rfl, hk, hkf, HV, HG⟩ := hrel
    obtain ⟨f, rfl⟩ : ∃ f, gk = f + 1 := ⟨gk - 1, by omega⟩
    have hzr := HG.out.bel.size
    by_cases hlt : k < l.length
    · obtain ⟨s, hs⟩ : ∃ s, l[k]? = some s := ⟨l[k], List.getElem?_eq_getElem hlt⟩
      have hzr' : w.heap.size ≤ wr.heap.size := hzr
      obtain ⟨bb, ob, As, cs, rfl, hbF, hbl, x0, x1, x2, x3, x4, har⟩ := (HP.out.at_ HG.out.bel).step hs
      obtain ⟨o, ho⟩ := stepE_zero ((checkR_zero HE.out).2.2 k s hs)
      have hal : s.args.length ≤ 3 := by rw [ho.len]; exact opR_small ho.op
      have hnum := HF.out.num k s hs
      have hroom := HF.out.room k s hs
      have HQU := Lib.hid (HF.out.quo k s hs)
      have hargs : ∀ a ∈ s.args, i64R a := fun a ha => by have := ho.back a ha; unfold i64R; omega
      have HAR := Lib.hid har
      have HNUM := Lib.hid hnum
      have HROOM := Lib.hid hroom
      have HARGS := Lib.hid hargs
      have HO := Lib.hid ho.op
      have HFS := Lib.hid (fmtK_succ hs)
      have q0 : (k : Int) < (l.length : Int) := by omega
      have q1 : (0 : Int) ≤ (k : Int) := by omega
      obtain ⟨op, args, num, text, ty⟩ := s
      dsimp only at x0 x1 x2 x3 x4 hal HAR HNUM HROOM HARGS HO
      have HST1 := Lib.hid (Blk.new wr 74 #[.string ⟨op.toArray⟩, .slice As args.length cs, .int .i64 num, .string ⟨text.toArray⟩, .int .i64 ty])
      have HV1 := Lib.hid (HV.out.below (below_alloc wr (.cells #[.string ⟨op.toArray⟩, .slice As args.length cs, .int .i64 num, .string ⟨text.toArray⟩, .int .i64 ty] 74)))
      have HG1 := Lib.hid (HG.out.alloc hzr' (.cells #[.string ⟨op.toArray⟩, .slice As args.length cs, .int .i64 num, .string ⟨text.toArray⟩, .int .i64 ty] 74))
      have hl0 := HROOM.out
      simp only [fmtS, List.length_append, List.length_cons, List.length_nil] at hl0
      have HL0 := Lib.hid hl0
      clear hs har ho hnum hroom hargs hl0 HV
      go_wp2_with fail
      refine (appInt w.heap.size _ _ (k : Int) ⟨by omega, by omega⟩ _ HV1.out HG1.out.bel.size (by have := HL0.out; omega) (HTAB.out.on HG1.out.bel)).mono ?_
      rintro e w2 ⟨v2, rfl, hv2, hg2⟩
      have HV2 := Lib.hid hv2
      have HG2 := Lib.hid (HG1.out.trans hg2)
      have HST2 := Lib.hid (hg2.blk HST1.out (by decide))
      clear hv2 hg2 HV1 HG1 HST1 x0 x1 x2 x3 x4
      go_wp2_with (at_builtin; refine app_lit _ rfl (.tmp 28) (.tmp 29) rfl w.heap.size _ _ [32] rfl HV2.out _ rfl rfl (by have := HL0.out; simp only [List.length_append, List.length_cons, List.length_nil]; omega) HG2.out.bel.size ?_)
      intro v3 w3 hv3 hg3
      have HV3 := Lib.hid hv3
      have HG3 := Lib.hid (HG2.out.trans hg3)
      have HST3 := Lib.hid (hg3.blk HST2.out (by decide))
      clear hv3 hg3 HV2 HG2 HST2
      obtain ⟨y0, y1, y2, y3, y4, _, _, _, _, _⟩ := blk5 HST3.out
      go_wp2_with (at_builtin; refine app_str rfl (.tmp 31) (.tmp 33) rfl w.heap.size _ _ op rfl HV3.out rfl (by have := HL0.out; simp only [List.length_append, List.length_cons, List.length_nil]; omega) HG3.out.bel.size ?_)
      intro v4 w4 hv4 hg4
      obtain ⟨T6, hT6⟩ : ∃ T6, T6 = fmtK l k ++ (Lib.itoa (k : Int) ++ (32 :: op)) := ⟨_, rfl⟩
      have HV4 : Hid (TxO w4 w.heap.size v4 T6) := Lib.hid (by rw [hT6]; simpa using hv4)
      have HF6 : Hid (fmtK l (k + 1) = T6 ++ (midT ⟨op, args, num, text, ty⟩ ++ (argsT args ++ [10]))) := Lib.hid (by rw [HFS.out, fmtS, hT6]; simp)
      have hl2 : T6.length + (midT ⟨op, args, num, text, ty⟩).length + (argsT args).length + 60 ≤ 140737488355328 := by
        have := HL0.out
        rw [hT6]
        simp only [List.length_append, List.length_cons, List.length_nil]
        omega
      have HL2 := Lib.hid hl2
      have HTL : Hid (T6.length + 4 * text.length + 30 ≤ 140737488355328) := Lib.hid (by have := HQU.out; have hil := Lib.itoa_length_le (k : Int) (by omega) (by omega); rw [hT6]; simp only [List.length_append, List.length_cons]; omega)
      clear hT6 hl2
      have HG4 := Lib.hid (HG3.out.trans hg4)
      have HST4 := Lib.hid (hg4.blk HST3.out (by decide))
      clear hv4 hg4 HV3 HG3 HST3 y0 y1 y2 y3 y4
      obtain ⟨y0, y1, y2, y3, y4, _, _, _, _, _⟩ := blk5 HST4.out
      go_wp2_with fail
      refine (op_any op w4).mono ?_
      rintro e w5 ⟨hb5, he⟩
      rw [HO.out] at he
      obtain ⟨Ao, co, rfl, _⟩ := he
      have HV5 := Lib.hid (HV4.out.below hb5)
      have HG5 := Lib.hid (HG4.out.below hb5 HG4.out.bel.size)
      have HST5 := Lib.hid (HST4.out.below hb5 HST4.out.lt)
      clear hb5 HV4 HG4 HST4 y0 y1 y2 y3 y4
      go_upto_region 12 with (fail)
      obtain ⟨w6, hw6⟩ : ∃ w6, w6 = w5.alloc (.cells #[.slice Ao o.args.length co, .int .i64 o.res, .bool o.text, .bool o.regex] 79) := ⟨_, rfl⟩
      have HV6 := Lib.hid (show TxO w6 w.heap.size v4 _ from by rw [hw6]; exact HV5.out.below (below_alloc _ _))
      have HG6 := Lib.hid (show Gx w.heap.size w w6 from by rw [hw6]; exact HG5.out.alloc HG5.out.bel.size _)
      have HST6 := Lib.hid (show Blk w6 wr.heap.size 74 _ from by rw [hw6]; exact HST5.out.alloc _)
      have HOP6 := Lib.hid (show Blk w6 w5.heap.size 79 #[.slice Ao o.args.length co, .int .i64 o.res, .bool o.text, .bool o.regex] from by rw [hw6]; exact Blk.new _ _ _)
      rw [← hw6]
      clear hw6
      obtain ⟨y0, y1, y2, y3, y4, _, _, _, _, _⟩ := blk5 HST6.out
      clear HV5 HG5 HST5
      -- WAYS
      by_cases hnm : op = nNumber
      · have HMT : Hid (midT ⟨op, args, num, text, ty⟩ = 32 :: Lib.itoa num) := Lib.hid (if_pos hnm)
        rw [HMT.out] at HF6 HL2
        have hnm' : op = [110, 117, 109, 98, 101, 114] := hnm
        subst hnm'
        clear hnm
        have hl6 := HL2.out
        simp only [List.length_cons] at hl6
        have HL6 := Lib.hid hl6
        clear hl6
        go_wp2_with (at_builtin; refine app_lit _ rfl (.tmp 45) (.tmp 46) rfl w.heap.size _ _ [32] rfl HV6.out _ rfl rfl (by have := HL6.out; simp only [List.length_cons, List.length_nil]; omega) HG6.out.bel.size ?_)
        intro va wa hva hga
        have HVa := Lib.hid hva
        have HGa := Lib.hid (HG6.out.trans hga)
        have HSTa := Lib.hid (hga.blk HST6.out (by decide))
        clear hva hga HV6 HG6 HST6 HOP6 y0 y1 y2 y3 y4
        obtain ⟨y0, y1, y2, y3, y4, _, _, _, _, _⟩ := blk5 HSTa.out
        go_wp2_with fail
        refine (appInt w.heap.size _ _ num HNUM.out _ HVa.out HGa.out.bel.size (by have := HL6.out; simp only [List.length_append, List.length_cons, List.length_nil]; omega) (HTAB.out.on HGa.out.bel)).mono ?_
        rintro e w7 ⟨v7, rfl, hv7, hg7⟩
        obtain ⟨T7, hT7⟩ : ∃ T7, T7 = T6 ++ (32 :: Lib.itoa num) := ⟨_, rfl⟩
        have HV7 : Hid (TxO w7 w.heap.size v7 T7) := Lib.hid (by rw [hT7]; simpa using hv7)
        have HG7 := Lib.hid (HGa.out.trans hg7)
        have HST7 := Lib.hid (hg7.blk HSTa.out (by decide))
        have HF7 : Hid (fmtK l (k + 1) = T7 ++ (argsT args ++ [10])) := Lib.hid (by rw [HF6.out, hT7]; simp)
        have HL7 : Hid (T7.length + (argsT args).length + 40 ≤ 140737488355328) := Lib.hid (by have := HL6.out; rw [hT7]; simp only [List.length_append, List.length_cons]; omega)
        clear hv7 hg7 hT7 HVa HGa HSTa y0 y1 y2 y3 y4
        obtain ⟨y0, y1, y2, y3, y4, _, _, _, _, _⟩ := blk5 HST7.out
        go_wp2_with fail
        go_loopg [5, 11, 65] (args.length + 1) (fun f b _ i wr => FiRel w T7 args f b i wr)
        case atStart => exact ⟨0, rfl, by omega, by omega, Lib.hid (by simpa [argsT] using HV7.out), HG7⟩
        case round =>
          obtain ⟨j, rfl, hj, hjf, HVi, HGi⟩ := hrel
          obtain ⟨f2, rfl⟩ : ∃ f2, gk = f2 + 1 := ⟨gk - 1, by omega⟩
          have hzi := HGi.out.bel.size
          by_cases hjl : j < args.length
          · obtain ⟨a, ha⟩ : ∃ a, args[j]? = some a := ⟨args[j], List.getElem?_eq_getElem hjl⟩
            have har2 := HARGS.out a (List.mem_of_getElem? ha)
            obtain ⟨ba, oa, rfl, hba', hba, hca⟩ := RdF.int HAR.out ha
            have hbw : ba < w.heap.size := hba'
            have y5 := (HGi.out.bel.cell (p := ⟨ba, oa + j, none⟩) hbw).trans ((HG.out.bel.cell (p := ⟨ba, oa + j, none⟩) hbw).symm.trans hca)
            have HSN := Lib.hid (argsT_snoc ha)
            have hle2 := argsT_le args (j + 1)
            rw [HSN.out] at hle2
            simp only [List.length_append, List.length_cons] at hle2
            have HA2 := Lib.hid har2
            have p0 : (j : Int) < (args.length : Int) := by omega
            have p1 : (0 : Int) ≤ (j : Int) := by omega
            have hlenI : T7.length + (argsT (args.take j)).length + (Lib.itoa a).length + 23 ≤ 140737488355328 := by have := HL7.out; omega
            have HLI := Lib.hid hlenI
            clear ha har2 hca hlenI hle2
            go_wp2_with (at_builtin; refine app_lit _ rfl (.tmp 69) (.tmp 70) rfl w.heap.size _ _ [32] rfl HVi.out _ rfl rfl (by have := HLI.out; simp only [List.length_append, List.length_cons, List.length_nil]; omega) hzi ?_)
            intro v8 w8 hv8 hg8
            have HV8 := Lib.hid hv8
            have HG8 := Lib.hid (HGi.out.trans hg8)
            clear hv8 hg8
            go_wp2_with fail
            refine (appInt w.heap.size _ _ a HA2.out _ HV8.out HG8.out.bel.size (by have := HLI.out; simp only [List.length_append, List.length_cons, List.length_nil]; omega) (HTAB.out.on HG8.out.bel)).mono ?_
            rintro e w9 ⟨v9, rfl, hv9, hg9⟩
            have HV9 : Hid (TxO w9 w.heap.size v9 (T7 ++ argsT (args.take (j + 1)))) := Lib.hid (by rw [HSN.out]; simpa using hv9)
            have HG9 := Lib.hid (HG8.out.trans hg9)
            clear hv9 hg9
            go_wp2_with fail
            go_roundg f2
            case measure => omega
            case rel => exact ⟨j + 1, by go_num, by omega, by omega, HV9, HG9⟩
          · have hjs : j = args.length := by omega
            subst hjs
            have hvv := HVi.out
            rw [List.take_length] at hvv
            have HVV := Lib.hid hvv
            clear hvv
            go_wp2_with (at_builtin; refine app_lit _ rfl (.tmp 76) (.tmp 77) rfl w.heap.size _ _ [10] rfl HVV.out _ rfl rfl (by have := HL7.out; simp only [List.length_append, List.length_cons, List.length_nil]; omega) hzi ?_)
            intro v8 w8 hv8 hg8
            have HV8 : Hid (TxO w8 w.heap.size v8 (fmtK l (k + 1))) := Lib.hid (by rw [HF7.out]; simpa using hv8)
            have HG8 := Lib.hid (HGi.out.trans hg8)
            clear hv8 hg8
            go_wp2_with fail
            go_roundg f
            case measure => omega
            case rel => exact ⟨k + 1, by go_num, by omega, by omega, HV8, HG8⟩
      have en : (op == [110, 117, 109, 98, 101, 114]) = false := by simpa [nNumber] using hnm
      obtain ⟨z0, z1, z2, z3, _, _, _, _⟩ := blk4 HOP6.out
      cases htx : o.text with
      | true =>
        have HMT : Hid (midT ⟨op, args, num, text, ty⟩ = 32 :: 34 :: (quoteT text ++ [34])) := Lib.hid (by
          unfold midT
          rw [if_neg hnm, if_pos (by unfold hasText; rw [HO.out]; exact htx)])
        rw [HMT.out] at HF6 HL2
        rw [htx] at z2
        have hl6 := HL2.out
        simp only [List.length_cons, List.length_append, List.length_nil] at hl6
        have HL6 := Lib.hid hl6
        clear hl6
        go_wp2_with (at_builtin; refine app_lit _ rfl (.tmp 55) (.tmp 56) rfl w.heap.size _ _ [32] rfl HV6.out _ rfl rfl (by have := HL6.out; simp only [List.length_cons, List.length_nil]; omega) HG6.out.bel.size ?_)
        intro va wa hva hga
        have HVa := Lib.hid hva
        have HGa := Lib.hid (HG6.out.trans hga)
        have HSTa := Lib.hid (hga.blk HST6.out (by decide))
        clear hva hga HV6 HG6 HST6 HOP6 y0 y1 y2 y3 y4 z0 z1 z2 z3
        obtain ⟨y0, y1, y2, y3, y4, _, _, _, _, _⟩ := blk5 HSTa.out
        have hqt := quoteT_len text
        go_wp2_with fail
        refine (quote_any w.heap.size _ _ text _ HVa.out HGa.out.bel.size (by have := HTL.out; simp only [List.length_append, List.length_cons, List.length_nil]; omega)).mono ?_
        rintro e w7 ⟨v7, rfl, hv7, hg7⟩
        obtain ⟨T7, hT7⟩ : ∃ T7, T7 = T6 ++ (32 :: 34 :: (quoteT text ++ [34])) := ⟨_, rfl⟩
        have HV7 : Hid (TxO w7 w.heap.size v7 T7) := Lib.hid (by rw [hT7]; simpa using hv7)
        have HG7 := Lib.hid (HGa.out.trans hg7)
        have HST7 := Lib.hid (hg7.blk HSTa.out (by decide))
        have HF7 : Hid (fmtK l (k + 1) = T7 ++ (argsT args ++ [10])) := Lib.hid (by rw [HF6.out, hT7]; simp)
        have HL7 : Hid (T7.length + (argsT args).length + 40 ≤ 140737488355328) := Lib.hid (by have := HL6.out; rw [hT7]; simp only [List.length_append, List.length_cons, List.length_nil]; omega)
        clear hv7 hg7 hT7 HVa HGa HSTa hqt y0 y1 y2 y3 y4
        obtain ⟨y0, y1, y2, y3, y4, _, _, _, _, _⟩ := blk5 HST7.out
        go_wp2_with fail
        go_loopg [5, 11, 65] (args.length + 1) (fun f b _ i wr => FiRel w T7 args f b i wr)
        case atStart => exact ⟨0, rfl, by omega, by omega, Lib.hid (by simpa [argsT] using HV7.out), HG7⟩
        case round =>
          obtain ⟨j, rfl, hj, hjf, HVi, HGi⟩ := hrel
          obtain ⟨f2, rfl⟩ : ∃ f2, gk = f2 + 1 := ⟨gk - 1, by omega⟩
          have hzi := HGi.out.bel.size
          by_cases hjl : j < args.length
          · obtain ⟨a, ha⟩ : ∃ a, args[j]? = some a := ⟨args[j], List.getElem?_eq_getElem hjl⟩
            have har2 := HARGS.out a (List.mem_of_getElem? ha)
            obtain ⟨ba, oa, rfl, hba', hba, hca⟩ := RdF.int HAR.out ha
            have hbw : ba < w.heap.size := hba'
            have y5 := (HGi.out.bel.cell (p := ⟨ba, oa + j, none⟩) hbw).trans ((HG.out.bel.cell (p := ⟨ba, oa + j, none⟩) hbw).symm.trans hca)
            have HSN := Lib.hid (argsT_snoc ha)
            have hle2 := argsT_le args (j + 1)
            rw [HSN.out] at hle2
            simp only [List.length_append, List.length_cons] at hle2
            have HA2 := Lib.hid har2
            have p0 : (j : Int) < (args.length : Int) := by omega
            have p1 : (0 : Int) ≤ (j : Int) := by omega
            have hlenI : T7.length + (argsT (args.take j)).length + (Lib.itoa a).length + 23 ≤ 140737488355328 := by have := HL7.out; omega
            have HLI := Lib.hid hlenI
            clear ha har2 hca hlenI hle2
            go_wp2_with (at_builtin; refine app_lit _ rfl (.tmp 69) (.tmp 70) rfl w.heap.size _ _ [32] rfl HVi.out _ rfl rfl (by have := HLI.out; simp only [List.length_append, List.length_cons, List.length_nil]; omega) hzi ?_)
            intro v8 w8 hv8 hg8
            have HV8 := Lib.hid hv8
            have HG8 := Lib.hid (HGi.out.trans hg8)
            clear hv8 hg8
            go_wp2_with fail
            refine (appInt w.heap.size _ _ a HA2.out _ HV8.out HG8.out.bel.size (by have := HLI.out; simp only [List.length_append, List.length_cons, List.length_nil]; omega) (HTAB.out.on HG8.out.bel)).mono ?_
            rintro e w9 ⟨v9, rfl, hv9, hg9⟩
            have HV9 : Hid (TxO w9 w.heap.size v9 (T7 ++ argsT (args.take (j + 1)))) := Lib.hid (by rw [HSN.out]; simpa using hv9)
            have HG9 := Lib.hid (HG8.out.trans hg9)
            clear hv9 hg9
            go_wp2_with fail
            go_roundg f2
            case measure => omega
            case rel => exact ⟨j + 1, by go_num, by omega, by omega, HV9, HG9⟩
          · have hjs : j = args.length := by omega
            subst hjs
            have hvv := HVi.out
            rw [List.take_length] at hvv
            have HVV := Lib.hid hvv
            clear hvv
            go_wp2_with (at_builtin; refine app_lit _ rfl (.tmp 76) (.tmp 77) rfl w.heap.size _ _ [10] rfl HVV.out _ rfl rfl (by have := HL7.out; simp only [List.length_append, List.length_cons, List.length_nil]; omega) hzi ?_)
            intro v8 w8 hv8 hg8
            have HV8 : Hid (TxO w8 w.heap.size v8 (fmtK l (k + 1))) := Lib.hid (by rw [HF7.out]; simpa using hv8)
            have HG8 := Lib.hid (HGi.out.trans hg8)
            clear hv8 hg8
            go_wp2_with fail
            go_roundg f
            case measure => omega
            case rel => exact ⟨k + 1, by go_num, by omega, by omega, HV8, HG8⟩
      | false =>
        have HMT : Hid (midT ⟨op, args, num, text, ty⟩ = []) := Lib.hid (by
          unfold midT
          rw [if_neg hnm, if_neg (by unfold hasText; rw [HO.out]; simp [htx])])
        rw [HMT.out] at HF6 HL2
        rw [htx] at z2
        obtain ⟨T7, hT7⟩ : ∃ T7, T7 = T6 := ⟨_, rfl⟩
        have HV7 := HV6
        have HG7 := HG6
        rw [← hT7] at HV7
        have HF7 : Hid (fmtK l (k + 1) = T7 ++ (argsT args ++ [10])) := Lib.hid (by rw [HF6.out, hT7]; simp)
        have HL7 : Hid (T7.length + (argsT args).length + 40 ≤ 140737488355328) := Lib.hid (by have := HL2.out; rw [hT7]; simp only [List.length_nil] at this; omega)
        clear hT7
        go_wp2_with fail
        go_loopg [5, 11, 65] (args.length + 1) (fun f b _ i wr => FiRel w T7 args f b i wr)
        case atStart => exact ⟨0, rfl, by omega, by omega, Lib.hid (by simpa [argsT] using HV7.out), HG7⟩
        case round =>
          obtain ⟨j, rfl, hj, hjf, HVi, HGi⟩ := hrel
          obtain ⟨f2, rfl⟩ : ∃ f2, gk = f2 + 1 := ⟨gk - 1, by omega⟩
          have hzi := HGi.out.bel.size
          by_cases hjl : j < args.length
          · obtain ⟨a, ha⟩ : ∃ a, args[j]? = some a := ⟨args[j], List.getElem?_eq_getElem hjl⟩
            have har2 := HARGS.out a (List.mem_of_getElem? ha)
            obtain ⟨ba, oa, rfl, hba', hba, hca⟩ := RdF.int HAR.out ha
            have hbw : ba < w.heap.size := hba'
            have y5 := (HGi.out.bel.cell (p := ⟨ba, oa + j, none⟩) hbw).trans ((HG.out.bel.cell (p := ⟨ba, oa + j, none⟩) hbw).symm.trans hca)
            have HSN := Lib.hid (argsT_snoc ha)
            have hle2 := argsT_le args (j + 1)
            rw [HSN.out] at hle2
            simp only [List.length_append, List.length_cons] at hle2
            have HA2 := Lib.hid har2
            have p0 : (j : Int) < (args.length : Int) := by omega
            have p1 : (0 : Int) ≤ (j : Int) := by omega
            have hlenI : T7.length + (argsT (args.take j)).length + (Lib.itoa a).length + 23 ≤ 140737488355328 := by have := HL7.out; omega
            have HLI := Lib.hid hlenI
            clear ha har2 hca hlenI hle2
            go_wp2_with (at_builtin; refine app_lit _ rfl (.tmp 69) (.tmp 70) rfl w.heap.size _ _ [32] rfl HVi.out _ rfl rfl (by have := HLI.out; simp only [List.length_append, List.length_cons, List.length_nil]; omega) hzi ?_)
            intro v8 w8 hv8 hg8
            have HV8 := Lib.hid hv8
            have HG8 := Lib.hid (HGi.out.trans hg8)
            clear hv8 hg8
            go_wp2_with fail
            refine (appInt w.heap.size _ _ a HA2.out _ HV8.out HG8.out.bel.size (by have := HLI.out; simp only [List.length_append, List.length_cons, List.length_nil]; omega) (HTAB.out.on HG8.out.bel)).mono ?_
            rintro e w9 ⟨v9, rfl, hv9, hg9⟩
            have HV9 : Hid (TxO w9 w.heap.size v9 (T7 ++ argsT (args.take (j + 1)))) := Lib.hid (by rw [HSN.out]; simpa using hv9)
            have HG9 := Lib.hid (HG8.out.trans hg9)
            clear hv9 hg9
            go_wp2_with fail
            go_roundg f2
            case measure => omega
            case rel => exact ⟨j + 1, by go_num, by omega, by omega, HV9, HG9⟩
          · have hjs : j = args.length := by omega
            subst hjs
            have hvv := HVi.out
            rw [List.take_length] at hvv
            have HVV := Lib.hid hvv
            clear hvv
            go_wp2_with (at_builtin; refine app_lit _ rfl (.tmp 76) (.tmp 77) rfl w.heap.size _ _ [10] rfl HVV.out _ rfl rfl (by have := HL7.out; simp only [List.length_append, List.length_cons, List.length_nil]; omega) hzi ?_)
            intro v8 w8 hv8 hg8
            have HV8 : Hid (TxO w8 w.heap.size v8 (fmtK l (k + 1))) := Lib.hid (by rw [HF7.out]; simpa using hv8)
            have HG8 := Lib.hid (HGi.out.trans hg8)
            clear hv8 hg8
            go_wp2_with fail
            go_roundg f
            case measure => omega
            case rel => exact ⟨k + 1, by go_num, by omega, by omega, HV8, HG8⟩
    · have hkl : k = l.length := by omega
      subst hkl
      have q0 : ¬ ((l.length : Int) < (l.length : Int)) := by omega
      obtain ⟨Av, cv, rfl⟩ := own_form HV.out
      have hcv := str_row wr Av _ cv _ _ (Reads.of_own HV.out)
      generalize (fmtK l l.length).length = nn at hcv ⊢
      change _ = Result.ok (Value.string ⟨(fmtL l).toArray⟩) wr at hcv
      go_wp2_with fail
      go_ret2
      exact ⟨rfl, HG.out.bel⟩
end Go.Proofs.YtoegklpomlhneaaGreatDoor
