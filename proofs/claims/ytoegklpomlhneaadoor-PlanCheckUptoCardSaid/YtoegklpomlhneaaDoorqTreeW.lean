/- The walk of plan.Tree. -/
import Derived.Test.YtoegklpomlhneaaDoorqGrow
import Derived.Laws.MakeOwn
namespace Go.Proofs.YtoegklpomlhneaaDoor
open Go.RowKit
theorem run_make_rowN {P : Program} (t e : TypeId) (i : TypeInfo) (z : Value) (ht : P.underlying t = some (.slice e)) (hi : P.info? e = some i) (hz : i.zero = some z)
    (kl kc : IntKind) (n c : Nat) (hnc : n ≤ c) (hbytes : i.bytes * c ≤ 281474976710656) (h63 : c ≤ 9223372036854775807) (w : World) :
    (Instr.makeSlice t (.int kl (n : Int)) (.int kc (c : Int))).run P w = .ok (.slice (some ⟨w.heap.size, 0, none⟩) n c) (w.alloc (.cells (madeCells z.cells (c * i.size)) e)) := by
  have hb : (i.bytes : Int) * (c : Int) ≤ 281474976710656 := by
    have h : ((i.bytes * c : Nat) : Int) ≤ 281474976710656 := by omega
    rwa [Int.natCast_mul] at h
  have hr := run_make (P := P) w t e i z ht hi hz kl kc n c (by omega) (by omega) hb (by omega)
  simp only [Int.toNat_natCast] at hr
  exact hr
theorem made_ints (n : Nat) : madeCells (Value.int .i64 0).cells (n * 1) = ((List.replicate n (0 : Int)).map (Value.int .i64)).toArray := by
  rw [Nat.mul_one]
  apply Array.ext
  · simp [size_madeCells]
  · intro i h1 h2
    simp [madeCells, Value.cells, Nat.mod_one]
/-- The sizes of the first k steps' trees. -/
def zk (l : List St) (k : Nat) : List Int := sizesF [] (l.take k)
theorem sizesF_append : ∀ (t t' : List St) (z : List Int), sizesF z (t ++ t') = sizesF (sizesF z t) t'
  | [], _, _ => rfl
  | x :: t, t', z => by rw [List.cons_append, sizesF, sizesF, sizesF_append t t']
theorem sizesF_length : ∀ (t : List St) (z : List Int), (sizesF z t).length = z.length + t.length
  | [], z => by simp [sizesF]
  | x :: t, z => by rw [sizesF, sizesF_length t]; simp; omega
theorem zk_length {l : List St} {k : Nat} (h : k ≤ l.length) : (zk l k).length = k := by unfold zk; rw [sizesF_length]; simp; omega
theorem zk_succ {l : List St} {k : Nat} {s : St} (h : l[k]? = some s) : zk l (k + 1) = zk l k ++ [min (baseN s.op + sumAt (zk l k) s.args) 4097] := by
  unfold zk
  rw [List.take_add_one, h, show (some s).toList = [s] from rfl, sizesF_append]
  rfl
theorem zk_all (l : List St) : zk l l.length = sizesR l := by unfold zk sizesR; rw [List.take_length]
theorem baseN_bd (n : List UInt8) : 1 ≤ baseN n ∧ baseN n ≤ 3 := by
  unfold baseN
  split
  · omega
  split <;> omega
theorem sumAt_bd {z : List Int} (hz : ∀ x ∈ z, 0 ≤ x ∧ x ≤ 4097) : ∀ args : List Int, 0 ≤ sumAt z args ∧ sumAt z args ≤ 4097 * args.length
  | [] => by simp [sumAt]
  | a :: args => by
    have h1 := sumAt_bd hz args
    unfold sumAt at h1 ⊢
    rw [List.map_cons, List.sum_cons, List.length_cons]
    have h2 : 0 ≤ z.getD a.toNat 0 ∧ z.getD a.toNat 0 ≤ 4097 := by
      rw [List.getD_eq_getElem?_getD]
      cases h : z[a.toNat]? with
      | none => simp
      | some x => exact hz x (List.mem_of_getElem? h)
    omega
theorem sizesF_bd : ∀ (t : List St) (z : List Int), (∀ x ∈ z, 0 ≤ x ∧ x ≤ 4097) → ∀ x ∈ sizesF z t, 0 ≤ x ∧ x ≤ 4097
  | [], z, h, x, hx => h x hx
  | s :: t, z, h, x, hx => by
    rw [sizesF] at hx
    refine sizesF_bd t _ (fun y hy => ?_) x hx
    rcases List.mem_append.1 hy with hy | hy
    · exact h y hy
    · rw [List.mem_singleton] at hy
      have := sumAt_bd h s.args
      have := baseN_bd s.op
      omega
theorem zk_bd (l : List St) (k : Nat) : ∀ x ∈ zk l k, 0 ≤ x ∧ x ≤ 4097 := sizesF_bd _ _ (fun x hx => by cases hx)
theorem sumAt_snoc (z args : List Int) (a : Int) : sumAt z (args ++ [a]) = sumAt z args + z.getD a.toNat 0 := by unfold sumAt; simp
def zarr (l : List St) (k : Nat) : Array Value := ((zk l k ++ List.replicate (l.length - k) 0).map (Value.int .i64)).toArray
theorem zarr_zero (l : List St) : zarr l 0 = ((List.replicate l.length (0 : Int)).map (Value.int .i64)).toArray := by unfold zarr zk; simp [sizesF]
theorem zarr_get {l : List St} {k a : Nat} (hk : k ≤ l.length) (ha : a < k) : (zarr l k)[a]? = some (.int .i64 ((zk l k).getD a 0)) := by
  have hl := zk_length hk
  unfold zarr
  rw [List.getElem?_toArray, List.getElem?_map, List.getElem?_append_left (by omega), List.getD_eq_getElem?_getD, List.getElem?_eq_getElem (by omega)]
  rfl
theorem zarr_at {l : List St} {k : Nat} (hk : k < l.length) : (zarr l k)[k]? = some (.int .i64 0) := by
  have hl := zk_length (Nat.le_of_lt hk)
  unfold zarr
  rw [List.getElem?_toArray, List.getElem?_map, List.getElem?_append_right (by omega), hl, Nat.sub_self, List.getElem?_replicate, if_pos (by omega)]
  rfl
theorem zarr_size {l : List St} {k : Nat} (hk : k ≤ l.length) : (zarr l k).size = l.length := by
  have hl := zk_length hk
  unfold zarr; simp; omega
theorem zarr_set {l : List St} {k : Nat} {s : St} (hs : l[k]? = some s) : (zarr l k).setIfInBounds k (.int .i64 (min (baseN s.op + sumAt (zk l k) s.args) 4097)) = zarr l (k + 1) := by
  have hk := (List.getElem?_eq_some_iff.1 hs).1
  have hl := zk_length (Nat.le_of_lt hk)
  unfold zarr
  rw [zk_succ hs]
  obtain ⟨m, hm⟩ : ∃ m, l.length - k = m + 1 := ⟨l.length - k - 1, by omega⟩
  rw [hm, show l.length - (k + 1) = m by omega, List.replicate_succ, List.setIfInBounds_toArray]
  congr 1
  rw [List.map_append, List.set_append_right _ _ (by simp; omega), List.length_map, hl, Nat.sub_self]
  simp
/-- What Tree answers. -/
def TreeEnd (w : World) (l : List St) (e : Ending) (w' : World) : Prop := Below w.heap.size w w' ∧
  if checkR l ≠ 0 then e = .returned (.tuple #[.agg #[.int .i64 0, .string ⟨#[]⟩, .int .i64 0, .slice none 0 0], errV (checkR l)])
  else if 4096 < (sizesR l).getD (l.length - 1) 0 then e = .returned (.tuple #[.agg #[.int .i64 0, .string ⟨#[]⟩, .int .i64 0, .slice none 0 0], errV 9])
  else ∃ cs, e = .returned (.tuple #[.agg cs.toArray, .nilIface]) ∧ NodeV w' (fun i => w.heap.size ≤ i ∧ i < w'.heap.size) (growR l (l.length - 1)) cs
def TrRel (w : World) (l : List St) (A : Option Addr) (c G : Nat) (f : Nat) (i : Value) (wr : World) : Prop := ∃ k : Nat, i = .int .i64 k ∧ k ≤ l.length ∧ l.length - k < f ∧ Hid (Blk wr G 3 (zarr l k)) ∧ Hid (Blk wr w.heap.size 51 #[.slice A l.length c]) ∧
  Hid (Blk wr (w.heap.size + 1) 59 #[.int .i64 0, .string ⟨#[]⟩, .int .i64 0, .slice none 0 0]) ∧ w.heap.size + 1 < G ∧ Hid (Below w.heap.size w wr)
def InRel (wo : World) (z args : List Int) (b : Int) (f : Nat) (i v : Value) (wr : World) : Prop := ∃ j : Nat, i = .int .i64 j ∧ j ≤ args.length ∧ args.length - j < f ∧ v = .int .i64 (b + sumAt z (args.take j)) ∧ wo = wr
set_option maxRecDepth 100000 in
set_option maxHeartbeats 8000000 in
theorem Tree_any (A : Option Addr) (c : Nat) (l : List St) (w : World) (hP : PlAt w (fun i => i < w.heap.size) A l) (hm : Modest l) :
    Calls Tryd.prog 22 #[.agg #[.slice A l.length c]] w (TreeEnd w l) := by
  have hn := hm.1
  obtain ⟨i0, hinf, hz0, hz1, hz2⟩ := info_parts infoInt
  have hmk : ∀ W : World, (Instr.makeSlice 54 (.int .i64 (l.length : Int)) (.int .i64 (l.length : Int))).run Tryd.prog W = .ok (.slice (some ⟨W.heap.size, 0, none⟩) l.length l.length) (W.alloc (.cells (zarr l 0) 3)) := fun W => by
    have h := run_make_rowN (P := Tryd.prog) 54 3 i0 (.int .i64 0) Tryd.underlying54 hinf hz0 .i64 .i64 l.length l.length (Nat.le_refl _) (by rw [hz2]; omega) (by omega) W
    rw [hz1, made_ints, ← zarr_zero] at h
    exact h
  have HMK := Lib.hid hmk
  have HP := Lib.hid hP
  have HM := Lib.hid hm
  obtain ⟨W0, hW0⟩ : ∃ W0, W0 = (w.alloc (.cells #[.slice A l.length c] 51)).alloc (.cells #[.int .i64 0, .string ⟨#[]⟩, .int .i64 0, .slice none 0 0] 59) := ⟨_, rfl⟩
  have hb0 : Below w.heap.size w W0 := by rw [hW0]; exact (below_alloc w _).alloc (by simp) _
  have hck := Check_any A c l W0 (hP.below hb0) hm
  have HX0 := Lib.hid (show Blk W0 w.heap.size 51 #[.slice A l.length c] by rw [hW0]; exact (Blk.new _ _ _).alloc _)
  have HR0 := Lib.hid (show Blk W0 (w.heap.size + 1) 59 #[.int .i64 0, .string ⟨#[]⟩, .int .i64 0, .slice none 0 0] by
    rw [hW0]
    have := Blk.new (w.alloc (.cells #[.slice A l.length c] 51)) 59 #[.int .i64 0, .string ⟨#[]⟩, .int .i64 0, .slice none 0 0]
    simpa using this)
  have HB0 := Lib.hid hb0
  rw [hW0] at hck
  have HCK := Lib.hid hck
  have HW0 := Lib.hid hW0
  clear hP hck hm hb0 hinf hz0 hz1 hz2 hmk hW0
  go_enter Tryd.func22, Tryd.ntmps22
  go_wp2_with fail
  refine HCK.out.mono ?_
  rintro e w1 ⟨rfl, hb1⟩
  rw [← HW0.out] at hb1
  have HB1 := Lib.hid (HB0.out.trans (hb1.mono HB0.out.size))
  have HX1 := Lib.hid (HX0.out.below hb1 HX0.out.lt)
  have HR1 := Lib.hid (HR0.out.below hb1 HR0.out.lt)
  clear hb1
  have s0 := HX1.out.cell 0
  simp only [List.getElem?_toArray, List.getElem?_cons_zero] at s0
  obtain ⟨r0, r1, r2, r3, f0, f1, f2, f3⟩ := blk4 HR1.out
  have hl0 := HX1.out.lt
  have hl1 := HR1.out.lt
  by_cases hE : checkR l = 0
  · have HE := Lib.hid hE
    have hv : errV (checkR l) = .nilIface := by rw [hE]; rfl
    have hmk := HMK.out
    rw [hv]
    clear hE hv
    go_wp2_with fail
    clear hmk s0 r0 r1 r2 r3 f0 f1 f2 f3
    go_loopg [25, 6, 7, 8, 10, 31, 32, 37, 43] (l.length + 1) (fun f i _ _ _ _ _ _ _ _ wr => TrRel w l A c w1.heap.size f i wr)
    case atStart => exact ⟨0, rfl, by omega, by omega, Lib.hid (Blk.new w1 _ _), Lib.hid (HX1.out.alloc _), Lib.hid (HR1.out.alloc _), hl1, Lib.hid (HB1.out.alloc (by omega) _)⟩
    case round =>
      obtain ⟨wo, rfl⟩ : ∃ wo : World, wo = wr := ⟨_, rfl⟩
      obtain ⟨k, rfl, hk, hkf, HG, HX, HR, hgl, HBW⟩ := hrel
      obtain ⟨f, rfl⟩ : ∃ f, gk = f + 1 := ⟨gk - 1, by omega⟩
      by_cases hlt : k < l.length
      · obtain ⟨s, hs⟩ : ∃ s, l[k]? = some s := ⟨l[k], List.getElem?_eq_getElem hlt⟩
        obtain ⟨b, ob, As, cs, rfl, hbF, hbl, x0, x1, x2, x3, x4, har⟩ := (HP.out.at_ HBW.out).step hs
        obtain ⟨o, ho⟩ := stepE_zero ((checkR_zero HE.out).2.2 k s hs)
        have hal : s.args.length ≤ 3 := by rw [ho.len]; exact opR_small ho.op
        have hbk := ho.back
        have hset := zarr_set hs
        have hbd := zk_bd l k
        have hbs := baseN_bd s.op
        have q0 : (k : Int) < (l.length : Int) := by omega
        have q1 : (0 : Int) ≤ (k : Int) := by omega
        have HS := Lib.hid hs
        have HAR := Lib.hid har
        have HBK := Lib.hid hbk
        have HSET := Lib.hid hset
        have HBD := Lib.hid hbd
        have HLT := HG.out.lt
        obtain ⟨op, args, num, text, ty⟩ := s
        dsimp only at x0 x1 x2 x3 x4 hal hbs HAR HBK HSET
        clear hs har ho hbk hset hbd
        -- WAYS
        by_cases d0 : op = [99, 111, 117, 110, 116]
        · subst d0
          go_wp2_with fail
          go_loopg [43, 8, 10] (args.length + 1) (fun f i v _ wr => InRel (wo.alloc (.cells #[.string ⟨#[99, 111, 117, 110, 116]⟩, .slice As args.length cs, .int .i64 num, .string ⟨text.toArray⟩, .int .i64 ty] 99)) (zk l k) args 2 f i v wr)
          case atStart => exact ⟨0, rfl, by omega, by omega, rfl, rfl⟩
          case round =>
            clear x0 x1 x2 x3 x4
            obtain ⟨j, rfl, hj, hjf, rfl, rfl⟩ := hrel
            obtain ⟨f2, rfl⟩ : ∃ f2, gk = f2 + 1 := ⟨gk - 1, by omega⟩
            have hsj := sumAt_bd HBD.out (args.take j)
            have hlj : (args.take j).length ≤ j := List.length_take_le _ _
            by_cases hjl : j < args.length
            · obtain ⟨a, ha⟩ : ∃ a, args[j]? = some a := ⟨args[j], List.getElem?_eq_getElem hjl⟩
              have hbk := HBK.out a (List.mem_of_getElem? ha)
              obtain ⟨m, rfl⟩ := natInt hbk.1
              obtain ⟨ba, oa, rfl, hba', hba, hca⟩ := RdF.int HAR.out ha
              have hwo := HBW.out.size
              have hba : ba < wo.heap.size := by have hb' : ba < w.heap.size := hba'; omega
              have hm : m < k := by omega
              have y1 := hca
              have y2 : wo.cell? ⟨w1.heap.size, m, none⟩ = some (.int .i64 ((zk l k).getD m 0)) := by rw [HG.out.cell]; exact zarr_get hk hm
              have hx : 0 ≤ (zk l k).getD m 0 ∧ (zk l k).getD m 0 ≤ 4097 := by
                rw [List.getD_eq_getElem?_getD]
                cases h : (zk l k)[m]? with
                | none => simp
                | some x => exact HBD.out x (List.mem_of_getElem? h)
              have htk : sumAt (zk l k) (args.take (j + 1)) = sumAt (zk l k) (args.take j) + (zk l k).getD m 0 := by rw [List.take_add_one, ha]; exact sumAt_snoc _ _ _
              have HTK := Lib.hid htk
              generalize (zk l k).getD m 0 = x at *
              generalize sumAt (zk l k) (args.take j) = sj at *
              have hj3 : j ≤ 3 := by omega
              have w1' := IntWalk.i64_in (2 + sj + x) (by omega)
              have p0 : (j : Int) < (args.length : Int) := by omega
              have p1 : (0 : Int) ≤ (j : Int) := by omega
              have p2 : (m : Int) < (l.length : Int) := by omega
              have p3 : (0 : Int) ≤ (m : Int) := by omega
              clear ha hbk hx htk hca
              go_wp2_with fail
              go_roundg f2
              case measure => omega
              case rel => exact ⟨j + 1, by go_num, by omega, by omega, by rw [HTK.out, ← Int.add_assoc], rfl⟩
            · have hjs : j = args.length := by omega
              subst hjs
              rw [List.take_length] at hsj ⊢
              have hset := HSET.out
              rw [show baseN [99, 111, 117, 110, 116] = 2 by rfl] at hset
              have HSET := Lib.hid hset
              have y2 : wo.cell? ⟨w1.heap.size, k, none⟩ = some (.int .i64 0) := by rw [HG.out.cell]; exact zarr_at hlt
              have y3 := HG.out.frozen k
              clear hset
              generalize hsm : sumAt (zk l k) args = sj at *
              go_wp2_with fail
              go_roundg f
              case measure => omega
              case rel =>
                have hwo := HBW.out.size
                refine ⟨k + 1, by go_num, by omega, by omega, Lib.hid ?_, Lib.hid ((HX.out.far (p := ⟨w1.heap.size, k, none⟩) (by show w.heap.size ≠ w1.heap.size; omega) _).alloc _), Lib.hid ((HR.out.far (p := ⟨w1.heap.size, k, none⟩) (by show w.heap.size + 1 ≠ w1.heap.size; omega) _).alloc _), hgl, Lib.hid ((HBW.out.setCell (p := ⟨w1.heap.size, k, none⟩) (by show w.heap.size ≤ w1.heap.size; omega) _).alloc (by simp; omega) _)⟩
                rw [← HSET.out]
                exact (HG.out.set_ k _).alloc _
        have e0 : (op == [99, 111, 117, 110, 116]) = false := by simpa using d0
        by_cases d1 : op = [104, 97, 115]
        · subst d1
          go_wp2_with fail
          go_loopg [43, 8, 10] (args.length + 1) (fun f i v _ wr => InRel (wo.alloc (.cells #[.string ⟨#[104, 97, 115]⟩, .slice As args.length cs, .int .i64 num, .string ⟨text.toArray⟩, .int .i64 ty] 99)) (zk l k) args 2 f i v wr)
          case atStart => exact ⟨0, rfl, by omega, by omega, rfl, rfl⟩
          case round =>
            clear x0 x1 x2 x3 x4
            obtain ⟨j, rfl, hj, hjf, rfl, rfl⟩ := hrel
            obtain ⟨f2, rfl⟩ : ∃ f2, gk = f2 + 1 := ⟨gk - 1, by omega⟩
            have hsj := sumAt_bd HBD.out (args.take j)
            have hlj : (args.take j).length ≤ j := List.length_take_le _ _
            by_cases hjl : j < args.length
            · obtain ⟨a, ha⟩ : ∃ a, args[j]? = some a := ⟨args[j], List.getElem?_eq_getElem hjl⟩
              have hbk := HBK.out a (List.mem_of_getElem? ha)
              obtain ⟨m, rfl⟩ := natInt hbk.1
              obtain ⟨ba, oa, rfl, hba', hba, hca⟩ := RdF.int HAR.out ha
              have hwo := HBW.out.size
              have hba : ba < wo.heap.size := by have hb' : ba < w.heap.size := hba'; omega
              have hm : m < k := by omega
              have y1 := hca
              have y2 : wo.cell? ⟨w1.heap.size, m, none⟩ = some (.int .i64 ((zk l k).getD m 0)) := by rw [HG.out.cell]; exact zarr_get hk hm
              have hx : 0 ≤ (zk l k).getD m 0 ∧ (zk l k).getD m 0 ≤ 4097 := by
                rw [List.getD_eq_getElem?_getD]
                cases h : (zk l k)[m]? with
                | none => simp
                | some x => exact HBD.out x (List.mem_of_getElem? h)
              have htk : sumAt (zk l k) (args.take (j + 1)) = sumAt (zk l k) (args.take j) + (zk l k).getD m 0 := by rw [List.take_add_one, ha]; exact sumAt_snoc _ _ _
              have HTK := Lib.hid htk
              generalize (zk l k).getD m 0 = x at *
              generalize sumAt (zk l k) (args.take j) = sj at *
              have hj3 : j ≤ 3 := by omega
              have w1' := IntWalk.i64_in (2 + sj + x) (by omega)
              have p0 : (j : Int) < (args.length : Int) := by omega
              have p1 : (0 : Int) ≤ (j : Int) := by omega
              have p2 : (m : Int) < (l.length : Int) := by omega
              have p3 : (0 : Int) ≤ (m : Int) := by omega
              clear ha hbk hx htk hca
              go_wp2_with fail
              go_roundg f2
              case measure => omega
              case rel => exact ⟨j + 1, by go_num, by omega, by omega, by rw [HTK.out, ← Int.add_assoc], rfl⟩
            · have hjs : j = args.length := by omega
              subst hjs
              rw [List.take_length] at hsj ⊢
              have hset := HSET.out
              rw [show baseN [104, 97, 115] = 2 by rfl] at hset
              have HSET := Lib.hid hset
              have y2 : wo.cell? ⟨w1.heap.size, k, none⟩ = some (.int .i64 0) := by rw [HG.out.cell]; exact zarr_at hlt
              have y3 := HG.out.frozen k
              clear hset
              generalize hsm : sumAt (zk l k) args = sj at *
              go_wp2_with fail
              go_roundg f
              case measure => omega
              case rel =>
                have hwo := HBW.out.size
                refine ⟨k + 1, by go_num, by omega, by omega, Lib.hid ?_, Lib.hid ((HX.out.far (p := ⟨w1.heap.size, k, none⟩) (by show w.heap.size ≠ w1.heap.size; omega) _).alloc _), Lib.hid ((HR.out.far (p := ⟨w1.heap.size, k, none⟩) (by show w.heap.size + 1 ≠ w1.heap.size; omega) _).alloc _), hgl, Lib.hid ((HBW.out.setCell (p := ⟨w1.heap.size, k, none⟩) (by show w.heap.size ≤ w1.heap.size; omega) _).alloc (by simp; omega) _)⟩
                rw [← HSET.out]
                exact (HG.out.set_ k _).alloc _
        have e1 : (op == [104, 97, 115]) = false := by simpa using d1
        by_cases d2 : op = [102, 105, 110, 100]
        · subst d2
          go_wp2_with fail
          go_loopg [43, 8, 10] (args.length + 1) (fun f i v _ wr => InRel (wo.alloc (.cells #[.string ⟨#[102, 105, 110, 100]⟩, .slice As args.length cs, .int .i64 num, .string ⟨text.toArray⟩, .int .i64 ty] 99)) (zk l k) args 2 f i v wr)
          case atStart => exact ⟨0, rfl, by omega, by omega, rfl, rfl⟩
          case round =>
            clear x0 x1 x2 x3 x4
            obtain ⟨j, rfl, hj, hjf, rfl, rfl⟩ := hrel
            obtain ⟨f2, rfl⟩ : ∃ f2, gk = f2 + 1 := ⟨gk - 1, by omega⟩
            have hsj := sumAt_bd HBD.out (args.take j)
            have hlj : (args.take j).length ≤ j := List.length_take_le _ _
            by_cases hjl : j < args.length
            · obtain ⟨a, ha⟩ : ∃ a, args[j]? = some a := ⟨args[j], List.getElem?_eq_getElem hjl⟩
              have hbk := HBK.out a (List.mem_of_getElem? ha)
              obtain ⟨m, rfl⟩ := natInt hbk.1
              obtain ⟨ba, oa, rfl, hba', hba, hca⟩ := RdF.int HAR.out ha
              have hwo := HBW.out.size
              have hba : ba < wo.heap.size := by have hb' : ba < w.heap.size := hba'; omega
              have hm : m < k := by omega
              have y1 := hca
              have y2 : wo.cell? ⟨w1.heap.size, m, none⟩ = some (.int .i64 ((zk l k).getD m 0)) := by rw [HG.out.cell]; exact zarr_get hk hm
              have hx : 0 ≤ (zk l k).getD m 0 ∧ (zk l k).getD m 0 ≤ 4097 := by
                rw [List.getD_eq_getElem?_getD]
                cases h : (zk l k)[m]? with
                | none => simp
                | some x => exact HBD.out x (List.mem_of_getElem? h)
              have htk : sumAt (zk l k) (args.take (j + 1)) = sumAt (zk l k) (args.take j) + (zk l k).getD m 0 := by rw [List.take_add_one, ha]; exact sumAt_snoc _ _ _
              have HTK := Lib.hid htk
              generalize (zk l k).getD m 0 = x at *
              generalize sumAt (zk l k) (args.take j) = sj at *
              have hj3 : j ≤ 3 := by omega
              have w1' := IntWalk.i64_in (2 + sj + x) (by omega)
              have p0 : (j : Int) < (args.length : Int) := by omega
              have p1 : (0 : Int) ≤ (j : Int) := by omega
              have p2 : (m : Int) < (l.length : Int) := by omega
              have p3 : (0 : Int) ≤ (m : Int) := by omega
              clear ha hbk hx htk hca
              go_wp2_with fail
              go_roundg f2
              case measure => omega
              case rel => exact ⟨j + 1, by go_num, by omega, by omega, by rw [HTK.out, ← Int.add_assoc], rfl⟩
            · have hjs : j = args.length := by omega
              subst hjs
              rw [List.take_length] at hsj ⊢
              have hset := HSET.out
              rw [show baseN [102, 105, 110, 100] = 2 by rfl] at hset
              have HSET := Lib.hid hset
              have y2 : wo.cell? ⟨w1.heap.size, k, none⟩ = some (.int .i64 0) := by rw [HG.out.cell]; exact zarr_at hlt
              have y3 := HG.out.frozen k
              clear hset
              generalize hsm : sumAt (zk l k) args = sj at *
              go_wp2_with fail
              go_roundg f
              case measure => omega
              case rel =>
                have hwo := HBW.out.size
                refine ⟨k + 1, by go_num, by omega, by omega, Lib.hid ?_, Lib.hid ((HX.out.far (p := ⟨w1.heap.size, k, none⟩) (by show w.heap.size ≠ w1.heap.size; omega) _).alloc _), Lib.hid ((HR.out.far (p := ⟨w1.heap.size, k, none⟩) (by show w.heap.size + 1 ≠ w1.heap.size; omega) _).alloc _), hgl, Lib.hid ((HBW.out.setCell (p := ⟨w1.heap.size, k, none⟩) (by show w.heap.size ≤ w1.heap.size; omega) _).alloc (by simp; omega) _)⟩
                rw [← HSET.out]
                exact (HG.out.set_ k _).alloc _
        have e2 : (op == [102, 105, 110, 100]) = false := by simpa using d2
        by_cases d3 : op = [108, 101, 110, 99, 117, 116]
        · subst d3
          go_wp2_with fail
          go_loopg [43, 8, 10] (args.length + 1) (fun f i v _ wr => InRel (wo.alloc (.cells #[.string ⟨#[108, 101, 110, 99, 117, 116]⟩, .slice As args.length cs, .int .i64 num, .string ⟨text.toArray⟩, .int .i64 ty] 99)) (zk l k) args 2 f i v wr)
          case atStart => exact ⟨0, rfl, by omega, by omega, rfl, rfl⟩
          case round =>
            clear x0 x1 x2 x3 x4
            obtain ⟨j, rfl, hj, hjf, rfl, rfl⟩ := hrel
            obtain ⟨f2, rfl⟩ : ∃ f2, gk = f2 + 1 := ⟨gk - 1, by omega⟩
            have hsj := sumAt_bd HBD.out (args.take j)
            have hlj : (args.take j).length ≤ j := List.length_take_le _ _
            by_cases hjl : j < args.length
            · obtain ⟨a, ha⟩ : ∃ a, args[j]? = some a := ⟨args[j], List.getElem?_eq_getElem hjl⟩
              have hbk := HBK.out a (List.mem_of_getElem? ha)
              obtain ⟨m, rfl⟩ := natInt hbk.1
              obtain ⟨ba, oa, rfl, hba', hba, hca⟩ := RdF.int HAR.out ha
              have hwo := HBW.out.size
              have hba : ba < wo.heap.size := by have hb' : ba < w.heap.size := hba'; omega
              have hm : m < k := by omega
              have y1 := hca
              have y2 : wo.cell? ⟨w1.heap.size, m, none⟩ = some (.int .i64 ((zk l k).getD m 0)) := by rw [HG.out.cell]; exact zarr_get hk hm
              have hx : 0 ≤ (zk l k).getD m 0 ∧ (zk l k).getD m 0 ≤ 4097 := by
                rw [List.getD_eq_getElem?_getD]
                cases h : (zk l k)[m]? with
                | none => simp
                | some x => exact HBD.out x (List.mem_of_getElem? h)
              have htk : sumAt (zk l k) (args.take (j + 1)) = sumAt (zk l k) (args.take j) + (zk l k).getD m 0 := by rw [List.take_add_one, ha]; exact sumAt_snoc _ _ _
              have HTK := Lib.hid htk
              generalize (zk l k).getD m 0 = x at *
              generalize sumAt (zk l k) (args.take j) = sj at *
              have hj3 : j ≤ 3 := by omega
              have w1' := IntWalk.i64_in (2 + sj + x) (by omega)
              have p0 : (j : Int) < (args.length : Int) := by omega
              have p1 : (0 : Int) ≤ (j : Int) := by omega
              have p2 : (m : Int) < (l.length : Int) := by omega
              have p3 : (0 : Int) ≤ (m : Int) := by omega
              clear ha hbk hx htk hca
              go_wp2_with fail
              go_roundg f2
              case measure => omega
              case rel => exact ⟨j + 1, by go_num, by omega, by omega, by rw [HTK.out, ← Int.add_assoc], rfl⟩
            · have hjs : j = args.length := by omega
              subst hjs
              rw [List.take_length] at hsj ⊢
              have hset := HSET.out
              rw [show baseN [108, 101, 110, 99, 117, 116] = 2 by rfl] at hset
              have HSET := Lib.hid hset
              have y2 : wo.cell? ⟨w1.heap.size, k, none⟩ = some (.int .i64 0) := by rw [HG.out.cell]; exact zarr_at hlt
              have y3 := HG.out.frozen k
              clear hset
              generalize hsm : sumAt (zk l k) args = sj at *
              go_wp2_with fail
              go_roundg f
              case measure => omega
              case rel =>
                have hwo := HBW.out.size
                refine ⟨k + 1, by go_num, by omega, by omega, Lib.hid ?_, Lib.hid ((HX.out.far (p := ⟨w1.heap.size, k, none⟩) (by show w.heap.size ≠ w1.heap.size; omega) _).alloc _), Lib.hid ((HR.out.far (p := ⟨w1.heap.size, k, none⟩) (by show w.heap.size + 1 ≠ w1.heap.size; omega) _).alloc _), hgl, Lib.hid ((HBW.out.setCell (p := ⟨w1.heap.size, k, none⟩) (by show w.heap.size ≤ w1.heap.size; omega) _).alloc (by simp; omega) _)⟩
                rw [← HSET.out]
                exact (HG.out.set_ k _).alloc _
        have e3 : (op == [108, 101, 110, 99, 117, 116]) = false := by simpa using d3
        by_cases d4 : op = [109, 97, 116, 99, 104, 101, 115]
        · subst d4
          go_wp2_with fail
          go_loopg [43, 8, 10] (args.length + 1) (fun f i v _ wr => InRel (wo.alloc (.cells #[.string ⟨#[109, 97, 116, 99, 104, 101, 115]⟩, .slice As args.length cs, .int .i64 num, .string ⟨text.toArray⟩, .int .i64 ty] 99)) (zk l k) args 3 f i v wr)
          case atStart => exact ⟨0, rfl, by omega, by omega, rfl, rfl⟩
          case round =>
            clear x0 x1 x2 x3 x4
            obtain ⟨j, rfl, hj, hjf, rfl, rfl⟩ := hrel
            obtain ⟨f2, rfl⟩ : ∃ f2, gk = f2 + 1 := ⟨gk - 1, by omega⟩
            have hsj := sumAt_bd HBD.out (args.take j)
            have hlj : (args.take j).length ≤ j := List.length_take_le _ _
            by_cases hjl : j < args.length
            · obtain ⟨a, ha⟩ : ∃ a, args[j]? = some a := ⟨args[j], List.getElem?_eq_getElem hjl⟩
              have hbk := HBK.out a (List.mem_of_getElem? ha)
              obtain ⟨m, rfl⟩ := natInt hbk.1
              obtain ⟨ba, oa, rfl, hba', hba, hca⟩ := RdF.int HAR.out ha
              have hwo := HBW.out.size
              have hba : ba < wo.heap.size := by have hb' : ba < w.heap.size := hba'; omega
              have hm : m < k := by omega
              have y1 := hca
              have y2 : wo.cell? ⟨w1.heap.size, m, none⟩ = some (.int .i64 ((zk l k).getD m 0)) := by rw [HG.out.cell]; exact zarr_get hk hm
              have hx : 0 ≤ (zk l k).getD m 0 ∧ (zk l k).getD m 0 ≤ 4097 := by
                rw [List.getD_eq_getElem?_getD]
                cases h : (zk l k)[m]? with
                | none => simp
                | some x => exact HBD.out x (List.mem_of_getElem? h)
              have htk : sumAt (zk l k) (args.take (j + 1)) = sumAt (zk l k) (args.take j) + (zk l k).getD m 0 := by rw [List.take_add_one, ha]; exact sumAt_snoc _ _ _
              have HTK := Lib.hid htk
              generalize (zk l k).getD m 0 = x at *
              generalize sumAt (zk l k) (args.take j) = sj at *
              have hj3 : j ≤ 3 := by omega
              have w1' := IntWalk.i64_in (3 + sj + x) (by omega)
              have p0 : (j : Int) < (args.length : Int) := by omega
              have p1 : (0 : Int) ≤ (j : Int) := by omega
              have p2 : (m : Int) < (l.length : Int) := by omega
              have p3 : (0 : Int) ≤ (m : Int) := by omega
              clear ha hbk hx htk hca
              go_wp2_with fail
              go_roundg f2
              case measure => omega
              case rel => exact ⟨j + 1, by go_num, by omega, by omega, by rw [HTK.out, ← Int.add_assoc], rfl⟩
            · have hjs : j = args.length := by omega
              subst hjs
              rw [List.take_length] at hsj ⊢
              have hset := HSET.out
              rw [show baseN [109, 97, 116, 99, 104, 101, 115] = 3 by rfl] at hset
              have HSET := Lib.hid hset
              have y2 : wo.cell? ⟨w1.heap.size, k, none⟩ = some (.int .i64 0) := by rw [HG.out.cell]; exact zarr_at hlt
              have y3 := HG.out.frozen k
              clear hset
              generalize hsm : sumAt (zk l k) args = sj at *
              go_wp2_with fail
              go_roundg f
              case measure => omega
              case rel =>
                have hwo := HBW.out.size
                refine ⟨k + 1, by go_num, by omega, by omega, Lib.hid ?_, Lib.hid ((HX.out.far (p := ⟨w1.heap.size, k, none⟩) (by show w.heap.size ≠ w1.heap.size; omega) _).alloc _), Lib.hid ((HR.out.far (p := ⟨w1.heap.size, k, none⟩) (by show w.heap.size + 1 ≠ w1.heap.size; omega) _).alloc _), hgl, Lib.hid ((HBW.out.setCell (p := ⟨w1.heap.size, k, none⟩) (by show w.heap.size ≤ w1.heap.size; omega) _).alloc (by simp; omega) _)⟩
                rw [← HSET.out]
                exact (HG.out.set_ k _).alloc _
        have e4 : (op == [109, 97, 116, 99, 104, 101, 115]) = false := by simpa using d4
        by_cases d5 : op = [102, 105, 114, 115, 116, 102, 105, 110, 100]
        · subst d5
          go_wp2_with fail
          go_loopg [43, 8, 10] (args.length + 1) (fun f i v _ wr => InRel (wo.alloc (.cells #[.string ⟨#[102, 105, 114, 115, 116, 102, 105, 110, 100]⟩, .slice As args.length cs, .int .i64 num, .string ⟨text.toArray⟩, .int .i64 ty] 99)) (zk l k) args 3 f i v wr)
          case atStart => exact ⟨0, rfl, by omega, by omega, rfl, rfl⟩
          case round =>
            clear x0 x1 x2 x3 x4
            obtain ⟨j, rfl, hj, hjf, rfl, rfl⟩ := hrel
            obtain ⟨f2, rfl⟩ : ∃ f2, gk = f2 + 1 := ⟨gk - 1, by omega⟩
            have hsj := sumAt_bd HBD.out (args.take j)
            have hlj : (args.take j).length ≤ j := List.length_take_le _ _
            by_cases hjl : j < args.length
            · obtain ⟨a, ha⟩ : ∃ a, args[j]? = some a := ⟨args[j], List.getElem?_eq_getElem hjl⟩
              have hbk := HBK.out a (List.mem_of_getElem? ha)
              obtain ⟨m, rfl⟩ := natInt hbk.1
              obtain ⟨ba, oa, rfl, hba', hba, hca⟩ := RdF.int HAR.out ha
              have hwo := HBW.out.size
              have hba : ba < wo.heap.size := by have hb' : ba < w.heap.size := hba'; omega
              have hm : m < k := by omega
              have y1 := hca
              have y2 : wo.cell? ⟨w1.heap.size, m, none⟩ = some (.int .i64 ((zk l k).getD m 0)) := by rw [HG.out.cell]; exact zarr_get hk hm
              have hx : 0 ≤ (zk l k).getD m 0 ∧ (zk l k).getD m 0 ≤ 4097 := by
                rw [List.getD_eq_getElem?_getD]
                cases h : (zk l k)[m]? with
                | none => simp
                | some x => exact HBD.out x (List.mem_of_getElem? h)
              have htk : sumAt (zk l k) (args.take (j + 1)) = sumAt (zk l k) (args.take j) + (zk l k).getD m 0 := by rw [List.take_add_one, ha]; exact sumAt_snoc _ _ _
              have HTK := Lib.hid htk
              generalize (zk l k).getD m 0 = x at *
              generalize sumAt (zk l k) (args.take j) = sj at *
              have hj3 : j ≤ 3 := by omega
              have w1' := IntWalk.i64_in (3 + sj + x) (by omega)
              have p0 : (j : Int) < (args.length : Int) := by omega
              have p1 : (0 : Int) ≤ (j : Int) := by omega
              have p2 : (m : Int) < (l.length : Int) := by omega
              have p3 : (0 : Int) ≤ (m : Int) := by omega
              clear ha hbk hx htk hca
              go_wp2_with fail
              go_roundg f2
              case measure => omega
              case rel => exact ⟨j + 1, by go_num, by omega, by omega, by rw [HTK.out, ← Int.add_assoc], rfl⟩
            · have hjs : j = args.length := by omega
              subst hjs
              rw [List.take_length] at hsj ⊢
              have hset := HSET.out
              rw [show baseN [102, 105, 114, 115, 116, 102, 105, 110, 100] = 3 by rfl] at hset
              have HSET := Lib.hid hset
              have y2 : wo.cell? ⟨w1.heap.size, k, none⟩ = some (.int .i64 0) := by rw [HG.out.cell]; exact zarr_at hlt
              have y3 := HG.out.frozen k
              clear hset
              generalize hsm : sumAt (zk l k) args = sj at *
              go_wp2_with fail
              go_roundg f
              case measure => omega
              case rel =>
                have hwo := HBW.out.size
                refine ⟨k + 1, by go_num, by omega, by omega, Lib.hid ?_, Lib.hid ((HX.out.far (p := ⟨w1.heap.size, k, none⟩) (by show w.heap.size ≠ w1.heap.size; omega) _).alloc _), Lib.hid ((HR.out.far (p := ⟨w1.heap.size, k, none⟩) (by show w.heap.size + 1 ≠ w1.heap.size; omega) _).alloc _), hgl, Lib.hid ((HBW.out.setCell (p := ⟨w1.heap.size, k, none⟩) (by show w.heap.size ≤ w1.heap.size; omega) _).alloc (by simp; omega) _)⟩
                rw [← HSET.out]
                exact (HG.out.set_ k _).alloc _
        have e5 : (op == [102, 105, 114, 115, 116, 102, 105, 110, 100]) = false := by simpa using d5
        have HB1' := Lib.hid (show baseN op = 1 by
          unfold baseN
          rw [if_neg (show ¬ (op = nCount ∨ op = nHas ∨ op = nFind ∨ op = nLencut) from fun h => h.elim d0 (fun h => h.elim d1 (fun h => h.elim d2 d3))), if_neg (show ¬ (op = nMatches ∨ op = nFirstfind) from fun h => h.elim d4 d5)])
        clear d0 d1 d2 d3 d4 d5
        go_wp2_with fail
        go_loopg [43, 8, 10] (args.length + 1) (fun f i v _ wr => InRel (wo.alloc (.cells #[.string ⟨op.toArray⟩, .slice As args.length cs, .int .i64 num, .string ⟨text.toArray⟩, .int .i64 ty] 99)) (zk l k) args 1 f i v wr)
        case atStart => exact ⟨0, rfl, by omega, by omega, rfl, rfl⟩
        case round =>
          clear x0 x1 x2 x3 x4
          obtain ⟨j, rfl, hj, hjf, rfl, rfl⟩ := hrel
          obtain ⟨f2, rfl⟩ : ∃ f2, gk = f2 + 1 := ⟨gk - 1, by omega⟩
          have hsj := sumAt_bd HBD.out (args.take j)
          have hlj : (args.take j).length ≤ j := List.length_take_le _ _
          by_cases hjl : j < args.length
          · obtain ⟨a, ha⟩ : ∃ a, args[j]? = some a := ⟨args[j], List.getElem?_eq_getElem hjl⟩
            have hbk := HBK.out a (List.mem_of_getElem? ha)
            obtain ⟨m, rfl⟩ := natInt hbk.1
            obtain ⟨ba, oa, rfl, hba', hba, hca⟩ := RdF.int HAR.out ha
            have hwo := HBW.out.size
            have hba : ba < wo.heap.size := by have hb' : ba < w.heap.size := hba'; omega
            have hm : m < k := by omega
            have y1 := hca
            have y2 : wo.cell? ⟨w1.heap.size, m, none⟩ = some (.int .i64 ((zk l k).getD m 0)) := by rw [HG.out.cell]; exact zarr_get hk hm
            have hx : 0 ≤ (zk l k).getD m 0 ∧ (zk l k).getD m 0 ≤ 4097 := by
              rw [List.getD_eq_getElem?_getD]
              cases h : (zk l k)[m]? with
              | none => simp
              | some x => exact HBD.out x (List.mem_of_getElem? h)
            have htk : sumAt (zk l k) (args.take (j + 1)) = sumAt (zk l k) (args.take j) + (zk l k).getD m 0 := by rw [List.take_add_one, ha]; exact sumAt_snoc _ _ _
            have HTK := Lib.hid htk
            generalize (zk l k).getD m 0 = x at *
            generalize sumAt (zk l k) (args.take j) = sj at *
            have hj3 : j ≤ 3 := by omega
            have w1' := IntWalk.i64_in (1 + sj + x) (by omega)
            have p0 : (j : Int) < (args.length : Int) := by omega
            have p1 : (0 : Int) ≤ (j : Int) := by omega
            have p2 : (m : Int) < (l.length : Int) := by omega
            have p3 : (0 : Int) ≤ (m : Int) := by omega
            clear ha hbk hx htk hca
            go_wp2_with fail
            go_roundg f2
            case measure => omega
            case rel => exact ⟨j + 1, by go_num, by omega, by omega, by rw [HTK.out, ← Int.add_assoc], rfl⟩
          · have hjs : j = args.length := by omega
            subst hjs
            rw [List.take_length] at hsj ⊢
            have hset := HSET.out
            rw [HB1'.out] at hset
            have HSET := Lib.hid hset
            have y2 : wo.cell? ⟨w1.heap.size, k, none⟩ = some (.int .i64 0) := by rw [HG.out.cell]; exact zarr_at hlt
            have y3 := HG.out.frozen k
            clear hset
            generalize hsm : sumAt (zk l k) args = sj at *
            go_wp2_with fail
            go_roundg f
            case measure => omega
            case rel =>
              have hwo := HBW.out.size
              refine ⟨k + 1, by go_num, by omega, by omega, Lib.hid ?_, Lib.hid ((HX.out.far (p := ⟨w1.heap.size, k, none⟩) (by show w.heap.size ≠ w1.heap.size; omega) _).alloc _), Lib.hid ((HR.out.far (p := ⟨w1.heap.size, k, none⟩) (by show w.heap.size + 1 ≠ w1.heap.size; omega) _).alloc _), hgl, Lib.hid ((HBW.out.setCell (p := ⟨w1.heap.size, k, none⟩) (by show w.heap.size ≤ w1.heap.size; omega) _).alloc (by simp; omega) _)⟩
              rw [← HSET.out]
              exact (HG.out.set_ k _).alloc _
      · have hks : k = l.length := by omega
        subst hks
        have hz := checkR_zero HE.out
        obtain ⟨N, hN⟩ : ∃ N, l.length = N + 1 := ⟨l.length - 1, by have := hz.1; omega⟩
        have hcl : wo.cell? ⟨w1.heap.size, N, none⟩ = some (.int .i64 ((sizesR l).getD (l.length - 1) 0)) := by
          rw [HG.out.cell, zarr_get (Nat.le_refl _) (by omega), zk_all, hN]
          rfl
        have hwr : IntKind.i64.wrap ((l.length : Int) - 1) = (N : Int) := by rw [hN, show ((N + 1 : Nat) : Int) - 1 = (N : Int) by omega]; exact IntWalk.i64_in _ (by omega)
        have hw2 : (l.length : Int) - 1 = (N : Int) := by omega
        have hg := grow_any A c l HE.out HM.out N wo (by omega) (HP.out.keep (fun i (hi : i < _) _ => HBW.out.block i hi) HBW.out.size (fun _ hi _ => Nat.lt_of_lt_of_le hi HBW.out.size))
        have hN1 : N = l.length - 1 := by omega
        have HN1 := Lib.hid hN1
        have HGR := Lib.hid hg
        have p0 : (N : Int) < (l.length : Int) := by omega
        have p1 : (0 : Int) ≤ (N : Int) := by omega
        have s0 := HX.out.cell 0
        simp only [List.getElem?_toArray, List.getElem?_cons_zero] at s0
        obtain ⟨r0, r1, r2, r3, f0, f1, f2, f3⟩ := blk4 HR.out
        obtain ⟨Z, hZ⟩ : ∃ Z, Z = (sizesR l).getD (l.length - 1) 0 := ⟨_, rfl⟩
        rw [← hZ] at hcl
        have HZ := Lib.hid hZ
        have hgo : w.heap.size ≤ w.heap.size + 1 := by omega
        clear hN hz hN1 hZ hg hlt hk hkf
        by_cases hbig : 4096 < Z
        · have e1 : decide (4096 < Z) = true := decide_eq_true hbig
          have HBG := Lib.hid hbig
          clear hbig
          go_wp2_with fail
          refine bodyPost_ret (v := .tuple #[.agg #[.int .i64 0, .string ⟨#[]⟩, .int .i64 0, .slice none 0 0], .iface 41 (.int .i64 9)]) (by simp [results, Tryd.results22, go_sem, r0, r1, r2, r3]) rfl ?_
          refine ⟨(((HBW.out.setCell (p := ⟨w.heap.size + 1, 0, none⟩) hgo _).setCell (p := ⟨w.heap.size + 1, 1, none⟩) hgo _).setCell (p := ⟨w.heap.size + 1, 2, none⟩) hgo _).setCell (p := ⟨w.heap.size + 1, 3, none⟩) hgo _, ?_⟩
          rw [if_neg (by rw [HE.out]; decide), ← HZ.out, if_pos HBG.out]
          rfl
        · have e1 : decide (4096 < Z) = false := decide_eq_false hbig
          have HBG := Lib.hid hbig
          clear hbig
          go_wp2_with fail
          refine HGR.out.mono ?_
          rintro e w4 ⟨cs4, rfl, hn4, hb4⟩
          obtain ⟨k1, t1, m1, A1, n1, c1, rfl⟩ := hn4.form
          have HR4 := HR.out.below hb4 HR.out.lt
          have hwo := HBW.out.size
          have HB4 := Lib.hid (HBW.out.trans (hb4.mono hwo))
          have HN4 := Lib.hid hn4
          have hlr := HR.out.lt
          clear r0 r1 r2 r3 f0 f1 f2 f3 hn4 hb4
          obtain ⟨r0, r1, r2, r3, f0, f1, f2, f3⟩ := blk4 HR4
          clear HR4
          go_wp2_with fail
          refine bodyPost_ret (v := .tuple #[.agg #[.int .i64 k1, .string t1, .int .i64 m1, .slice A1 n1 c1], .nilIface]) (by simp [results, Tryd.results22, go_sem, r0, r1, r2, r3]) rfl ?_
          refine ⟨(((HB4.out.setCell (p := ⟨w.heap.size + 1, 0, none⟩) hgo _).setCell (p := ⟨w.heap.size + 1, 1, none⟩) hgo _).setCell (p := ⟨w.heap.size + 1, 2, none⟩) hgo _).setCell (p := ⟨w.heap.size + 1, 3, none⟩) hgo _, ?_⟩
          rw [if_neg (by rw [HE.out]; decide), ← HZ.out, if_neg (by have := HBG.out; omega)]
          refine ⟨_, rfl, ?_⟩
          rw [← HN1.out]
          exact HN4.out.keep (fun i hi _ => four_old (g := w.heap.size + 1) (by have := hi.1; omega)) (fun i hi _ => ⟨by have := hi.1; omega, by simp; exact hi.2⟩)
  · have hv : errV (checkR l) = .iface 41 (.int .i64 (checkR l)) := if_neg hE
    have HE := Lib.hid hE
    have HV := Lib.hid hv
    rw [hv]
    generalize hq : checkR l = q at *
    have HQ := Lib.hid hq
    clear hE hv hq
    go_wp2_with fail
    refine bodyPost_ret (v := .tuple #[.agg #[.int .i64 0, .string ⟨#[]⟩, .int .i64 0, .slice none 0 0], .iface 41 (.int .i64 q)]) (by simp [results, Tryd.results22, go_sem, r0, r1, r2, r3]) rfl ?_
    have h1 := HB1.out
    have hg : w.heap.size ≤ w.heap.size + 1 := by omega
    refine ⟨(((h1.setCell (p := ⟨w.heap.size + 1, 0, none⟩) hg _).setCell (p := ⟨w.heap.size + 1, 1, none⟩) hg _).setCell (p := ⟨w.heap.size + 1, 2, none⟩) hg _).setCell (p := ⟨w.heap.size + 1, 3, none⟩) hg _, ?_⟩
    rw [HQ.out, if_pos HE.out, HV.out]
end Go.Proofs.YtoegklpomlhneaaDoor
