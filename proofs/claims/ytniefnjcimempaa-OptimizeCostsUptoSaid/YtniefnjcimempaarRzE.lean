/- The key of optimize.share: a struct of two texts, an array of three numbers and a number. The walk of optimize.share, where the steps' keys are different. -/
import Derived.Test.YtniefnjcimempaarRb
import Derived.Test.YtniefnjcimempaaProg
import Derived.Test.YtniefnjcimempaarOrA
import Derived.Laws.CopyOwn
import Derived.Deep.RegionLaw
import Derived.Deep.Cut
import Derived.Maps.Own
namespace Go.Proofs.Ytniefnjcimempaa
open Go.RowKit
structure KeyS where
  op : List UInt8
  text : List UInt8
  a : Int
  b : Int
  c : Int
  num : Int
deriving DecidableEq
def encK (k : KeyS) : Value := .agg #[.string ⟨k.op.toArray⟩, .string ⟨k.text.toArray⟩, .int .i64 k.a, .int .i64 k.b, .int .i64 k.c, .int .i64 k.num]
theorem keyU : (Try.prog.underlying 133).map (fun d => match d with | .struct fs => fs.toList.map (fun f => (decide (f.name = "_"), f.type, f.offset)) | _ => []) = some [(false, 9, 0), (false, 9, 1), (false, 131, 2), (false, 3, 5)] := by kernel_rfl
theorem arrU : Try.prog.underlying 131 = some (.array 3 3) := by kernel_rfl
set_option maxRecDepth 100000 in
theorem keyF : ∃ f1 f2 f3 f4 : Field, Try.prog.underlying 133 = some (.struct #[f1, f2, f3, f4]) ∧ (f1.name ≠ "_" ∧ f1.type = 9 ∧ f1.offset = 0) ∧ (f2.name ≠ "_" ∧ f2.type = 9 ∧ f2.offset = 1) ∧ (f3.name ≠ "_" ∧ f3.type = 131 ∧ f3.offset = 2) ∧ (f4.name ≠ "_" ∧ f4.type = 3 ∧ f4.offset = 5) := by
  have h := keyU
  cases hd : Try.prog.underlying 133 with
  | none => rw [hd] at h; cases h
  | some d =>
    rw [hd] at h
    simp only [Option.map_some, Option.some.injEq] at h
    cases d <;> simp only [reduceCtorEq] at h
    rename_i fs
    obtain ⟨fs⟩ := fs
    match fs, h with
    | [f1, f2, f3, f4], h =>
      simp at h
      exact ⟨f1, f2, f3, f4, rfl, ⟨h.1.1, h.1.2⟩, ⟨h.2.1.1, h.2.1.2⟩, ⟨h.2.2.1.1, h.2.2.1.2⟩, ⟨h.2.2.2.1, h.2.2.2.2⟩⟩
theorem part_s0 (a b c d e f : Value) (w : World) : (part 9 #[a, b, c, d, e, f] 0).run Try.prog w = .ok a w := by kernel_rfl
theorem part_s1 (a b c d e f : Value) (w : World) : (part 9 #[a, b, c, d, e, f] 1).run Try.prog w = .ok b w := by kernel_rfl
theorem part_a2 (a b c d e f : Value) (w : World) : (part 131 #[a, b, c, d, e, f] 2).run Try.prog w = .ok (.agg #[c, d, e]) w := by kernel_rfl
theorem part_n5 (a b c d e f : Value) (w : World) : (part 3 #[a, b, c, d, e, f] 5).run Try.prog w = .ok f w := by kernel_rfl
theorem part_i0 (a b c : Value) (w : World) : (part 3 #[a, b, c] 0).run Try.prog w = .ok a w := by kernel_rfl
theorem part_i1 (a b c : Value) (w : World) : (part 3 #[a, b, c] 1).run Try.prog w = .ok b w := by kernel_rfl
theorem part_i2 (a b c : Value) (w : World) : (part 3 #[a, b, c] 2).run Try.prog w = .ok c w := by kernel_rfl
theorem eq_str (d : Nat) (a b : ByteArray) (w : World) : (Op.equalIn (d + 1) 9 (.string a) (.string b)).run Try.prog w = .ok (a == b) w := by
  rw [Op.equalIn]; simp [run_underlying Try.underlying9, Sem.run_bind, Result.andThen]
theorem eq_int (d : Nat) (a b : Int) (w : World) : (Op.equalIn (d + 1) 3 (.int .i64 a) (.int .i64 b)).run Try.prog w = .ok (a == b) w := by
  rw [Op.equalIn]; simp [run_underlying Try.underlying3, Sem.run_bind, Result.andThen]
theorem eq_arr (d : Nat) (a b c x y z : Int) (w : World) : (Op.equalIn (d + 1 + 1) 131 (.agg #[.int .i64 a, .int .i64 b, .int .i64 c]) (.agg #[.int .i64 x, .int .i64 y, .int .i64 z])).run Try.prog w = .ok (a == x && b == y && c == z) w := by
  rw [Op.equalIn]
  simp [run_underlying arrU, Sem.run_bind, Result.andThen]
  rw [show List.range' 0 3 = [0, 1, 2] from rfl]
  by_cases h1 : a = x <;> by_cases h2 : b = y <;> by_cases h3 : c = z <;> simp [h1, h2, h3, Result.andThen, Sem.run_bind, part_i0, part_i1, part_i2, eq_int]
theorem bytes_eq (a b : List UInt8) : ((⟨a.toArray⟩ : ByteArray) == ⟨b.toArray⟩) = decide (a = b) := by
  show (a.toArray == b.toArray) = _
  by_cases h : a = b
  · subst h; simp
  · simp [h]
theorem key_keyEq (w : World) : KeyEq Try.prog 133 encK w (fun _ => True) where
  check := fun k em _ => by
    have hs : ∀ (n : Nat) (a : ByteArray), (Instr.checkKey em (n + 1) 9 (.string a)).run Try.prog w = .ok () w := fun n a => by
      rw [Instr.checkKey]; simp [run_underlying Try.underlying9, Sem.run_bind, Result.andThen]
    have hi : ∀ (n : Nat) (a : Int), (Instr.checkKey em (n + 1) 3 (.int .i64 a)).run Try.prog w = .ok () w := fun n a => by
      rw [Instr.checkKey]; simp [run_underlying Try.underlying3, Sem.run_bind, Result.andThen]
    have ha : ∀ (n : Nat) (a b c : Int), (Instr.checkKey em (n + 1 + 1) 131 (.agg #[.int .i64 a, .int .i64 b, .int .i64 c])).run Try.prog w = .ok () w := fun n a b c => by
      rw [Instr.checkKey]
      simp [run_underlying arrU, Sem.run_bind, Result.andThen]
      rw [show List.range' 0 3 = [0, 1, 2] from rfl]
      simp [Result.andThen, Sem.run_bind, part_i0, part_i1, part_i2, hi]
    have h : ∀ n : Nat, (Instr.checkKey em (n + 1 + 1 + 1) 133 (encK k)).run Try.prog w = .ok () w := fun n => by
      obtain ⟨f1, f2, f3, f4, hu, ⟨a1, a2, a3⟩, ⟨b1, b2, b3⟩, ⟨c1, c2, c3⟩, ⟨d1, d2, d3⟩⟩ := keyF
      unfold encK
      rw [Instr.checkKey]
      simp [run_underlying hu, a1, a2, a3, b1, b2, b3, c1, c2, c3, d1, d2, d3, part_s0, part_s1, part_a2, part_n5, hs, hi, ha, Sem.run_bind, Result.andThen]
    exact h 9997
  find := fun k es _ => by
    obtain ⟨f1, f2, f3, f4, hu, _⟩ := keyF
    cases es with
    | nil => simp [Instr.findKey, run_underlying hu, Instr.findNow, Instr.findAsking]
    | cons e es => simp [Instr.findKey, run_underlying hu, Instr.findNow, Instr.sameNow]
  eq := fun a b _ _ => by
    obtain ⟨f1, f2, f3, f4, hu, ⟨a1, a2, a3⟩, ⟨b1, b2, b3⟩, ⟨c1, c2, c3⟩, ⟨d1, d2, d3⟩⟩ := keyF
    obtain ⟨x1, x2, x3, x4, x5, x6⟩ := a
    obtain ⟨y1, y2, y3, y4, y5, y6⟩ := b
    have h : ∀ d : Nat, (Op.equalIn (d + 1 + 1 + 1) 133 (encK ⟨x1, x2, x3, x4, x5, x6⟩) (encK ⟨y1, y2, y3, y4, y5, y6⟩)).run Try.prog w = .ok (decide ((⟨x1, x2, x3, x4, x5, x6⟩ : KeyS) = ⟨y1, y2, y3, y4, y5, y6⟩)) w := fun d => by
      unfold encK
      rw [Op.equalIn]
      simp [run_underlying hu, a1, a2, a3, b1, b2, b3, c1, c2, c3, d1, d2, d3, part_s0, eq_str, bytes_eq, Sem.run_bind, Result.andThen]
      by_cases h1 : x1 = y1 <;> by_cases h2 : x2 = y2 <;> by_cases h3 : x3 = y3 <;> by_cases h4 : x4 = y4 <;> by_cases h5 : x5 = y5 <;> by_cases h6 : x6 = y6 <;>
        simp [h1, h2, h3, h4, h5, h6, part_s1, part_a2, part_n5, eq_str, eq_arr, eq_int, bytes_eq, Sem.run_bind, Result.andThen]
    exact h 9997
  bits := fun k _ => by
    have h : ∀ n : Nat, Instr.sameBits (n + 1) (encK k) (encK k) = true := fun n => by unfold encK; cases n <;> simp [Instr.sameBits, bytes_eq]
    exact h 9999
end Go.Proofs.Ytniefnjcimempaa
namespace Go.Proofs.Ytniefnjcimempaa
open Go.RowKit
def StepAt (w : World) (gs i : Nat) (k : KeyS) : Prop := ∃ (As : Option Addr) (c : Nat) (args : List Int) (ty : Int), args.length ≤ 3 ∧ k.a = args.getD 0 0 ∧ k.b = args.getD 1 0 ∧ k.c = args.getD 2 0 ∧ gs < w.heap.size ∧
  w.cell? ⟨gs, i * 5, none⟩ = some (.string ⟨k.op.toArray⟩) ∧ w.cell? ⟨gs, i * 5 + 1, none⟩ = some (.slice As args.length c) ∧ w.cell? ⟨gs, i * 5 + 2, none⟩ = some (.int .i64 k.num) ∧ w.cell? ⟨gs, i * 5 + 3, none⟩ = some (.string ⟨k.text.toArray⟩) ∧ w.cell? ⟨gs, i * 5 + 4, none⟩ = some (.int .i64 ty) ∧
  Reads w w.heap.size 1 As args.length (args.map (Value.int .i64))
theorem StepAt.below {w w' : World} {gs i : Nat} {k : KeyS} (h : StepAt w gs i k) (hb : Below w.heap.size w w') : StepAt w' gs i k := by
  obtain ⟨As, c, args, ty, h0, h1, h2, h3, hl, x0, x1, x2, x3, x4, hr⟩ := h
  have hc : ∀ j, w'.cell? ⟨gs, j, none⟩ = w.cell? ⟨gs, j, none⟩ := fun j => hb.cell (p := ⟨gs, j, none⟩) hl
  exact ⟨As, c, args, ty, h0, h1, h2, h3, Nat.lt_of_lt_of_le hl hb.size, (hc _).trans x0, (hc _).trans x1, (hc _).trans x2, (hc _).trans x3, (hc _).trans x4, (hr.below hb).more hb.size⟩
theorem key_splice {op text : List UInt8} {num : Int} {args : List Int} {k : KeyS} (h3 : args.length ≤ 3) (ho : k.op = op) (ht : k.text = text) (hn : k.num = num) (ha : k.a = args.getD 0 0) (hb : k.b = args.getD 1 0) (hc : k.c = args.getD 2 0) :
    splice [.string ⟨op.toArray⟩, .string ⟨text.toArray⟩, .int .i64 0, .int .i64 0, .int .i64 0, .int .i64 num] 2 (args.map (Value.int .i64)) = [.string ⟨k.op.toArray⟩, .string ⟨k.text.toArray⟩, .int .i64 k.a, .int .i64 k.b, .int .i64 k.c, .int .i64 k.num] := by
  subst ho ht hn
  rw [ha, hb, hc]
  unfold splice
  match args, h3 with
  | [], _ => rfl
  | [x], _ => rfl
  | [x, y], _ => rfl
  | [x, y, z], _ => rfl
theorem look_none {κ : Type} [DecidableEq κ] {k : κ} : ∀ {l : List (κ × Value)}, (∀ p ∈ l, p.1 ≠ k) → lookL l k = none
  | [], _ => rfl
  | p :: l, h => by
    unfold lookL
    rw [if_neg (h p (List.mem_cons_self ..))]
    exact look_none fun q hq => h q (List.mem_cons_of_mem _ hq)
def ShRel (w : World) (mb : Nat) (ks : List KeyS) (f : Nat) (i : Value) (wr : World) : Prop := ∃ (k : Nat) (l : List (KeyS × Value)), i = .int .i64 k ∧ k ≤ ks.length ∧ ks.length - k < f ∧ Hid (MapIs wr mb encK l) ∧ Hid (∀ p ∈ l, ∃ j, j < k ∧ ks[j]? = some p.1) ∧ Hid (Below w.heap.size w wr) ∧ mb < wr.heap.size
set_option maxRecDepth 100000 in
set_option maxHeartbeats 4000000 in
theorem share_none (g gs cap : Nat) (ks : List KeyS) (hnd : ∀ j k, j < k → k < ks.length → ks[j]? ≠ ks[k]?) (hn : ks.length ≤ 100000) (w : World) (hgl : g < w.heap.size) (hg : w.cell? ⟨g, 0, none⟩ = some (.slice (some ⟨gs, 0, none⟩) ks.length cap))
    (hst : ∀ i k, ks[i]? = some k → StepAt w gs i k) :
    Calls Try.prog 55 #[.pointer (some ⟨g, 0, none⟩)] w fun e w' => e = .returned (.bool false) ∧ Below w.heap.size w w' := by
  have HST := Lib.hid hst
  have HND := Lib.hid hnd
  have hmm : ∀ (W : World), (Instr.makeMap 130 none).run Try.prog W = .ok (.map (some W.heap.size)) (W.alloc (.map #[] 0)) := fun W => by
    simp [Instr.makeMap]
  have HMM := Lib.hid hmm
  have hg1 : (w.alloc (.map #[] 0)).cell? ⟨g, 0, none⟩ = some (.slice (some ⟨gs, 0, none⟩) ks.length cap) := (World.cell?_alloc_lt w _ _ hgl).trans hg
  clear hst hnd hg
  go_enter Try.func55, Try.ntmps55
  go_wp2_with fail
  clear hmm hg1
  go_loopg [4, 5, 6, 7, 8, 15] (ks.length + 1) (fun f _ _ _ _ _ i wr => ShRel w w.heap.size ks f i wr)
  case atStart => exact ⟨0, [], rfl, by omega, by omega, Lib.hid (MapIs.new w encK 0), Lib.hid (fun p hp => by cases hp), Lib.hid ((Below.refl _ _).alloc (Nat.le_refl _) _), by simp⟩
  case round =>
    obtain ⟨k, l, rfl, hk, hkf, HMP, HKS, HB, hml⟩ := hrel
    obtain ⟨f, rfl⟩ : ∃ f, gk = f + 1 := ⟨gk - 1, by omega⟩
    by_cases hlt : k < ks.length
    · obtain ⟨s, hs⟩ : ∃ s, ks[k]? = some s := ⟨ks[k], List.getElem?_eq_getElem hlt⟩
      obtain ⟨As, c, args, ty, h0, h1, h2, h3, hl, x0, x1, x2, x3, x4, hr⟩ := (HST.out k s hs).below HB.out
      have hlk : lookL l s = none := look_none fun p hp e => by
        obtain ⟨j, hj, hjs⟩ := HKS.out p hp
        rw [e] at hjs
        exact HND.out j k hj hlt (hjs.trans hs.symm)
      have q0 : (k : Int) < (ks.length : Int) := by omega
      have q1 : (0 : Int) ≤ (k : Int) := by omega
      have HR := Lib.hid hr
      have HS := Lib.hid hs
      have HLK := Lib.hid hlk
      have HSP := Lib.hid (key_splice (op := s.op) (text := s.text) (num := s.num) (args := args) (k := s) h0 rfl rfl rfl h1 h2 h3)
      clear hs hlk hr h1 h2 h3
      go_upto_region 6 with (fail)
      obtain ⟨w2, hw2⟩ : ∃ w2, w2 = (wr.alloc (.cells #[.string ⟨s.op.toArray⟩, .slice As args.length c, .int .i64 s.num, .string ⟨s.text.toArray⟩, .int .i64 ty] 25)).alloc (.cells #[.string ⟨s.op.toArray⟩, .string ⟨s.text.toArray⟩, .int .i64 0, .int .i64 0, .int .i64 0, .int .i64 s.num] 133) := ⟨_, rfl⟩
      rw [← hw2]
      have hb2 : Below wr.heap.size wr w2 := by rw [hw2]; exact ((Below.refl _ _).alloc (Nat.le_refl _) _).alloc (by simp) _
      have HKB := Lib.hid (show Blk w2 (wr.heap.size + 1) 133 #[.string ⟨s.op.toArray⟩, .string ⟨s.text.toArray⟩, .int .i64 0, .int .i64 0, .int .i64 0, .int .i64 s.num] by
        rw [hw2]
        have := Blk.new (wr.alloc (.cells #[.string ⟨s.op.toArray⟩, .slice As args.length c, .int .i64 s.num, .string ⟨s.text.toArray⟩, .int .i64 ty] 25)) 133 #[.string ⟨s.op.toArray⟩, .string ⟨s.text.toArray⟩, .int .i64 0, .int .i64 0, .int .i64 0, .int .i64 s.num]
        simpa using this)
      have HSB := Lib.hid (show Blk w2 wr.heap.size 25 #[.string ⟨s.op.toArray⟩, .slice As args.length c, .int .i64 s.num, .string ⟨s.text.toArray⟩, .int .i64 ty] by rw [hw2]; exact (Blk.new _ _ _).alloc _)
      have HB2 := Lib.hid hb2
      have HR2 := Lib.hid ((HR.out.below hb2).more hb2.size)
      have y1 := HSB.out.cell 1
      simp only [List.getElem?_toArray, List.getElem?_cons_zero, List.getElem?_cons_succ] at y1
      have hm2 : w.heap.size < wr.heap.size := hml
      clear hw2 hb2 x0 x1 x2 x3 x4
      go_region_law (first | (refine step_copy_splice rfl (.tmp 28) (.tmp 30) 23 23 rfl 3 Try.underlying23 (by kernel_rfl) (some ⟨wr.heap.size + 1, 2, none⟩) As 3 3 args.length c rfl rfl (wr.heap.size + 1) 2 [.string ⟨s.op.toArray⟩, .string ⟨s.text.toArray⟩, .int .i64 0, .int .i64 0, .int .i64 0, .int .i64 s.num] 133 HKB.out (args.map (Value.int .i64)) (by rw [List.length_map]; exact (Nat.min_eq_left h0).symm) (fun hp => ⟨rfl, by obtain ⟨ad, e1, _, e3⟩ := HR2.out.2 (by simpa using hp); exact ⟨ad, e1, e3⟩⟩) (by simp; omega) (fun v hv => by obtain ⟨x, _, rfl⟩ := List.mem_map.1 hv; rfl) wr.heap.size wr HB2.out.drew (by omega) ?_; intro w3 hg3 hb3; have HG3 := Lib.hid hg3.out; have HB3 := Lib.hid hb3; clear hg3 hb3))
      rw [HSP.out] at HG3
      have HK3 := Lib.hid (show Blk w3 (wr.heap.size + 1) 133 #[.string ⟨s.op.toArray⟩, .string ⟨s.text.toArray⟩, .int .i64 s.a, .int .i64 s.b, .int .i64 s.c, .int .i64 s.num] from HG3.out)
      have z0 := HK3.out.cell 0
      have z1 := HK3.out.cell 1
      have z2 := HK3.out.cell 2
      have z3 := HK3.out.cell 3
      have z4 := HK3.out.cell 4
      have z5 := HK3.out.cell 5
      simp only [List.getElem?_toArray, List.getElem?_cons_zero, List.getElem?_cons_succ] at z0 z1 z2 z3 z4 z5
      have HM3 := Lib.hid (HMP.out.keep (HB3.out.block w.heap.size hml))
      have hlk := HM3.out.lookup (key_keyEq w3) Try.underlying130 (fun _ _ => trivial) (z := .int .i64 0) (by kernel_rfl) s trivial true
      rw [HLK.out] at hlk
      have hlk : (Instr.lookup 130 (.map (some w.heap.size)) (.agg #[.string ⟨s.op.toArray⟩, .string ⟨s.text.toArray⟩, .int .i64 s.a, .int .i64 s.b, .int .i64 s.c, .int .i64 s.num]) true).run Try.prog w3 = .ok (.tuple #[.int .i64 0, .bool false]) w3 := hlk
      clear HG3 y1
      go_wp2_with (at_mapUpdate; refine wpList_update_law rfl _ _ _ 130 rfl w.heap.size encK l 133 3 (fun _ => True) HM3.out (key_keyEq w3) Try.underlying130 (fun _ _ => trivial) s trivial rfl rfl ?_)
      intro w4 hm4 hg4 hz4
      have HM4 := Lib.hid hm4
      have hw0 := HB.out.size
      have hw3 := HB3.out.size
      have HB4 := Lib.hid ((HB.out.trans (HB3.out.mono hw0)).grown hg4 (by omega) (fun j e => by injection e with e; omega))
      have HKS4 : Hid (∀ p ∈ updL l s (.int .i64 (k : Int)), ∃ j, j < k + 1 ∧ ks[j]? = some p.1) := Lib.hid (fun p hp => by
        rcases mem_upd hp with h | h
        · exact ⟨k, by omega, by rw [h]; exact HS.out⟩
        · obtain ⟨j, hj, hjs⟩ := HKS.out p h
          exact ⟨j, by omega, hjs⟩)
      have hz5 : w.heap.size < w4.heap.size := by omega
      clear hm4 hg4 hz4 hlk z0 z1 z2 z3 z4 z5
      go_wp2_with fail
      go_roundg f
      case measure => omega
      case rel => exact ⟨k + 1, _, by go_num, by omega, by omega, HM4, HKS4, HB4, hz5⟩
    · have hkn : k = ks.length := by omega
      subst hkn
      have q0 : ¬ ((ks.length : Int) < (ks.length : Int)) := by omega
      go_wp2_with fail
      go_ret
      exact ⟨rfl, HB.out⟩
end Go.Proofs.Ytniefnjcimempaa
