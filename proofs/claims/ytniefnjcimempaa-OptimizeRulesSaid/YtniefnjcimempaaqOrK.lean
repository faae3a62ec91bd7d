/- The key of optimize.share: a struct of two texts, an array of three numbers and a number. -/
import Derived.Test.YtniefnjcimempaaqRb
import Derived.Test.YtniefnjcimempaaProg
namespace Go.Proofs.Ytniefnjcimempaa
open Go.RowKit
structure KeyS where
  op : List UInt8
  text : List UInt8
  a : Int
  b : Int
  c : Int
  num : Int
deriving DecidableEq
def encK (k : KeyS) : Value := .agg #[.string ⟨k.op.toArray⟩, .string ⟨k.text.toArray⟩, .int .i64 k.a, .int .i64 k.b, .int .i64 k.c, .int .i64 k.num]
theorem keyU : (Try.prog.underlying 133).map (fun d => match d with | .struct fs => fs.toList.map (fun f => (decide (f.name = "_"), f.type, f.offset)) | _ => []) = some [(false, 9, 0), (false, 9, 1), (false, 131, 2), (false, 3, 5)] := by kernel_rfl
theorem arrU : Try.prog.underlying 131 = some (.array 3 3) := by kernel_rfl
set_option maxRecDepth 100000 in
theorem keyF : ∃ f1 f2 f3 f4 : Field, Try.prog.underlying 133 = some (.struct #[f1, f2, f3, f4]) ∧ (f1.name ≠ "_" ∧ f1.type = 9 ∧ f1.offset = 0) ∧ (f2.name ≠ "_" ∧ f2.type = 9 ∧ f2.offset = 1) ∧ (f3.name ≠ "_" ∧ f3.type = 131 ∧ f3.offset = 2) ∧ (f4.name ≠ "_" ∧ f4.type = 3 ∧ f4.offset = 5) := by
  have h := keyU
  cases hd : Try.prog.underlying 133 with
  | none => rw [hd] at h; cases h
  | some d =>
    rw [hd] at h
    simp only [Option.map_some, Option.some.injEq] at h
    cases d <;> simp only [reduceCtorEq] at h
    rename_i fs
    obtain ⟨fs⟩ := fs
    match fs, h with
    | [f1, f2, f3, f4], h =>
      simp at h
      exact ⟨f1, f2, f3, f4, rfl, ⟨h.1.1, h.1.2⟩, ⟨h.2.1.1, h.2.1.2⟩, ⟨h.2.2.1.1, h.2.2.1.2⟩, ⟨h.2.2.2.1, h.2.2.2.2⟩⟩
theorem keyHeld : Try.prog.stoodInHeld 133 = false := by kernel_rfl
theorem part_s0 (a b c d e f : Value) (w : World) : (part 9 #[a, b, c, d, e, f] 0).run Try.prog w = .ok a w := by kernel_rfl
theorem part_s1 (a b c d e f : Value) (w : World) : (part 9 #[a, b, c, d, e, f] 1).run Try.prog w = .ok b w := by kernel_rfl
theorem part_a2 (a b c d e f : Value) (w : World) : (part 131 #[a, b, c, d, e, f] 2).run Try.prog w = .ok (.agg #[c, d, e]) w := by kernel_rfl
theorem part_n5 (a b c d e f : Value) (w : World) : (part 3 #[a, b, c, d, e, f] 5).run Try.prog w = .ok f w := by kernel_rfl
theorem part_i0 (a b c : Value) (w : World) : (part 3 #[a, b, c] 0).run Try.prog w = .ok a w := by kernel_rfl
theorem part_i1 (a b c : Value) (w : World) : (part 3 #[a, b, c] 1).run Try.prog w = .ok b w := by kernel_rfl
theorem part_i2 (a b c : Value) (w : World) : (part 3 #[a, b, c] 2).run Try.prog w = .ok c w := by kernel_rfl
theorem size_int (w : World) : (sizeOf 3).run Try.prog w = .ok 1 w := by kernel_rfl
theorem eq_str (d : Nat) (a b : ByteArray) (w : World) : (Op.equalIn (d + 1) 9 (.string a) (.string b)).run Try.prog w = .ok (a == b) w := by
  rw [Op.equalIn]; simp [run_underlying Try.underlying9, Sem.run_bind, Result.andThen]
theorem eq_int (d : Nat) (a b : Int) (w : World) : (Op.equalIn (d + 1) 3 (.int .i64 a) (.int .i64 b)).run Try.prog w = .ok (a == b) w := by
  rw [Op.equalIn]; simp [run_underlying Try.underlying3, Sem.run_bind, Result.andThen]
theorem eq_arr (d : Nat) (a b c x y z : Int) (w : World) : (Op.equalIn (d + 1 + 1) 131 (.agg #[.int .i64 a, .int .i64 b, .int .i64 c]) (.agg #[.int .i64 x, .int .i64 y, .int .i64 z])).run Try.prog w = .ok (a == x && b == y && c == z) w := by
  rw [Op.equalIn]
  simp [run_underlying arrU, Sem.run_bind, Result.andThen]
  rw [show List.range' 0 3 = [0, 1, 2] from rfl]
  by_cases h1 : a = x <;> by_cases h2 : b = y <;> by_cases h3 : c = z <;> simp [h1, h2, h3, Result.andThen, Sem.run_bind, part_i0, part_i1, part_i2, eq_int]
theorem bytes_eq (a b : List UInt8) : ((⟨a.toArray⟩ : ByteArray) == ⟨b.toArray⟩) = decide (a = b) := by
  show (a.toArray == b.toArray) = _
  by_cases h : a = b
  · subst h; simp
  · simp [h]
theorem key_keyEq (w : World) : KeyEq Try.prog 133 encK w (fun _ => True) where
  check := fun k em _ => by
    have hs : ∀ (n : Nat) (a : ByteArray), (Instr.checkKey em (n + 1) 9 (.string a)).run Try.prog w = .ok () w := fun n a => by
      rw [Instr.checkKey]; simp [run_underlying Try.underlying9, Sem.run_bind, Result.andThen]
    have hi : ∀ (n : Nat) (a : Int), (Instr.checkKey em (n + 1) 3 (.int .i64 a)).run Try.prog w = .ok () w := fun n a => by
      rw [Instr.checkKey]; simp [run_underlying Try.underlying3, Sem.run_bind, Result.andThen]
    have ha : ∀ (n : Nat) (a b c : Int), (Instr.checkKey em (n + 1 + 1) 131 (.agg #[.int .i64 a, .int .i64 b, .int .i64 c])).run Try.prog w = .ok () w := fun n a b c => by
      rw [Instr.checkKey]
      simp [run_underlying arrU, Sem.run_bind, Result.andThen]
      rw [show List.range' 0 3 = [0, 1, 2] from rfl]
      simp [Result.andThen, Sem.run_bind, part_i0, part_i1, part_i2, hi, size_int]
    have h : ∀ n : Nat, (Instr.checkKey em (n + 1 + 1 + 1) 133 (encK k)).run Try.prog w = .ok () w := fun n => by
      obtain ⟨f1, f2, f3, f4, hu, ⟨a1, a2, a3⟩, ⟨b1, b2, b3⟩, ⟨c1, c2, c3⟩, ⟨d1, d2, d3⟩⟩ := keyF
      unfold encK
      rw [Instr.checkKey]
      simp [run_underlying hu, a1, a2, a3, b1, b2, b3, c1, c2, c3, d1, d2, d3, part_s0, part_s1, part_a2, part_n5, hs, hi, ha, Sem.run_bind, Result.andThen]
    exact h 9997
  find := fun k es _ => by
    obtain ⟨f1, f2, f3, f4, hu, _⟩ := keyF
    cases es with
    | nil => simp [Instr.findKey, run_underlying hu, Instr.findNow, Instr.findAsking]
    | cons e es => simp [Instr.findKey, run_underlying hu, Instr.findNow, Instr.sameNow]
  eq := fun a b _ _ => by
    obtain ⟨f1, f2, f3, f4, hu, ⟨a1, a2, a3⟩, ⟨b1, b2, b3⟩, ⟨c1, c2, c3⟩, ⟨d1, d2, d3⟩⟩ := keyF
    obtain ⟨x1, x2, x3, x4, x5, x6⟩ := a
    obtain ⟨y1, y2, y3, y4, y5, y6⟩ := b
    have h : ∀ d : Nat, (Op.equalIn (d + 1 + 1 + 1) 133 (encK ⟨x1, x2, x3, x4, x5, x6⟩) (encK ⟨y1, y2, y3, y4, y5, y6⟩)).run Try.prog w = .ok (decide ((⟨x1, x2, x3, x4, x5, x6⟩ : KeyS) = ⟨y1, y2, y3, y4, y5, y6⟩)) w := fun d => by
      unfold encK
      rw [Op.equalIn]
      simp [run_underlying hu, a1, a2, a3, b1, b2, b3, c1, c2, c3, d1, d2, d3, part_s0, part_s1, part_a2, part_n5, eq_str, eq_arr, eq_int, bytes_eq, Sem.run_bind, Result.andThen]
      by_cases h1 : x1 = y1 <;> by_cases h2 : x2 = y2 <;> by_cases h3 : x3 = y3 <;> by_cases h4 : x4 = y4 <;> by_cases h5 : x5 = y5 <;> by_cases h6 : x6 = y6 <;>
        simp [h1, h2, h3, h4, h5, h6, run_underlying hu, a1, a2, a3, b1, b2, b3, c1, c2, c3, d1, d2, d3, part_s0, part_s1, part_a2, part_n5, eq_str, eq_arr, eq_int, bytes_eq, Sem.run_bind, Result.andThen]
    exact h 9997
  bits := fun k _ => by
    have h : ∀ n : Nat, Instr.sameBits (n + 1) (encK k) (encK k) = true := fun n => by unfold encK; cases n <;> simp [Instr.sameBits, bytes_eq]
    exact h 9999
end Go.Proofs.Ytniefnjcimempaa
