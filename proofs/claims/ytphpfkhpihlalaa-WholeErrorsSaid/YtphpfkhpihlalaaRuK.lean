/- The rule of a store as a key: a struct of five numbers, told apart without a draw. -/
import Derived.Test.YtphpfkhpihlalaaStM
import Derived.Test.YtphpfkhpihlalaaProg
namespace Go.Proofs.Ytphpfkhpihlalaa
open Go.RowKit
theorem ruU : (Try.prog.underlying 95).map (fun d => match d with | .struct fs => fs.toList.map (fun f => (decide (f.name = "_"), f.type, f.offset)) | _ => []) = some [(false, 3, 0), (false, 5, 1), (false, 26, 2), (false, 26, 3), (false, 3, 4)] := by kernel_rfl
set_option maxRecDepth 100000 in
theorem ruF : ∃ f1 f2 f3 f4 f5 : Field, Try.prog.underlying 95 = some (.struct #[f1, f2, f3, f4, f5]) ∧ (f1.name ≠ "_" ∧ f1.type = 3 ∧ f1.offset = 0) ∧ (f2.name ≠ "_" ∧ f2.type = 5 ∧ f2.offset = 1) ∧ (f3.name ≠ "_" ∧ f3.type = 26 ∧ f3.offset = 2) ∧ (f4.name ≠ "_" ∧ f4.type = 26 ∧ f4.offset = 3) ∧ (f5.name ≠ "_" ∧ f5.type = 3 ∧ f5.offset = 4) := by
  have h := ruU
  cases hd : Try.prog.underlying 95 with
  | none => rw [hd] at h; cases h
  | some d =>
    rw [hd] at h
    simp only [Option.map_some, Option.some.injEq] at h
    cases d <;> simp only [reduceCtorEq] at h
    rename_i fs
    obtain ⟨fs⟩ := fs
    match fs, h with
    | [f1, f2, f3, f4, f5], h =>
      simp at h
      exact ⟨f1, f2, f3, f4, f5, rfl, ⟨h.1.1, h.1.2⟩, ⟨h.2.1.1, h.2.1.2⟩, ⟨h.2.2.1.1, h.2.2.1.2⟩, ⟨h.2.2.2.1.1, h.2.2.2.1.2⟩, ⟨h.2.2.2.2.1, h.2.2.2.2.2⟩⟩
theorem rp0 (a b c d e : Value) (w : World) : (part 3 #[a, b, c, d, e] 0).run Try.prog w = .ok a w := by kernel_rfl
theorem rp1 (a b c d e : Value) (w : World) : (part 5 #[a, b, c, d, e] 1).run Try.prog w = .ok b w := by kernel_rfl
theorem rp2 (a b c d e : Value) (w : World) : (part 26 #[a, b, c, d, e] 2).run Try.prog w = .ok c w := by kernel_rfl
theorem rp3 (a b c d e : Value) (w : World) : (part 26 #[a, b, c, d, e] 3).run Try.prog w = .ok d w := by kernel_rfl
theorem rp4 (a b c d e : Value) (w : World) : (part 3 #[a, b, c, d, e] 4).run Try.prog w = .ok e w := by kernel_rfl
theorem req_int (d : Nat) (a b : Int) (w : World) : (Op.equalIn (d + 1) 3 (.int .i64 a) (.int .i64 b)).run Try.prog w = .ok (a == b) w := by
  rw [Op.equalIn]; simp [run_underlying Try.underlying3, Sem.run_bind, Result.andThen]
theorem req_u8 (d : Nat) (a b : Int) (w : World) : (Op.equalIn (d + 1) 5 (.int .u8 a) (.int .u8 b)).run Try.prog w = .ok (a == b) w := by
  rw [Op.equalIn]; simp [run_underlying Try.underlying5, Sem.run_bind, Result.andThen]
theorem req_id (d : Nat) (a b : Int) (w : World) : (Op.equalIn (d + 1) 26 (.int .i64 a) (.int .i64 b)).run Try.prog w = .ok (a == b) w := by
  rw [Op.equalIn]; simp [run_underlying Try.underlying26, Sem.run_bind, Result.andThen]
theorem ru_keyEq (w : World) : KeyEq Try.prog 95 encR w (fun _ => True) where
  check := fun k em _ => by
    have hi : ∀ (n : Nat) (a : Int), (Instr.checkKey em (n + 1) 3 (.int .i64 a)).run Try.prog w = .ok () w := fun n a => by
      rw [Instr.checkKey]; simp [run_underlying Try.underlying3, Sem.run_bind, Result.andThen]
    have h8 : ∀ (n : Nat) (a : Int), (Instr.checkKey em (n + 1) 5 (.int .u8 a)).run Try.prog w = .ok () w := fun n a => by
      rw [Instr.checkKey]; simp [run_underlying Try.underlying5, Sem.run_bind, Result.andThen]
    have hd : ∀ (n : Nat) (a : Int), (Instr.checkKey em (n + 1) 26 (.int .i64 a)).run Try.prog w = .ok () w := fun n a => by
      rw [Instr.checkKey]; simp [run_underlying Try.underlying26, Sem.run_bind, Result.andThen]
    have h : ∀ n : Nat, (Instr.checkKey em (n + 1 + 1) 95 (encR k)).run Try.prog w = .ok () w := fun n => by
      obtain ⟨f1, f2, f3, f4, f5, hu, ⟨a1, a2, a3⟩, ⟨b1, b2, b3⟩, ⟨c1, c2, c3⟩, ⟨d1, d2, d3⟩, ⟨e1, e2, e3⟩⟩ := ruF
      unfold encR
      rw [Instr.checkKey]
      simp [run_underlying hu, a1, a2, a3, b1, b2, b3, c1, c2, c3, d1, d2, d3, e1, e2, e3, rp0, rp1, rp2, rp3, rp4, hi, h8, hd, Sem.run_bind, Result.andThen]
    exact h 9998
  find := fun k es _ => by
    obtain ⟨f1, f2, f3, f4, f5, hu, _⟩ := ruF
    cases es with
    | nil => simp [Instr.findKey, run_underlying hu, Instr.findNow, Instr.findAsking]
    | cons e es => simp [Instr.findKey, run_underlying hu, Instr.findNow, Instr.sameNow]
  eq := fun a b _ _ => by
    obtain ⟨f1, f2, f3, f4, f5, hu, ⟨a1, a2, a3⟩, ⟨b1, b2, b3⟩, ⟨c1, c2, c3⟩, ⟨d1, d2, d3⟩, ⟨e1, e2, e3⟩⟩ := ruF
    obtain ⟨x1, x2, x3, x4, x5⟩ := a
    obtain ⟨y1, y2, y3, y4, y5⟩ := b
    have h : ∀ d : Nat, (Op.equalIn (d + 1 + 1) 95 (encR ⟨x1, x2, x3, x4, x5⟩) (encR ⟨y1, y2, y3, y4, y5⟩)).run Try.prog w = .ok (decide ((⟨x1, x2, x3, x4, x5⟩ : Ru) = ⟨y1, y2, y3, y4, y5⟩)) w := fun d => by
      unfold encR
      rw [Op.equalIn]
      simp [run_underlying hu, a1, a2, a3, b1, b2, b3, c1, c2, c3, d1, d2, d3, e1, e2, e3, rp0, rp1, rp2, rp3, rp4, req_int, req_u8, req_id, Sem.run_bind, Result.andThen]
      by_cases h1 : x1 = y1 <;> by_cases h2 : x2 = y2 <;> by_cases h3 : x3 = y3 <;> by_cases h4 : x4 = y4 <;> by_cases h5 : x5 = y5 <;>
        simp [h1, h2, h3, h4, h5, run_underlying hu, a1, a2, a3, b1, b2, b3, c1, c2, c3, d1, d2, d3, e1, e2, e3, rp0, rp1, rp2, rp3, rp4, req_int, req_u8, req_id, Sem.run_bind, Result.andThen]
    exact h 9998
  bits := fun k _ => by
    have h : ∀ n : Nat, Instr.sameBits (n + 1) (encR k) (encR k) = true := fun n => by unfold encR; cases n <;> simp [Instr.sameBits]
    exact h 9999
end Go.Proofs.Ytphpfkhpihlalaa
