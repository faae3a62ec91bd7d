/- Equality of two weights that are the same; error codes. -/
import Derived.Test.YtphpfkhpihlalaaTo6
namespace Go.Proofs.Ytphpfkhpihlalaa
open Go.RowKit
theorem assert50 (W : World) (v : Value) : (Instr.typeAssert (.iface 50 v) 28 50 true).run Try.prog W = .ok (.tuple #[v, .bool true]) W := by kernel_rfl
theorem num_err (x : Int) (w : World) : Calls Try.prog 48 #[.iface 50 (.int .i64 x)] w fun e w' => e = .returned (.int .i64 x) ∧ w' = w := by
  have ha := assert50
  go_enter Try.func48, Try.ntmps48
  go_wp2
  go_ret
  exact ⟨rfl, rfl⟩
theorem is_same (x : Int) (w : World) (hx : x ≠ 0) : Calls Try.prog 20 #[.iface 50 (.int .i64 x), .int .i64 x] w fun e w' => e = .returned (.bool true) ∧ w' = w := by
  have h : (x == 0) = false := by simpa using hx
  have h' : (x != 0) = true := by simpa using hx
  go_enter Try.func20, Try.ntmps20
  go_wp2_with (go_at_call 48; refine (num_err _ _).mono ?_; rintro e w' ⟨rfl, rfl⟩)
  go_ret
  exact ⟨rfl, rfl⟩
theorem wtU : (Try.prog.underlying 38).map (fun d => match d with | .struct fs => fs.toList.map (fun f => (decide (f.name = "_"), f.type, f.offset)) | _ => []) = some [(false, 3, 0), (false, 3, 1), (false, 3, 2), (false, 3, 3), (false, 36, 4)] := by kernel_rfl
theorem dgU : (Try.prog.underlying 36).map (fun d => match d with | .struct fs => fs.toList.map (fun f => (decide (f.name = "_"), f.type, f.offset)) | _ => []) = some [(false, 34, 0), (false, 34, 1)] := by kernel_rfl
set_option maxRecDepth 100000 in
theorem wtF : ∃ f1 f2 f3 f4 f5 : Field, Try.prog.underlying 38 = some (.struct #[f1, f2, f3, f4, f5]) ∧ (f1.name ≠ "_" ∧ f1.type = 3 ∧ f1.offset = 0) ∧ (f2.name ≠ "_" ∧ f2.type = 3 ∧ f2.offset = 1) ∧ (f3.name ≠ "_" ∧ f3.type = 3 ∧ f3.offset = 2) ∧ (f4.name ≠ "_" ∧ f4.type = 3 ∧ f4.offset = 3) ∧ (f5.name ≠ "_" ∧ f5.type = 36 ∧ f5.offset = 4) := by
  have h := wtU
  cases hd : Try.prog.underlying 38 with
  | none => rw [hd] at h; cases h
  | some d =>
    rw [hd] at h
    simp only [Option.map_some, Option.some.injEq] at h
    cases d <;> simp only [reduceCtorEq] at h
    rename_i fs
    obtain ⟨fs⟩ := fs
    match fs, h with
    | [f1, f2, f3, f4, f5], h =>
      simp at h
      exact ⟨f1, f2, f3, f4, f5, rfl, ⟨h.1.1, h.1.2⟩, ⟨h.2.1.1, h.2.1.2⟩, ⟨h.2.2.1.1, h.2.2.1.2⟩, ⟨h.2.2.2.1.1, h.2.2.2.1.2⟩, ⟨h.2.2.2.2.1, h.2.2.2.2.2⟩⟩
set_option maxRecDepth 100000 in
theorem dgF : ∃ f1 f2 : Field, Try.prog.underlying 36 = some (.struct #[f1, f2]) ∧ (f1.name ≠ "_" ∧ f1.type = 34 ∧ f1.offset = 0) ∧ (f2.name ≠ "_" ∧ f2.type = 34 ∧ f2.offset = 1) := by
  have h := dgU
  cases hd : Try.prog.underlying 36 with
  | none => rw [hd] at h; cases h
  | some d =>
    rw [hd] at h
    simp only [Option.map_some, Option.some.injEq] at h
    cases d <;> simp only [reduceCtorEq] at h
    rename_i fs
    obtain ⟨fs⟩ := fs
    match fs, h with
    | [f1, f2], h =>
      simp at h
      exact ⟨f1, f2, rfl, ⟨h.1.1, h.1.2⟩, ⟨h.2.1, h.2.2⟩⟩
theorem wp0 (a b c d e f : Value) (w : World) : (part 3 #[a, b, c, d, e, f] 0).run Try.prog w = .ok a w := by kernel_rfl
theorem wp1 (a b c d e f : Value) (w : World) : (part 3 #[a, b, c, d, e, f] 1).run Try.prog w = .ok b w := by kernel_rfl
theorem wp2 (a b c d e f : Value) (w : World) : (part 3 #[a, b, c, d, e, f] 2).run Try.prog w = .ok c w := by kernel_rfl
theorem wp3 (a b c d e f : Value) (w : World) : (part 3 #[a, b, c, d, e, f] 3).run Try.prog w = .ok d w := by kernel_rfl
theorem wp4 (a b c d e f : Value) (w : World) : (part 36 #[a, b, c, d, e, f] 4).run Try.prog w = .ok (.agg #[e, f]) w := by kernel_rfl
theorem dp0 (e f : Value) (w : World) : (part 34 #[e, f] 0).run Try.prog w = .ok e w := by kernel_rfl
theorem dp1 (e f : Value) (w : World) : (part 34 #[e, f] 1).run Try.prog w = .ok f w := by kernel_rfl
theorem req_i64 (d : Nat) (a b : Int) (w : World) : (Op.equalIn (d + 1) 3 (.int .i64 a) (.int .i64 b)).run Try.prog w = .ok (a == b) w := by
  rw [Op.equalIn]; simp [run_underlying Try.underlying3, Sem.run_bind, Result.andThen]
theorem req_u64 (d : Nat) (a b : Int) (w : World) : (Op.equalIn (d + 1) 34 (.int .u64 a) (.int .u64 b)).run Try.prog w = .ok (a == b) w := by
  rw [Op.equalIn]; simp [run_underlying Try.underlying34, Sem.run_bind, Result.andThen]
theorem dg_same (n : Nat) (e f : Int) (w : World) : (Op.equalIn (n + 1 + 1) 36 (.agg #[.int .u64 e, .int .u64 f]) (.agg #[.int .u64 e, .int .u64 f])).run Try.prog w = .ok true w := by
  obtain ⟨f1, f2, hu, ⟨a1, a2, a3⟩, ⟨b1, b2, b3⟩⟩ := dgF
  rw [Op.equalIn]
  simp [run_underlying hu, a1, a2, a3, b1, b2, b3, dp0, dp1, req_u64, Sem.run_bind, Result.andThen]
theorem wt_same (n : Nat) (a b c d e f : Int) (w : World) : (Op.equalIn (n + 1 + 1 + 1) 38 (.agg #[.int .i64 a, .int .i64 b, .int .i64 c, .int .i64 d, .int .u64 e, .int .u64 f]) (.agg #[.int .i64 a, .int .i64 b, .int .i64 c, .int .i64 d, .int .u64 e, .int .u64 f])).run Try.prog w = .ok true w := by
  obtain ⟨f1, f2, f3, f4, f5, hu, ⟨a1, a2, a3⟩, ⟨b1, b2, b3⟩, ⟨c1, c2, c3⟩, ⟨d1, d2, d3⟩, ⟨e1, e2, e3⟩⟩ := wtF
  rw [Op.equalIn]
  simp [run_underlying hu, a1, a2, a3, b1, b2, b3, c1, c2, c3, d1, d2, d3, e1, e2, e3, wp0, wp1, wp2, wp3, wp4, req_i64, dg_same, Sem.run_bind, Result.andThen]
theorem wt_neq (a b c d e f : Int) (w : World) : (Go.binOp .neq 38 (.agg #[.int .i64 a, .int .i64 b, .int .i64 c, .int .i64 d, .int .u64 e, .int .u64 f]) (.agg #[.int .i64 a, .int .i64 b, .int .i64 c, .int .i64 d, .int .u64 e, .int .u64 f])).run Try.prog w = .ok (.bool false) w := by
  have h : (Op.equal 38 (.agg #[.int .i64 a, .int .i64 b, .int .i64 c, .int .i64 d, .int .u64 e, .int .u64 f]) (.agg #[.int .i64 a, .int .i64 b, .int .i64 c, .int .i64 d, .int .u64 e, .int .u64 f])).run Try.prog w = .ok true w := wt_same 9997 a b c d e f w
  unfold Go.binOp
  simp [Sem.run_bind, h, Result.andThen]
theorem wt_eql (a b c d e f : Int) (w : World) : (Go.binOp .eql 38 (.agg #[.int .i64 a, .int .i64 b, .int .i64 c, .int .i64 d, .int .u64 e, .int .u64 f]) (.agg #[.int .i64 a, .int .i64 b, .int .i64 c, .int .i64 d, .int .u64 e, .int .u64 f])).run Try.prog w = .ok (.bool true) w := by
  have h : (Op.equal 38 (.agg #[.int .i64 a, .int .i64 b, .int .i64 c, .int .i64 d, .int .u64 e, .int .u64 f]) (.agg #[.int .i64 a, .int .i64 b, .int .i64 c, .int .i64 d, .int .u64 e, .int .u64 f])).run Try.prog w = .ok true w := wt_same 9997 a b c d e f w
  unfold Go.binOp
  simp [Sem.run_bind, h, Result.andThen]
theorem dg_eql (e f : Int) (w : World) : (Go.binOp .eql 36 (.agg #[.int .u64 e, .int .u64 f]) (.agg #[.int .u64 e, .int .u64 f])).run Try.prog w = .ok (.bool true) w := by
  have h : (Op.equal 36 (.agg #[.int .u64 e, .int .u64 f]) (.agg #[.int .u64 e, .int .u64 f])).run Try.prog w = .ok true w := dg_same 9998 e f w
  unfold Go.binOp
  simp [Sem.run_bind, h, Result.andThen]
end Go.Proofs.Ytphpfkhpihlalaa
