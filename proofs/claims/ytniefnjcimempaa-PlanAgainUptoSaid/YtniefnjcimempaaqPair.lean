/- A struct of two pointers as a key. -/
import Derived.Test.YtniefnjcimempaaqRb
import Derived.Test.YtniefnjcimempaaProg
namespace Go.Proofs.Ytniefnjcimempaa
open Go.RowKit
def encP (p : Addr × Addr) : Value := .agg #[.pointer (some p.1), .pointer (some p.2)]
theorem pairU : (Try.prog.underlying 75).map (fun d => match d with | .struct fs => fs.toList.map (fun f => (decide (f.name = "_"), f.type, f.offset)) | _ => []) = some [(false, 64, 0), (false, 64, 1)] := by kernel_rfl
set_option maxRecDepth 100000 in
theorem pairS : ∃ f g : Field, Try.prog.underlying 75 = some (.struct #[f, g]) ∧ (f.name ≠ "_" ∧ f.type = 64 ∧ f.offset = 0) ∧ (g.name ≠ "_" ∧ g.type = 64 ∧ g.offset = 1) := by
  have h := pairU
  cases hd : Try.prog.underlying 75 with
  | none => rw [hd] at h; cases h
  | some d =>
    rw [hd] at h
    simp only [Option.map_some, Option.some.injEq] at h
    cases d <;> simp only [reduceCtorEq] at h
    rename_i fs
    obtain ⟨fs⟩ := fs
    match fs, h with
    | [f, g], h =>
      simp at h
      exact ⟨f, g, rfl, ⟨h.1.1, h.1.2⟩, ⟨h.2.1, h.2.2⟩⟩
theorem infoExprP : (Try.prog.info? 31).map (fun i => (i.zero, i.size, i.bytes)) = some (some (.agg #[.int .i64 0, .string ⟨#[]⟩, .int .i64 0, .slice none 0 0]), 4, 56) := by kernel_rfl
theorem pairHeld : Try.prog.stoodInHeld 75 = false := by kernel_rfl
theorem ptrAgg (w : World) : (isAgg 64).run Try.prog w = .ok false w := by kernel_rfl
theorem part_ptr (cs : Array Value) (i : Nat) (v : Value) (h : cs[i]? = some v) (w : World) : (part 64 cs i).run Try.prog w = .ok v w := by
  simp [part, ptrAgg, h, Sem.run_bind, Result.andThen]
theorem part_a (x y : Value) (w : World) : (part 64 #[x, y] 0).run Try.prog w = .ok x w := part_ptr _ 0 x rfl w
theorem part_b (x y : Value) (w : World) : (part 64 #[x, y] 1).run Try.prog w = .ok y w := part_ptr _ 1 y rfl w
theorem pair_keyEq (w : World) : KeyEq Try.prog 75 encP w (fun p => plainA w p.1 ∧ plainA w p.2) where
  check := fun k em _ => by
    have h : ∀ n : Nat, (Instr.checkKey em (n + 1 + 1) 75 (encP k)).run Try.prog w = .ok () w := fun n => by
      obtain ⟨f, g, hu, ⟨f1, f2, f3⟩, ⟨g1, g2, g3⟩⟩ := pairS
      unfold encP
      rw [Instr.checkKey]
      simp [run_underlying hu, f1, f2, f3, g1, g2, g3, part_a, part_b, Sem.run_bind, Result.andThen, Instr.checkKey, run_underlying Try.underlying64]
    exact h 9998
  find := fun k es _ => by
    obtain ⟨f, g, hu, _⟩ := pairS
    cases es with
    | nil => simp [Instr.findKey, run_underlying hu, Instr.findNow, Instr.findAsking]
    | cons e es => simp [Instr.findKey, run_underlying hu, Instr.findNow, Instr.sameNow]
  eq := fun a b ha hb => by
    obtain ⟨f, g, hu, ⟨f1, f2, f3⟩, ⟨g1, g2, g3⟩⟩ := pairS
    have hp : ∀ (d : Nat) (a b : Addr), plainA w a → plainA w b → (Op.equalIn (d + 1) 64 (encA a) (encA b)).run Try.prog w = .ok (decide (a = b)) w := fun d a b ha hb => by
      obtain ⟨ta, ca, ha⟩ := ha
      obtain ⟨tb, cb, hb⟩ := hb
      obtain ⟨j, he, hs⟩ : ∃ j : TypeInfo, Try.prog.info? 31 = some j ∧ j.size ≠ 0 := by
        obtain ⟨i0, hinf, _, hz, _⟩ := info_parts infoExprP
        exact ⟨i0, hinf, by rw [hz]; decide⟩
      unfold encA
      by_cases hab : a = b
      · subst hab
        simp [Op.equalIn, run_underlying Try.underlying64, sizeOf, typeInfo, he, run_sameAddr_same]
      · simp [Op.equalIn, run_underlying Try.underlying64, sizeOf, typeInfo, he, hs, run_sameAddr_other w hab ha hb, hab]
    obtain ⟨a1, a2⟩ := a
    obtain ⟨b1, b2⟩ := b
    have h : ∀ d : Nat, (Op.equalIn (d + 1 + 1) 75 (encP (a1, a2)) (encP (b1, b2))).run Try.prog w = .ok (decide ((a1, a2) = (b1, b2))) w := fun d => by
      have e1 := hp d a1 b1 ha.1 hb.1
      have e2 := hp d a2 b2 ha.2 hb.2
      unfold encA at e1 e2
      unfold encP
      rw [Op.equalIn]
      simp [run_underlying hu, f1, f2, f3, g1, g2, g3, part_a, part_b, Sem.run_bind, Result.andThen, e1, e2]
      by_cases h1 : a1 = b1
      · by_cases h2 : a2 = b2
        · simp [h1, h2, part_b, Result.andThen] at e2 ⊢
          simp [e2]
        · simp [h1, h2, part_b, Result.andThen] at e2 ⊢
          simp [e2]
      · simp [h1, Result.andThen]
    exact h 9998
  bits := fun k _ => by
    have h : ∀ n : Nat, Instr.sameBits (n + 1) (encP k) (encP k) = true := fun n => by unfold encP; cases n <;> simp [Instr.sameBits]
    exact h 9999
end Go.Proofs.Ytniefnjcimempaa
