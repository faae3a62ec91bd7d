/- The walk of the document's table: Rows. -/
import Derived.Test.YtoegklpomlhneaaGreatDoorqCkP
import Derived.Test.YtoegklpomlhneaaGreatDoorqRx3
import Derived.Deep.LoopGhost
import Derived.Great.BuildSlice
import Derived.IntWalk
namespace Go.Proofs.YtoegklpomlhneaaGreatDoor
open Go.RowKit
def rowC (r : RowR) : List Value := [.string ⟨r.op.toArray⟩, .string ⟨r.args.toArray⟩, .int .i64 r.ty, .int .i64 r.cost, .bool r.regex]
def rowsC : List Value := rowsT.flatMap rowC
theorem rowC_len (r : RowR) : (rowC r).length = 5 := rfl
theorem flat_get : ∀ (l : List RowR) (i : Nat) (r : RowR), l[i]? = some r → ∀ j, j < 5 → (l.flatMap rowC)[i * 5 + j]? = (rowC r)[j]?
  | [], i, r, h, _, _ => by simp at h
  | x :: l, i, r, h, j, hj => by
    rw [List.flatMap_cons]
    cases i with
    | zero =>
      simp only [List.getElem?_cons_zero, Option.some.injEq] at h
      subst h
      rw [Nat.zero_mul, Nat.zero_add, List.getElem?_append_left (by rw [rowC_len]; omega)]
    | succ i =>
      rw [List.getElem?_append_right (by rw [rowC_len]; omega), rowC_len, show (i + 1) * 5 + j - 5 = i * 5 + j by omega]
      exact flat_get l i r (by simpa using h) j hj
theorem rowsT_len : rowsT.length = 44 := rfl
theorem find_split {p : RowR → Bool} : ∀ (l : List RowR) (k : Nat) (r : RowR), (∀ j s, j < k → l[j]? = some s → p s = false) → l[k]? = some r → p r = true → l.find? p = some r
  | [], _, _, _, h, _ => by simp at h
  | x :: l, 0, r, _, h, hp => by
    simp only [List.getElem?_cons_zero, Option.some.injEq] at h
    subst h
    rw [List.find?_cons_of_pos hp]
  | x :: l, k + 1, r, hb, h, hp => by
    have h0 := hb 0 x (by omega) rfl
    rw [List.find?_cons_of_neg (by rw [h0]; decide)]
    exact find_split l k r (fun j s hj hs => hb (j + 1) s (by omega) (by simpa using hs)) (by simpa using h) hp
theorem find_none {p : RowR → Bool} {l : List RowR} (hb : ∀ j s, j < l.length → l[j]? = some s → p s = false) : l.find? p = none := by
  rw [List.find?_eq_none]
  intro x hx
  obtain ⟨j, hj⟩ := List.getElem?_of_mem hx
  rw [hb j x (List.getElem?_eq_some_iff.1 hj).1 hj]
  decide
theorem infoRow : (Tryz.prog.info? 59).map (fun i => (i.zero, i.size, i.bytes)) = some (some (.agg #[.string ⟨#[]⟩, .string ⟨#[]⟩, .int .i64 0, .int .i64 0, .bool false]), 5, 56) := by kernel_rfl
set_option maxRecDepth 100000 in
set_option maxHeartbeats 4000000 in
theorem rows_any (w : World) : Calls Tryz.prog 40 #[] w fun e w' => e = .returned (.slice (some ⟨w.heap.size, 0, none⟩) 44 44) ∧ Below w.heap.size w w' ∧ Blk w' w.heap.size 59 rowsC.toArray := by
  go_enter Tryz.func40, Tryz.ntmps40
  go_wp2_with fail
  rename_i hK
  obtain ⟨i0, hinf, hz0, hz1, _⟩ := info_parts infoRow
  refine wp_buildSlice 100 59 44 _ rfl rowsC.toArray i0 (.agg #[.string ⟨#[]⟩, .string ⟨#[]⟩, .int .i64 0, .int .i64 0, .bool false]) Tryz.underlying100 hinf hz0 (by rw [hz1]; decide) (by rw [hz1]; decide) (by rw [hz1]; kernel_rfl) ?_
  refine hK _ _ ?_
  clear hinf hz0 hz1 hK
  obtain ⟨RC, hRC⟩ : ∃ RC, RC = rowsC.toArray := ⟨_, rfl⟩
  rw [← hRC]
  have HRC := Lib.hid hRC
  clear hRC
  go_wp2_with fail
  refine bodyPost_ret (v := .slice (some ⟨w.heap.size, 0, none⟩) 44 44) (by simp [results, Tryz.results40, go_sem]) rfl ?_
  exact ⟨rfl, below_alloc _ _, HRC.out ▸ Blk.new _ _ _⟩
end Go.Proofs.YtoegklpomlhneaaGreatDoor
