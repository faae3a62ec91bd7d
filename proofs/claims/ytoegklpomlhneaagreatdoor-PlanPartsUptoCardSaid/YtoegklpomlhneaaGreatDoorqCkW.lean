/- The walks of the document's table: first, Find, texts. -/
import Derived.Test.YtoegklpomlhneaaGreatDoorqCkRw
import Derived.Test.YtoegklpomlhneaaGreatDoorqRm
import Derived.Deep.LoopGhost
import Derived.IntWalk
namespace Go.Proofs.YtoegklpomlhneaaGreatDoor
open Go.RowKit
/-- What a look into the table answers. -/
def RowEnd (w : World) (r : Option RowR) (e : Ending) (w' : World) : Prop := Below w.heap.size w w' ∧ match r with
  | none => e = .returned (.tuple #[.agg #[.string ⟨#[]⟩, .string ⟨#[]⟩, .int .i64 0, .int .i64 0, .bool false], .bool false])
  | some r => e = .returned (.tuple #[.agg #[.string ⟨r.op.toArray⟩, .string ⟨r.args.toArray⟩, .int .i64 r.ty, .int .i64 r.cost, .bool r.regex], .bool true])
def FsRel (w : World) (p : RowR → Bool) (g : Nat) (f : Nat) (i : Value) (wr : World) : Prop := ∃ k : Nat, i = .int .i64 k ∧ k ≤ 44 ∧ 44 - k < f ∧ Hid (∀ j s, j < k → rowsT[j]? = some s → p s = false) ∧ Hid (Blk wr g 59 rowsC.toArray) ∧
  Hid (Blk wr w.heap.size 59 #[.string ⟨#[]⟩, .string ⟨#[]⟩, .int .i64 0, .int .i64 0, .bool false]) ∧ w.heap.size < g ∧ Hid (Below w.heap.size w wr)
theorem row_cells {w : World} {g k : Nat} {r : RowR} (h : Blk w g 59 rowsC.toArray) (hr : rowsT[k]? = some r) : w.cell? ⟨g, k * 5, none⟩ = some (.string ⟨r.op.toArray⟩) ∧ w.cell? ⟨g, k * 5 + 1, none⟩ = some (.string ⟨r.args.toArray⟩) ∧
    w.cell? ⟨g, k * 5 + 2, none⟩ = some (.int .i64 r.ty) ∧ w.cell? ⟨g, k * 5 + 3, none⟩ = some (.int .i64 r.cost) ∧ w.cell? ⟨g, k * 5 + 4, none⟩ = some (.bool r.regex) := by
  have hh : ∀ j, j < 5 → w.cell? ⟨g, k * 5 + j, none⟩ = (rowC r)[j]? := fun j hj => by
    rw [h.cell, List.getElem?_toArray]
    exact flat_get rowsT k r hr j hj
  exact ⟨hh 0 (by omega), hh 1 (by omega), hh 2 (by omega), hh 3 (by omega), hh 4 (by omega)⟩
set_option maxRecDepth 100000 in
theorem first_any (n : List UInt8) (w : World) : Calls Tryz.prog 21 #[.string ⟨n.toArray⟩] w (RowEnd w (firstR n)) := by
  have HR0 := Lib.hid (Blk.new w 59 #[.string ⟨#[]⟩, .string ⟨#[]⟩, .int .i64 0, .int .i64 0, .bool false])
  have HB0 := Lib.hid (below_alloc w (.cells #[.string ⟨#[]⟩, .string ⟨#[]⟩, .int .i64 0, .int .i64 0, .bool false] 59))
  go_enter Tryz.func21, Tryz.ntmps21
  go_wp2_with fail
  refine (rows_any _).mono ?_
  rintro e w1 ⟨rfl, hb1, hg1⟩
  have hsz : (w.alloc (.cells #[.string ⟨#[]⟩, .string ⟨#[]⟩, .int .i64 0, .int .i64 0, .bool false] 59)).heap.size = w.heap.size + 1 := by simp
  rw [hsz] at hg1 ⊢
  have HG1 := Lib.hid hg1
  have HR1 := Lib.hid (HR0.out.below hb1 HR0.out.lt)
  have HB1 := Lib.hid (HB0.out.trans (hb1.mono HB0.out.size))
  clear hb1 hg1 hsz HR0 HB0
  go_wp2_with fail
  go_loopg [5] 45 (fun f i wr => FsRel w (fun r => decide (r.op = n)) (w.heap.size + 1) f i wr)
  case atStart => exact ⟨0, rfl, by omega, by omega, Lib.hid (fun j s hj _ => by omega), HG1, HR1, by omega, HB1⟩
  case round =>
    clear HG1 HR1 HB1
    obtain ⟨k, rfl, hk, hkf, HN, HG, HR, hgl, HB⟩ := hrel
    obtain ⟨f, rfl⟩ : ∃ f, gk = f + 1 := ⟨gk - 1, by omega⟩
    have hrl := HR.out.lt
    by_cases hlt : k < 44
    · obtain ⟨r, hr⟩ : ∃ r, rowsT[k]? = some r := ⟨rowsT[k]'(by rw [rowsT_len]; exact hlt), List.getElem?_eq_getElem _⟩
      obtain ⟨x0, x1, x2, x3, x4⟩ := row_cells HG.out hr
      obtain ⟨y0, y1, y2, y3, y4, n0, n1, n2, n3, n4⟩ := blk5 HR.out
      have q0 : (k : Int) < 44 := by omega
      have q1 : (0 : Int) ≤ (k : Int) := by omega
      have HRR := Lib.hid hr
      clear hr
      by_cases he : r.op = n
      · have hres : firstR n = some r := find_split rowsT k r HN.out HRR.out (by simpa using he)
        have HRES := Lib.hid hres
        subst he
        clear hres
        go_wp2_with fail
        refine bodyPost_ret (v := .tuple #[.agg #[.string ⟨r.op.toArray⟩, .string ⟨r.args.toArray⟩, .int .i64 r.ty, .int .i64 r.cost, .bool r.regex], .bool true]) (by simp [results, Tryz.results21, go_sem, y0, y1, y2, y3, y4]) rfl ?_
        refine ⟨five_set HB.out (Nat.le_refl _), ?_⟩
        rw [HRES.out]
      · have hne : (r.op == n) = false := beq_eq_false_iff_ne.2 he
        have HN2 : Hid (∀ j s, j < k + 1 → rowsT[j]? = some s → decide (s.op = n) = false) := Lib.hid (fun j s hj hs => by
          by_cases hjk : j < k
          · exact HN.out j s hjk hs
          · have : j = k := by omega
            subst this
            rw [HRR.out] at hs
            injection hs with hs
            subst hs
            simpa using he)
        go_wp2_with fail
        go_roundg f
        case measure => omega
        case rel => exact ⟨k + 1, by go_num, by omega, by omega, HN2, HG, HR, hgl, HB⟩
    · have hkk : k = 44 := by omega
      subst hkk
      obtain ⟨y0, y1, y2, y3, y4, n0, n1, n2, n3, n4⟩ := blk5 HR.out
      have hres : firstR n = none := find_none (fun j s hj hs => HN.out j s (by rw [rowsT_len] at hj; exact hj) hs)
      have HRES := Lib.hid hres
      clear hres
      go_wp2_with fail
      refine bodyPost_ret (v := .tuple #[.agg #[.string ⟨#[]⟩, .string ⟨#[]⟩, .int .i64 0, .int .i64 0, .bool false], .bool false]) (by simp [results, Tryz.results21, go_sem, y0, y1, y2, y3, y4]) rfl ?_
      refine ⟨five_set HB.out (Nat.le_refl _), ?_⟩
      rw [HRES.out]
set_option maxRecDepth 100000 in
theorem find_any (n a : List UInt8) (w : World) : Calls Tryz.prog 23 #[.string ⟨n.toArray⟩, .string ⟨a.toArray⟩] w (RowEnd w (findR n a)) := by
  have HR0 := Lib.hid (Blk.new w 59 #[.string ⟨#[]⟩, .string ⟨#[]⟩, .int .i64 0, .int .i64 0, .bool false])
  have HB0 := Lib.hid (below_alloc w (.cells #[.string ⟨#[]⟩, .string ⟨#[]⟩, .int .i64 0, .int .i64 0, .bool false] 59))
  go_enter Tryz.func23, Tryz.ntmps23
  go_wp2_with fail
  refine (rows_any _).mono ?_
  rintro e w1 ⟨rfl, hb1, hg1⟩
  have hsz : (w.alloc (.cells #[.string ⟨#[]⟩, .string ⟨#[]⟩, .int .i64 0, .int .i64 0, .bool false] 59)).heap.size = w.heap.size + 1 := by simp
  rw [hsz] at hg1 ⊢
  have HG1 := Lib.hid hg1
  have HR1 := Lib.hid (HR0.out.below hb1 HR0.out.lt)
  have HB1 := Lib.hid (HB0.out.trans (hb1.mono HB0.out.size))
  clear hb1 hg1 hsz HR0 HB0
  go_wp2_with fail
  go_loopg [7] 45 (fun f i wr => FsRel w (fun r => decide (r.op = n) && decide (r.args = a)) (w.heap.size + 1) f i wr)
  case atStart => exact ⟨0, rfl, by omega, by omega, Lib.hid (fun j s hj _ => by omega), HG1, HR1, by omega, HB1⟩
  case round =>
    clear HG1 HR1 HB1
    obtain ⟨k, rfl, hk, hkf, HN, HG, HR, hgl, HB⟩ := hrel
    obtain ⟨f, rfl⟩ : ∃ f, gk = f + 1 := ⟨gk - 1, by omega⟩
    have hrl := HR.out.lt
    by_cases hlt : k < 44
    · obtain ⟨r, hr⟩ : ∃ r, rowsT[k]? = some r := ⟨rowsT[k]'(by rw [rowsT_len]; exact hlt), List.getElem?_eq_getElem _⟩
      obtain ⟨x0, x1, x2, x3, x4⟩ := row_cells HG.out hr
      obtain ⟨y0, y1, y2, y3, y4, n0, n1, n2, n3, n4⟩ := blk5 HR.out
      have q0 : (k : Int) < 44 := by omega
      have q1 : (0 : Int) ≤ (k : Int) := by omega
      have HRR := Lib.hid hr
      clear hr
      by_cases he : r.op = n
      · subst he
        by_cases ha : r.args = a
        · have hres : findR r.op a = some r := find_split rowsT k r HN.out HRR.out (by simp [ha])
          have HRES := Lib.hid hres
          subst ha
          clear hres
          go_wp2_with fail
          refine bodyPost_ret (v := .tuple #[.agg #[.string ⟨r.op.toArray⟩, .string ⟨r.args.toArray⟩, .int .i64 r.ty, .int .i64 r.cost, .bool r.regex], .bool true]) (by simp [results, Tryz.results23, go_sem, y0, y1, y2, y3, y4]) rfl ?_
          refine ⟨five_set HB.out (Nat.le_refl _), ?_⟩
          rw [HRES.out]
        · have hmiss : ¬ (r.args = a) := ha
          have hne : (r.args == a) = false := beq_eq_false_iff_ne.2 ha
          have HN2 : Hid (∀ j s, j < k + 1 → rowsT[j]? = some s → (decide (s.op = r.op) && decide (s.args = a)) = false) := Lib.hid (fun j s hj hs => by
            by_cases hjk : j < k
            · exact HN.out j s hjk hs
            · have : j = k := by omega
              subst this
              rw [HRR.out] at hs
              injection hs with hs
              subst hs
              simp [hmiss])
          go_wp2_with fail
          go_roundg f
          case measure => omega
          case rel => exact ⟨k + 1, by go_num, by omega, by omega, HN2, HG, HR, hgl, HB⟩
      · have hmiss : ¬ (r.op = n) := he
        have hne : (r.op == n) = false := beq_eq_false_iff_ne.2 he
        have HN2 : Hid (∀ j s, j < k + 1 → rowsT[j]? = some s → (decide (s.op = n) && decide (s.args = a)) = false) := Lib.hid (fun j s hj hs => by
          by_cases hjk : j < k
          · exact HN.out j s hjk hs
          · have : j = k := by omega
            subst this
            rw [HRR.out] at hs
            injection hs with hs
            subst hs
            simp [hmiss])
        go_wp2_with fail
        go_roundg f
        case measure => omega
        case rel => exact ⟨k + 1, by go_num, by omega, by omega, HN2, HG, HR, hgl, HB⟩
    · have hkk : k = 44 := by omega
      subst hkk
      obtain ⟨y0, y1, y2, y3, y4, n0, n1, n2, n3, n4⟩ := blk5 HR.out
      have hres : findR n a = none := find_none (fun j s hj hs => HN.out j s (by rw [rowsT_len] at hj; exact hj) hs)
      have HRES := Lib.hid hres
      clear hres
      go_wp2_with fail
      refine bodyPost_ret (v := .tuple #[.agg #[.string ⟨#[]⟩, .string ⟨#[]⟩, .int .i64 0, .int .i64 0, .bool false], .bool false]) (by simp [results, Tryz.results23, go_sem, y0, y1, y2, y3, y4]) rfl ?_
      refine ⟨five_set HB.out (Nat.le_refl _), ?_⟩
      rw [HRES.out]
set_option maxRecDepth 100000 in
theorem texts_any (r : RowR) (w : World) : Calls Tryz.prog 22 #[.agg #[.string ⟨r.op.toArray⟩, .string ⟨r.args.toArray⟩, .int .i64 r.ty, .int .i64 r.cost, .bool r.regex]] w fun e w' => e = .returned (.bool (textsR r)) ∧ Below w.heap.size w w' := by
  have HB0 := Lib.hid (below_alloc w (.cells #[.string ⟨r.op.toArray⟩, .string ⟨r.args.toArray⟩, .int .i64 r.ty, .int .i64 r.cost, .bool r.regex] 59))
  obtain ⟨op, args, ty, cost, regex⟩ := r
  unfold textsR
  dsimp only at HB0 ⊢
  cases regex with
  | true =>
    go_enter Tryz.func22, Tryz.ntmps22
    go_wp2_with fail
    go_ret
    exact ⟨rfl, HB0.out⟩
  | false =>
    by_cases h1 : op = nString
    · subst h1
      go_enter Tryz.func22, Tryz.ntmps22
      go_wp2_with fail
      go_ret
      exact ⟨rfl, HB0.out⟩
    by_cases h2 : op = nRef
    · subst h2
      go_enter Tryz.func22, Tryz.ntmps22
      go_wp2_with fail
      go_ret
      exact ⟨rfl, HB0.out⟩
    have h3 : (op == [115, 116, 114, 105, 110, 103]) = false := beq_eq_false_iff_ne.2 h1
    have h4 : (op == [114, 101, 102]) = false := beq_eq_false_iff_ne.2 h2
    have h5 : (false || (decide (op = nString) || decide (op = nRef))) = false := by simp [h1, h2]
    rw [h5]
    go_enter Tryz.func22, Tryz.ntmps22
    go_wp2_with fail
    go_ret
    exact ⟨rfl, HB0.out⟩
end Go.Proofs.YtoegklpomlhneaaGreatDoor
