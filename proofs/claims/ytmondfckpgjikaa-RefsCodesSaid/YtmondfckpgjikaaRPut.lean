/- The walk of the reference's put. -/
import Derived.Test.YtmondfckpgjikaaRRows
namespace Go.Proofs.Ytmondfckpgjikaa
open Go.RowKit Go.WideMaps
theorem Try.info42 : (Try.prog.info? 42).map (fun i => (i.zero, i.size, i.bytes)) = some (some (.agg #[.string ByteArray.empty, .int .i64 0, .bool false]), 3, 32) := by kernel_rfl
def PutEnd (w : World) (l : List Row) (e : Ending) (w' : World) : Prop :=
  ∃ A c, e = .returned (.slice A l.length c) ∧ w'.ownsRow w.heap.size 42 3 (.slice A l.length c) l.length (cellsR l) ∧ Below w.heap.size w w'
set_option maxRecDepth 100000 in
set_option maxHeartbeats 1000000 in
theorem put_any (A : Option Addr) (n c B : Nat) (l : List Row) (s : ByteArray) (x : Int) (t : Bool) (w : World) (hr : Reads w B 3 A n (cellsR l)) (hB : B ≤ w.heap.size) (hl : l.length = n) (hc : n ≤ c) (hn : n ≤ 1000000) (hs : Rising l) :
    Calls Try.prog 56 #[.slice A n c, .agg #[.string s, .int .i64 x, .bool t]] w (PutEnd w (putR ⟨s.data.toList, x, t⟩ l)) := by
  obtain ⟨i0, hi, hz0, hz1, hz2⟩ := info_parts Try.info42
  have hput := putR_at ⟨s.data.toList, x, t⟩ l hs
  simp only at hput
  have HP := Lib.hid hput
  have HL := Lib.hid hl
  clear hput
  have hidx := idxR_le s.data.toList l
  rw [hl] at hidx
  have hfi : (findR s.data.toList l).isSome = true → idxR s.data.toList l < n := by
    intro h
    rcases Nat.lt_or_ge (idxR s.data.toList l) n with h1 | h1
    · exact h1
    · exfalso
      have h2 : idxR s.data.toList l = l.length := by omega
      have : ∀ (l : List Row), idxR s.data.toList l = l.length → findR s.data.toList l = none := by
        intro l
        induction l with
        | nil => intro _; rfl
        | cons r l ih =>
          intro h
          simp only [idxR] at h
          split at h
          · rename_i hb
            have hne : ¬ r.name = s.data.toList := fun e => by rw [e, WideAt.bytes_irrefl] at hb; cases hb
            simp only [findR, hne, if_false]
            exact ih (by simpa using h)
          · simp at h
      rw [this l h2] at h; cases h
  have hr0 := hr.alloc hB (.cells #[.string s, .int .i64 x, .bool t] 42)
  have hb0 : Below w.heap.size w (w.alloc (.cells #[.string s, .int .i64 x, .bool t] 42)) := (Below.refl _ _).alloc (Nat.le_refl _) _
  go_enter Try.func56, Try.ntmps56
  go_wp2_with fail
  refine (find_any A n c B l s _ hr0 hl (by omega) hs).mono ?_
  intro e w1 h
  obtain ⟨rfl, q, rfl⟩ := h
  have hq := below_drewN hb0 q
  have hr1 := hr.below (hq.mono hB)
  have hc1 : ∀ j, ((w.alloc (.cells #[.string s, .int .i64 x, .bool t] 42)).drewN q).cell? ⟨w.heap.size, j, none⟩ = #[Value.string s, .int .i64 x, .bool t][j]? := fun j => World.cell?_alloc_at _ _ _ _ rfl
  have hsz : w.heap.size < ((w.alloc (.cells #[.string s, .int .i64 x, .bool t] 42)).drewN q).heap.size := by simp [World.drewN]
  generalize (w.alloc (.cells #[.string s, .int .i64 x, .bool t] 42)).drewN q = w1 at *
  generalize findR s.data.toList l = fr at *
  generalize idxR s.data.toList l = i at *
  have HFI := Lib.hid hfi
  have HC := Lib.hid hc1
  clear hl hr0 hb0 hfi hc1
  have hown0 := World.ownsRow_lit (e := 42) (size := 3) w1 #[] 0 (Nat.le_refl _) (by decide) rfl
  have hrt := (hr1.takeN hidx).alloc (by omega) (.cells #[] 42)
  rw [cellsR_take] at hrt
  go_wp2_with (at_builtin; refine wpList_append_any _ rfl (.tmp 15) (.tmp 18) 36 rfl w1.heap.size 42 i0 (.agg #[.string ByteArray.empty, .int .i64 0, .bool false]) 3 32 Try.underlying36 hi hz0 hz1 hz2 rfl (by decide) _ _ _ rfl hown0 B _ _ _ (cellsR (l.take i)) rfl hrt (cellsR_one _) (by unfold maxLen; omega) (by omega) (by simp) ?_)
  intro v2 w2 hown2 hg2 _
  obtain ⟨A2, c2, rfl⟩ := own_form hown2
  have hq2 := (below_own ((Below.refl w1.heap.size w1).alloc (Nat.le_refl _) (.cells #[] 42)) (by simp) (Nat.le_refl _) hown0 hg2)
  have hb2 := hq.trans (hq2.mono hq.size)
  have hr2 := hr1.below (hq2.mono (by omega))
  have e0 : w2.cell? ⟨w.heap.size, 0, none⟩ = some (.string s) := by rw [hq2.cell (p := ⟨w.heap.size, 0, none⟩) hsz]; exact HC.out 0
  have e1 : w2.cell? ⟨w.heap.size, 1, none⟩ = some (.int .i64 x) := by rw [hq2.cell (p := ⟨w.heap.size, 1, none⟩) hsz]; exact HC.out 1
  have e2 : w2.cell? ⟨w.heap.size, 2, none⟩ = some (.bool t) := by rw [hq2.cell (p := ⟨w.heap.size, 2, none⟩) hsz]; exact HC.out 2
  have hsz2 : w1.heap.size ≤ w2.heap.size := hq2.size
  clear hg2 hown0 hrt hq hq2 hr1 HC
  have hown2a := hown2.alloc (.cells #[.string s, .int .i64 x, .bool t] 42)
  have hrx : Reads (w2.alloc (.cells #[.string s, .int .i64 x, .bool t] 42)) (w2.heap.size + 1) 3 (some ⟨w2.heap.size, 0, none⟩) 1 (cellsR [⟨s.data.toList, x, t⟩]) := by
    refine ⟨by simp [cellsR, rowV], fun _ => ⟨_, rfl, by simp, ?_⟩⟩
    have := news_alloc w2 #[.string s, .int .i64 x, .bool t] 42
    have e : cellsR [⟨s.data.toList, x, t⟩] = (#[.string s, .int .i64 x, .bool t] : Array Value).toList := by simp [cellsR, rowV, strV_of]
    rw [e]; exact this
  go_wp2_with (at_builtin; refine wpList_append_any _ rfl (.tmp 20) (.tmp 22) 36 rfl w1.heap.size 42 i0 (.agg #[.string ByteArray.empty, .int .i64 0, .bool false]) 3 32 Try.underlying36 hi hz0 hz1 hz2 rfl (by decide) _ _ _ rfl hown2a _ _ _ _ (cellsR [⟨s.data.toList, x, t⟩]) rfl hrx (cellsR_one _) (by unfold maxLen; omega) (by omega) (by simp; omega) ?_)
  intro v3 w3 hown3 hg3 _
  obtain ⟨A3, c3, rfl⟩ := own_form hown3
  rw [← cellsR_append] at hown3
  have hb3 := below_own (hb2.alloc hb2.size (.cells #[.string s, .int .i64 x, .bool t] 42)) (by simp; omega) (by omega) hown2a hg3
  have hr3 := reads_own (hr2.alloc (by omega) (.cells #[.string s, .int .i64 x, .bool t] 42)) (by simp; omega) (by omega) hown2a hg3
  have hsz3 : w1.heap.size ≤ w3.heap.size := by have := hg3.size; simp at this; omega
  clear hg3 hown2a hrx hown2 hb2 hr2 e0 e1 e2
  have last : ∀ j, j ≤ n → i ≤ j → Hid (Reads w3 B 3 (if c = j then A else A.map (·.add (j * 3))) (n - j) (cellsR (l.drop j))) := by
    intro j hj _
    have h := hr3.cut (k := j) (cap := c) hj hc
    rw [cellsR_drop] at h
    exact h
  have fin : ∀ (j : Nat) (w5 : World) (A5 : Option Addr) (c5 : Nat), j ≤ n → i ≤ j → j = i + (if fr.isSome = true then 1 else 0) → w5.ownsRow w1.heap.size 42 3 (.slice A5 (i + 1 + (n - j)) c5) (i + 1 + (n - j)) (cellsR (l.take i ++ [⟨s.data.toList, x, t⟩]) ++ cellsR (l.drop j)) → Below w.heap.size w w5 →
      PutEnd w (putR ⟨s.data.toList, x, t⟩ l) (.returned (.slice A5 (i + 1 + (n - j)) c5)) w5 := by
    intro j w5 A5 c5 hj hij hje ho hb
    have hlist : putR ⟨s.data.toList, x, t⟩ l = l.take i ++ [⟨s.data.toList, x, t⟩] ++ l.drop j := by rw [HP.out, hje]; simp
    have hlen : (putR ⟨s.data.toList, x, t⟩ l).length = i + 1 + (n - j) := by rw [hlist]; simp [HL.out]; omega
    rw [← cellsR_append, ← hlist] at ho
    unfold PutEnd
    rw [hlen]
    refine ⟨A5, c5, rfl, ⟨ho.1, ?_⟩, hb⟩
    rcases ho.2 with h | ⟨g, cap, cur, h1, h2, h3⟩
    · exact .inl h
    · exact .inr ⟨g, cap, cur, h1, by omega, h3⟩
  have FIN := Lib.hid fin
  have LAST := Lib.hid last
  clear fin last
  cases fr with
  | none =>
    have hla := (LAST.out i hidx (Nat.le_refl _)).out
    simp only [Option.isSome_none]
    go_wp2_with (at_builtin; refine wpList_append_any _ rfl (.tmp 27) (.tmp 30) 36 rfl w1.heap.size 42 i0 (.agg #[.string ByteArray.empty, .int .i64 0, .bool false]) 3 32 Try.underlying36 hi hz0 hz1 hz2 rfl (by decide) _ _ _ rfl hown3 B _ _ _ (cellsR (l.drop i)) rfl hla (cellsR_one _) (by unfold maxLen; omega) (by omega) hsz3 ?_)
    all_goals
      intro v5 w5 hown5 hg5 _
      obtain ⟨A5, c5, rfl⟩ := own_form hown5
      have hb5 := below_own hb3 hb3.size (by omega) hown3 hg5
      have hfin := FIN.out i w5 A5 c5 (by omega) (by omega) rfl hown5 hb5
      have HFN := Lib.hid hfin
      clear hfin hg5 hown3 hown5 hb3 hb5 hr3 hla
      go_wp2_with fail
      go_ret
      exact HFN.out
  | some r =>
    have hin := HFI.out rfl
    have hla := (LAST.out (i + 1) hin (by omega)).out
    simp only [Option.isSome_some]
    go_wp2_with (at_builtin; refine wpList_append_any _ rfl (.tmp 27) (.tmp 30) 36 rfl w1.heap.size 42 i0 (.agg #[.string ByteArray.empty, .int .i64 0, .bool false]) 3 32 Try.underlying36 hi hz0 hz1 hz2 rfl (by decide) _ _ _ rfl hown3 B _ _ _ (cellsR (l.drop (i + 1))) rfl hla (cellsR_one _) (by unfold maxLen; omega) (by omega) hsz3 ?_)
    all_goals
      intro v5 w5 hown5 hg5 _
      obtain ⟨A5, c5, rfl⟩ := own_form hown5
      have hb5 := below_own hb3 hb3.size (by omega) hown3 hg5
      have hfin := FIN.out (i + 1) w5 A5 c5 (by omega) (by omega) rfl hown5 hb5
      have HFN := Lib.hid hfin
      clear hfin hg5 hown3 hown5 hb3 hb5 hr3 hla
      go_wp2_with fail
      go_ret
      exact HFN.out
end Go.Proofs.Ytmondfckpgjikaa
