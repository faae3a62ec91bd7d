/- Plain: what the files are, call by call, in FilesPrefixes. -/
import Derived.Test.YthmbmecodddkeaaBegun
namespace Go.Proofs.Ythmbmecodddkeaa
open Go.RowKit Go.WideMaps
def Synced (fs : List AF) : Prop := ∀ f ∈ fs, f.sync = f.data.length
theorem crash1_synced {f : AF} (ks : List Int) (h : f.sync ≤ f.data.length) : (crash1 f ks).1.sync = (crash1 f ks).1.data.length := by
  unfold crash1
  split
  · rename_i h0
    show f.sync = f.data.length
    omega
  · split
    · simp only [cutF, List.length_take]; omega
    · simp only [cutF, List.length_take]
      rename_i k t
      have : (clipI k 0 ((f.data.length - f.sync : Nat) : Int)).toNat ≤ f.data.length - f.sync := by
        unfold clipI
        split
        · omega
        · split <;> omega
      omega
theorem crash_synced : ∀ (fs : List AF) (ks : List Int), (∀ f ∈ fs, f.sync ≤ f.data.length) → Synced (crashL fs ks)
  | [], _, _ => fun f hf => by cases hf
  | f :: t, ks, h => fun g hg => by
    simp only [crashL, List.mem_cons] at hg
    rcases hg with rfl | hg
    · exact crash1_synced ks (h f (by simp))
    · exact crash_synced t _ (fun x hx => h x (by simp [hx])) g hg
theorem crash1_same {f : AF} (ks : List Int) (h : f.sync = f.data.length) : crash1 f ks = (f, ks) := by
  unfold crash1
  rw [if_pos (by omega)]
theorem crashL_same : ∀ (fs : List AF) (ks : List Int), Synced fs → crashL fs ks = fs
  | [], _, _ => rfl
  | f :: t, ks, h => by
    simp only [crashL]
    rw [crash1_same ks (h f (by simp)), crashL_same t ks (fun x hx => h x (by simp [hx]))]
theorem find_crash (nm : List UInt8) : ∀ (fs : List AF) (ks : List Int), (∀ f ∈ fs, f.name ≠ nm → f.sync = f.data.length) → findA nm (crashL fs ks) = (findA nm fs).map fun f => (crash1 f ks).1
  | [], _, _ => rfl
  | f :: t, ks, h => by
    unfold findA
    simp only [crashL, findG]
    rw [crash1_name]
    by_cases e : f.name = nm
    · rw [if_pos e, if_pos e]; rfl
    · rw [if_neg e, if_neg e]
      rw [crash1_same ks (h f (by simp) e)]
      exact find_crash nm t ks (fun x hx => h x (by simp [hx]))
theorem putG_others {fs : List AF} {x : AF} (h : Synced fs) : ∀ f ∈ putG AF.name x fs, f.name ≠ x.name → f.sync = f.data.length := fun f hf hne => by
  rcases mem_putG x fs f hf with rfl | ⟨hf, _⟩
  · exact absurd rfl hne
  · exact h f hf
theorem find_put {fs : List AF} {x : AF} (hr : RisingG AF.name fs) : findA x.name (putG AF.name x fs) = some x := by
  unfold findA
  induction fs with
  | nil => simp [putG, findG]
  | cons y t ih =>
    have ht : RisingG AF.name t := (List.pairwise_cons.1 hr).2
    simp only [putG]
    split
    · simp [findG]
    · rename_i e
      split
      · simp [findG]
      · simp only [findG, e, if_false]
        exact ih ht
/-- The states of FilesPrefixes, call by call. -/
structure Pre (nm : ByteArray) (first second : List UInt8) (k : Int) (st1 st2 st3 st4 st5 : AS) (was : List UInt8) : Prop where
  a1 : appendA st1 nm first = (st2, 0)
  s1 : syncA st2 nm = (st3, 0)
  r1 : ∃ s, findA nm.data.toList st3.files = some ⟨nm.data.toList, was, s⟩
  old : ∃ o, was = o ++ first
  a2 : appendA st3 nm second = (st4, 0)
  r2 : ∃ s, findA nm.data.toList st4.files = some ⟨nm.data.toList, was ++ second, s⟩
  c2 : st5 = ⟨crashL st4.files [k], false, false, 0⟩
  r3 : ∃ s, findA nm.data.toList st5.files = some ⟨nm.data.toList, was ++ second.take (min (max k 0) second.length).toNat, s⟩
  c3 : (⟨crashL st5.files [], false, false, 0⟩ : AS) = st5
theorem pre_law {st : AS} {nm : ByteArray} {first second : List UInt8} {k : Int} {D : Nat} (hv : validN nm = true) (hr : RisingG AF.name st.files) (hs : ∀ f ∈ st.files, f.sync ≤ f.data.length) (hD : InvD D st.files) (hl : D + first.length + second.length ≤ 16777216) :
    ∃ st2 st3 st4 st5 was, Pre nm first second k ⟨crashL st.files [], false, false, 0⟩ st2 st3 st4 st5 was := by
  have hs1 := crash_synced st.files [] hs
  have hD1 := invD_crash st.files [] hD
  have hr1 : RisingG AF.name (crashL st.files []) := by
    have h : RisingG id ((crashL st.files []).map AF.name) := by
      rw [crashL_names]
      unfold RisingG
      rw [List.pairwise_map]
      exact hr
    unfold RisingG at h
    rw [List.pairwise_map] at h
    exact h
  generalize crashL st.files [] = fs at *
  obtain ⟨f, hf⟩ : ∃ f, f = (findA nm.data.toList fs).getD ⟨nm.data.toList, [], 0⟩ := ⟨_, rfl⟩
  have hfl : f.data.length ≤ D ∧ f.sync = f.data.length := by
    rw [hf]
    cases hh : findA nm.data.toList fs with
    | none => simp
    | some g => exact ⟨hD1.find hh, hs1 g (findG_name hh).2⟩
  have b0 : ∀ x, beginA ⟨x, false, false, 0⟩ (validN nm) = (⟨x, false, false, 0⟩, 0) := fun x => begin_ok _ nm hv rfl rfl
  have e1 : appendA ⟨fs, false, false, 0⟩ nm first = (⟨putG AF.name ⟨nm.data.toList, f.data ++ first, f.sync⟩ fs, false, false, 0⟩, 0) := by
    rw [appendA_ok (by rw [b0])]
    show (if 16777216 < ((findA nm.data.toList fs).getD ⟨nm.data.toList, [], 0⟩).data.length + first.length then _ else _) = _
    rw [← hf, if_neg (by omega)]
    rfl
  obtain ⟨was, hwas⟩ : ∃ was, was = f.data ++ first := ⟨_, rfl⟩
  have hwl : was.length ≤ D + first.length := by rw [hwas, List.length_append]; omega
  rw [← hwas] at e1
  have hr2 := risingG_put (nm := AF.name) ⟨nm.data.toList, was, f.sync⟩ fs hr1
  have f2 := find_put (x := ⟨nm.data.toList, was, f.sync⟩) hr1
  have e2 : syncA ⟨putG AF.name ⟨nm.data.toList, was, f.sync⟩ fs, false, false, 0⟩ nm = (⟨putG AF.name ⟨nm.data.toList, was, was.length⟩ (putG AF.name ⟨nm.data.toList, was, f.sync⟩ fs), false, false, 0⟩, 0) := by
    rw [syncA_ok (by rw [b0])]
    simp only at f2
    rw [show findA nm.data.toList (⟨putG AF.name ⟨nm.data.toList, was, f.sync⟩ fs, false, false, 0⟩ : AS).files = _ from f2]
    rfl
  obtain ⟨gs, hgs⟩ : ∃ gs, gs = putG AF.name ⟨nm.data.toList, was, was.length⟩ (putG AF.name ⟨nm.data.toList, was, f.sync⟩ fs) := ⟨_, rfl⟩
  have hr3 : RisingG AF.name gs := by rw [hgs]; exact risingG_put _ _ hr2
  have f3 : findA nm.data.toList gs = some ⟨nm.data.toList, was, was.length⟩ := by rw [hgs]; exact find_put (x := ⟨nm.data.toList, was, was.length⟩) hr2
  have hs3 : Synced gs := by
    rw [hgs]
    intro g hg
    rcases mem_putG _ _ g hg with rfl | ⟨hg, hne⟩
    · rfl
    · rcases mem_putG _ _ g hg with rfl | ⟨hg, _⟩
      · exact absurd rfl (hne hr2)
      · exact hs1 g hg
  rw [← hgs] at e2
  have e3 : appendA ⟨gs, false, false, 0⟩ nm second = (⟨putG AF.name ⟨nm.data.toList, was ++ second, was.length⟩ gs, false, false, 0⟩, 0) := by
    rw [appendA_ok (by rw [b0])]
    show (if 16777216 < ((findA nm.data.toList gs).getD ⟨nm.data.toList, [], 0⟩).data.length + second.length then _ else _) = _
    rw [f3]
    simp only [Option.getD_some]
    rw [if_neg (by omega)]
    rfl
  obtain ⟨hs, hhs⟩ : ∃ hs, hs = putG AF.name ⟨nm.data.toList, was ++ second, was.length⟩ gs := ⟨_, rfl⟩
  have f4 : findA nm.data.toList hs = some ⟨nm.data.toList, was ++ second, was.length⟩ := by rw [hhs]; exact find_put (x := ⟨nm.data.toList, was ++ second, was.length⟩) hr3
  have ho : ∀ g ∈ hs, g.name ≠ nm.data.toList → g.sync = g.data.length := by
    rw [hhs]; exact putG_others (x := ⟨nm.data.toList, was ++ second, was.length⟩) hs3
  have hle : ∀ g ∈ hs, g.sync ≤ g.data.length := by
    intro g hg
    rw [hhs] at hg
    rcases mem_putG _ _ g hg with rfl | ⟨hg, _⟩
    · simp
    · exact Nat.le_of_eq (hs3 g hg)
  rw [← hhs] at e3
  have f5 := find_crash nm.data.toList hs [k] ho
  rw [f4] at f5
  have hc5 := crash_synced hs [k] hle
  refine ⟨_, _, _, ⟨crashL hs [k], false, false, 0⟩, was, e1, e2, ⟨_, f3⟩, ⟨_, hwas⟩, e3, ⟨_, f4⟩, rfl, ?_, by rw [show (⟨crashL hs [k], false, false, 0⟩ : AS).files = crashL hs [k] from rfl, crashL_same _ [] hc5]⟩
  refine ⟨((crash1 ⟨nm.data.toList, was ++ second, was.length⟩ [k]).1).sync, ?_⟩
  show findA nm.data.toList (crashL hs [k]) = _
  rw [f5]
  simp only [Option.map_some, Option.some.injEq]
  have hx : (crash1 ⟨nm.data.toList, was ++ second, was.length⟩ [k]).1.data = was ++ second.take (min (max k 0) second.length).toNat := by
    unfold crash1
    by_cases h0 : second.length = 0
    · have : second = [] := List.length_eq_zero_iff.1 h0
      subst this
      simp
    · rw [if_neg (by simp only [List.length_append]; omega)]
      simp only [cutF]
      have hD : (was ++ second).length - was.length = second.length := by rw [List.length_append]; omega
      rw [hD]
      have hcl : (clipI k 0 (second.length : Int)).toNat = (min (max k 0) second.length).toNat := by
        unfold clipI
        split
        · omega
        · split <;> omega
      rw [hcl, List.take_length_add_append]
  have hn : (crash1 ⟨nm.data.toList, was ++ second, was.length⟩ [k]).1.name = nm.data.toList := crash1_name _ _
  generalize crash1 ⟨nm.data.toList, was ++ second, was.length⟩ [k] = q at *
  obtain ⟨⟨q1, q2, q3⟩, q4⟩ := q
  simp only at hx hn ⊢
  rw [hx, hn]
end Go.Proofs.Ythmbmecodddkeaa
