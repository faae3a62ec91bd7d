/- The walk of the law's great: how large the scripts are together. -/
import Derived.Test.YthmbmecodddkeaaBegun
namespace Go.Proofs.Ythmbmecodddkeaa
open Go.RowKit Go.WideMaps
def grS (l : List ActR) (k : Nat) : Nat := ((l.take k).map fun a => a.nd / 10 + a.mm).sum
theorem grS_succ (l : List ActR) (k : Nat) (hk : k < l.length) : grS l (k + 1) = grS l k + (l[k].nd / 10 + l[k].mm) := by
  unfold grS
  rw [List.take_succ_eq_append_getElem hk, List.map_append, List.sum_append]
  simp
theorem grS_sum : ∀ (l : List ActR) (k : Nat), grS l k ≤ (l.map fun a => a.nd + a.mm + 1).sum
  | [], k => by simp [grS]
  | a :: t, 0 => by simp [grS]
  | a :: t, k + 1 => by
    have := grS_sum t k
    unfold grS at this ⊢
    simp only [List.take_succ_cons, List.map_cons, List.sum_cons]
    omega
theorem len_sum : ∀ l : List ActR, l.length ≤ (l.map fun a => a.nd + a.mm + 1).sum
  | [] => Nat.le_refl _
  | a :: t => by have := len_sum t; simp only [List.length_cons, List.map_cons, List.sum_cons]; omega
def grN (l : List ActR) : Nat := l.length + grS l l.length
/-- If a script is not great: each act is small, and the bytes together are few. -/
theorem gr_small : ∀ (l : List ActR), (∀ a ∈ l, a.nd ≤ 9 + 10 * grS l l.length ∧ a.mm ≤ grS l l.length) ∧ dataSum l l.length ≤ 9 * l.length + 10 * grS l l.length
  | [] => ⟨(fun a h => by cases h), by simp [dataSum]⟩
  | a :: t => by
    obtain ⟨h1, h2⟩ := gr_small t
    have e : grS (a :: t) (a :: t).length = a.nd / 10 + a.mm + grS t t.length := by simp [grS]
    have e2 : dataSum (a :: t) (a :: t).length = a.nd + dataSum t t.length := by simp [dataSum]
    rw [e, e2]
    refine ⟨fun b hb => ?_, by simp only [List.length_cons]; omega⟩
    rcases List.mem_cons.1 hb with rfl | hb
    · omega
    · have := h1 b hb; omega
def totN (ss : List (List ActR)) (k : Nat) : Nat := ((ss.take k).map grN).sum
theorem totN_succ (ss : List (List ActR)) (k : Nat) (hk : k < ss.length) : totN ss (k + 1) = totN ss k + grN ss[k] := by
  unfold totN
  rw [List.take_succ_eq_append_getElem hk, List.map_append, List.sum_append]
  simp
def GrE (w : World) (b : Bool) (e : Ending) (w' : World) : Prop := e = .returned (.bool b) ∧ Below w.heap.size w w'
structure ScrM (w : World) (B : Option Addr) (m : Nat) (vs : List Value) (ss : List (List ActR)) : Prop where
  rd : Reads w w.heap.size 1 B m vs
  len : ss.length = m
  at_ : ∀ i (hi : i < ss.length), ∃ A n c, vs[i]? = some (.slice A n c) ∧ ActsM w A n ss[i]
def GoRel (w : World) (m : Nat) (ss : List (List ActR)) (s3 s10 : Value) (wr : World) : Prop := ∃ k, k ≤ m ∧ s10 = .int .i64 (k : Nat) ∧ s3 = .int .i64 ((totN ss k : Nat) : Int) ∧ totN ss k ≤ 2097152 * k ∧ Below w.heap.size w wr
def GiRel (wo : World) (T n : Nat) (l : List ActR) (s3 s20 : Value) (wr : World) : Prop := ∃ j, j ≤ n ∧ s20 = .int .i64 (j : Nat) ∧ s3 = .int .i64 ((T + grS l j : Nat) : Int) ∧ Below wo.heap.size wo wr
set_option maxRecDepth 100000 in
set_option maxHeartbeats 2000000 in
theorem great_any (B : Option Addr) (m cb : Nat) (vs : List Value) (ss : List (List ActR)) (w : World) (hS : ScrM w B m vs ss) (hm : m ≤ 2) :
    Calls Try.prog 19 #[.slice B m cb] w (GrE w (decide (400 < totN ss ss.length))) := by
  have HS := Lib.hid hS
  have hrd := hS.rd
  clear hS
  go_enter Try.func19, Try.ntmps19
  go_wp2_with fail
  go_loopw [3, 10] (fun s3 s10 wr => GoRel w m ss s3 s10 wr) (fun _ s10 _ => m - (intOf s10).toNat)
  case atStart => exact ⟨0, Nat.zero_le _, rfl, rfl, Nat.le_refl _, Below.refl _ _⟩
  case round =>
    obtain ⟨k, hk, rfl, rfl, hT, hbr⟩ := hrel
    by_cases hlt : k < m
    · have hks : k < ss.length := by rw [HS.out.len]; exact hlt
      obtain ⟨A, n, c, hv, hA⟩ := HS.out.at_ k hks
      obtain ⟨bb, oo, e1, hbb, hc⟩ := (hrd.below hbr).form (by omega)
      have c0 := hc k _ hv
      have htn := totN_succ ss k hks
      have HTN := Lib.hid htn
      clear hc htn hv
      have hsum := hA.sum
      have hln := len_sum ss[k]
      have hll := hA.len
      have hgs := fun j => grS_sum ss[k] j
      generalize ss[k] = l at *
      have HA := Lib.hid hA
      have HGS := Lib.hid hgs
      have HLL := Lib.hid hll
      have hn9 : n ≤ 1048576 := by omega
      have hgn : grN l ≤ 2097152 := by unfold grN; have := hgs l.length; omega
      clear hA hgs hsum hln hll
      have E1 := Lib.hid e1
      have hq1 := E1.out
      subst hq1
      obtain ⟨wo, rfl⟩ : ∃ wo : World, wo = wr := ⟨_, rfl⟩
      generalize totN ss k = T at *
      go_wp2_with fail
      go_loopw [3, 20] (fun s3 s20 wr => GiRel wo (T + n) n l s3 s20 wr) (fun _ s20 _ => n - (intOf s20).toNat)
      case atStart => exact ⟨0, Nat.zero_le _, rfl, by simp [grS], Below.refl _ _⟩
      case round =>
        obtain ⟨j, hj, rfl, rfl, hbi⟩ := hrel
        by_cases hlj : j < n
        · have hjl : j < l.length := by rw [HLL.out]; exact hlj
          obtain ⟨b, o, e2, hat⟩ := HA.out.at_ j hjl
          have hgss := grS_succ l j hjl
          have hg1 : grS l (j + 1) ≤ 1048576 := Nat.le_trans (HGS.out _) HA.out.sum
          have HGSS := Lib.hid hgss
          generalize l[j] = a at *
          have hbw := hbr.trans (hbi.mono hbr.size)
          have c0 := (hbw.cell (p := ⟨b, o + j * 6, none⟩) hat.blt).trans hat.c0
          have c1 := (hbw.cell (p := ⟨b, o + j * 6 + 1, none⟩) hat.blt).trans hat.c1
          have c2 := (hbw.cell (p := ⟨b, o + j * 6 + 2, none⟩) hat.blt).trans hat.c2
          have c3 := (hbw.cell (p := ⟨b, o + j * 6 + 3, none⟩) hat.blt).trans hat.c3
          have c4 := (hbw.cell (p := ⟨b, o + j * 6 + 4, none⟩) hat.blt).trans hat.c4
          have c5 := (hbw.cell (p := ⟨b, o + j * 6 + 5, none⟩) hat.blt).trans hat.c5
          have hnd9 : a.nd ≤ 10485769 ∧ a.mm ≤ 1048576 := by omega
          have hgj : grS l j + (a.nd / 10 + a.mm) ≤ 1048576 := by omega
          clear hat hbw hgss hg1
          obtain ⟨ak, ax, anm, aot, aAd, nd, acd, aAk, mm, ack, adata, akeep⟩ := a
          simp only at c0 c1 c2 c3 c4 c5 HGSS hnd9 hgj
          generalize grS l j = g at *
          have E2 := Lib.hid e2
          have hq2 := E2.out
          subst hq2
          obtain ⟨hnd1, hnd2⟩ := hnd9
          go_wp2_with fail
          go_roundw
          · refine ⟨j + 1, hlj, by go_num, ?_, hbi.alloc hbi.size _⟩
            rw [HGSS.out]
            show Value.int .i64 _ = Value.int .i64 _
            congr 1
            omega
          · simp [intOf]; omega
        · have hjd : decide ((j : Int) < (n : Int)) = false := by simp; omega
          have hjn : j = n := by omega
          have HJ := Lib.hid hjn
          clear hjn
          go_wp2_with fail
          go_roundw
          · have hgl : grS l n ≤ 1048576 := Nat.le_trans (HGS.out _) HA.out.sum
            refine ⟨k + 1, hlt, by go_num, ?_, ?_, hbr.trans (hbi.mono hbr.size)⟩
            · rw [HTN.out]
              unfold grN
              rw [HLL.out, HJ.out, Nat.add_assoc]
            · rw [HTN.out]; omega
          · simp [intOf]; omega
    · have hkd : decide ((k : Int) < (m : Int)) = false := by simp; omega
      have HK := Lib.hid (show ss.length = k by rw [HS.out.len]; omega)
      by_cases hg : 400 < totN ss k
      · have hgd : decide ((400 : Int) < ((totN ss k : Nat) : Int)) = true := by simp; omega
        have HG := Lib.hid (show decide (400 < totN ss ss.length) = true by rw [HK.out]; exact decide_eq_true hg)
        generalize totN ss k = T at *
        go_wp2_with fail
        go_ret
        rw [HG.out]
        exact ⟨rfl, hbr⟩
      · have hgd : decide ((400 : Int) < ((totN ss k : Nat) : Int)) = false := by simp; omega
        have HG := Lib.hid (show decide (400 < totN ss ss.length) = false by rw [HK.out]; exact decide_eq_false hg)
        generalize totN ss k = T at *
        go_wp2_with fail
        go_ret
        rw [HG.out]
        exact ⟨rfl, hbr⟩
end Go.Proofs.Ythmbmecodddkeaa
