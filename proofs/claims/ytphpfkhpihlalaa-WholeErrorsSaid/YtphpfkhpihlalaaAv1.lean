/- The walks of avl.Balanced, two, four. -/
import Derived.Test.YtphpfkhpihlalaaIn7
namespace Go.Proofs.Ytphpfkhpihlalaa
open Go.RowKit
theorem balanced_any {w : World} {F : Nat → Prop} {p m : Nat} {E : List En} (h : StAt w F p m E) (id : Nat) (e : En) (he : atE E id = some e) : Calls Try.prog 18 #[ptr p, .int .i64 (id : Int)] w fun r w' => r = .returned (.tuple #[.bool e.even, .nilIface]) ∧ Below w.heap.size w w' := by
  have h1 := depth_any h id e he
  have h2 := fun W (hb : Below w.heap.size w W) => even_any (h.below hb) id e he
  generalize (e.depth : Int) = d at h1
  generalize e.even = ev at h2 ⊢
  unfold ptr at *
  clear he h
  go_enter Try.func18, Try.ntmps18
  go_wp2_with fail
  refine h1.mono ?_
  rintro _ w1 ⟨rfl, hb1⟩
  go_wp2_with fail
  refine (h2 _ hb1).mono ?_
  rintro _ w2 ⟨rfl, hb2⟩
  have HQ := Lib.hid (hb1.trans (hb2.mono hb1.size))
  clear hb1 hb2 h1 h2
  go_wp2_with fail
  refine bodyPost_ret (v := .tuple #[.bool ev, .nilIface]) (by simp [results, Try.results18, go_sem]) rfl ?_
  exact ⟨rfl, HQ.out⟩
theorem newF_sub {F : Nat → Prop} {w w1 : World} : ∀ i, NewF F w w1 i → F i ∨ w.heap.size ≤ i := fun _ h => h.1
set_option maxRecDepth 100000 in
theorem two_any {w : World} {F : Nat → Prop} {p m : Nat} {E : List En} (hE : EOk E) (h : StAt w F p m E) {a b c da db dc : Nat} {ta tb tc : List UInt8} (ha : Tx E a ta da) (hb : Tx E b tb db) (hc : Tx E c tc dc) (h1 : near db dc = true) (h2 : near da (1 + max db dc) = true) (hs : ta.length + (tb.length + tc.length) ≤ 1152921504606846976) :
    Calls Try.prog 90 #[ptr p, .int .i64 (a : Int), .int .i64 (b : Int), .int .i64 (c : Int)] w (AvEnd 50 w F p m E 2 (fun E' id => Tx E' id (ta ++ (tb ++ tc)) (1 + max da (1 + max db dc)))) := by
  have g1 := pair_any hE h hb hc h1 (by omega)
  have HP := Lib.hid (fun (E1 : List En) (he : EOk E1) (hx : Ext E E1) W F1 (hst : StAt W F1 p m E1) (id : Nat) (hid : Tx E1 id (tb ++ tc) (1 + max db dc)) => pair_any he hst (ha.ext hx) hid h2 (by rw [List.length_append]; exact hs))
  clear hE h ha hb hc h1 h2 hs
  unfold ptr at *
  go_enter Try.func90, Try.ntmps90
  go_wp2_with fail
  refine g1.mono ?_
  rintro _ w1 ⟨⟨E1, o⟩, ho, rfl, hk, hst⟩
  have HO := Lib.hid ho
  have HK := Lib.hid hk
  have HS := Lib.hid hst
  clear ho hk hst g1
  cases o with
  | none =>
    unfold idV
    go_wp2_with fail
    refine bodyPost_ret (v := .tuple #[.int .i64 0, .iface 50 (.int .i64 3)]) (by simp [results, Try.results90, go_sem]) rfl ?_
    exact ⟨(E1, none), HO.out.fail (by omega), rfl, HK.out, HS.out⟩
  | some r =>
    have g2 := HP.out E1 HO.out.ok HO.out.ext w1 _ HS.out r (HO.out.good r rfl)
    unfold idV
    go_wp2_with fail
    refine g2.mono ?_
    intro e w2 hav
    have HA := Lib.hid hav
    obtain ⟨⟨E2, o2⟩, ho2, rfl, hk2, hst2⟩ := hav
    clear ho2 hk2 hst2 g2
    cases o2 with
    | none =>
      unfold idV at *
      go_wp2_with fail
      refine bodyPost_ret (v := .tuple #[.int .i64 0, .iface 50 (.int .i64 3)]) (by simp [results, Try.results90, go_sem]) rfl ?_
      exact (HA.out.then_ HK.out newF_sub HO.out.ext HO.out.len).relax (by omega) (fun _ _ h => h)
    | some r2 =>
      unfold idV at *
      go_wp2_with fail
      refine bodyPost_ret (v := .tuple #[.int .i64 (r2 : Int), .nilIface]) (by simp [results, Try.results90, go_sem]) rfl ?_
      exact (HA.out.then_ HK.out newF_sub HO.out.ext HO.out.len).relax (by omega) (fun _ _ h => h)
end Go.Proofs.Ytphpfkhpihlalaa
