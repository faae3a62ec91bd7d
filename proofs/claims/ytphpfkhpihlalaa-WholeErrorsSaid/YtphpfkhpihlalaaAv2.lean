/- The walk of avl.four. -/
import Derived.Test.YtphpfkhpihlalaaAv1
namespace Go.Proofs.Ytphpfkhpihlalaa
open Go.RowKit
set_option maxRecDepth 100000 in
theorem four_any {w : World} {F : Nat → Prop} {p m : Nat} {E : List En} (hE : EOk E) (h : StAt w F p m E) {a b c d da db dc dd : Nat} {ta tb tc td : List UInt8} (ha : Tx E a ta da) (hb : Tx E b tb db) (hc : Tx E c tc dc) (hd : Tx E d td dd) (h1 : near da db = true) (h2 : near dc dd = true) (h3 : near (1 + max da db) (1 + max dc dd) = true) (hs : (ta.length + tb.length) + (tc.length + td.length) ≤ 1152921504606846976) :
    Calls Try.prog 91 #[ptr p, .int .i64 (a : Int), .int .i64 (b : Int), .int .i64 (c : Int), .int .i64 (d : Int)] w (AvEnd 50 w F p m E 3 (fun E' id => Tx E' id ((ta ++ tb) ++ (tc ++ td)) (1 + max (1 + max da db) (1 + max dc dd)))) := by
  have g1 := pair_any hE h ha hb h1 (by omega)
  have HP := Lib.hid (fun (E1 : List En) (he : EOk E1) (hx : Ext E E1) W F1 (hst : StAt W F1 p m E1) (id : Nat) (hid : Tx E1 id (ta ++ tb) (1 + max da db)) => two_any he hst hid (hc.ext hx) (hd.ext hx) h2 h3 (by rw [List.length_append]; exact hs))
  clear hE h ha hb hc hd h1 h2 h3 hs
  unfold ptr at *
  go_enter Try.func91, Try.ntmps91
  go_wp2_with fail
  refine g1.mono ?_
  rintro _ w1 ⟨⟨E1, o⟩, ho, rfl, hk, hst⟩
  have HO := Lib.hid ho
  have HK := Lib.hid hk
  have HS := Lib.hid hst
  clear ho hk hst g1
  cases o with
  | none =>
    unfold idV
    go_wp2_with fail
    refine bodyPost_ret (v := .tuple #[.int .i64 0, .iface 50 (.int .i64 3)]) (by simp [results, Try.results91, go_sem]) rfl ?_
    exact ⟨(E1, none), HO.out.fail (by omega), rfl, HK.out, HS.out⟩
  | some r =>
    have g2 := HP.out E1 HO.out.ok HO.out.ext w1 _ HS.out r (HO.out.good r rfl)
    unfold idV
    go_wp2_with fail
    refine g2.mono ?_
    intro e w2 hav
    have HA := Lib.hid hav
    obtain ⟨⟨E2, o2⟩, ho2, rfl, hk2, hst2⟩ := hav
    clear ho2 hk2 hst2 g2
    cases o2 with
    | none =>
      unfold idV at *
      go_wp2_with fail
      refine bodyPost_ret (v := .tuple #[.int .i64 0, .iface 50 (.int .i64 3)]) (by simp [results, Try.results91, go_sem]) rfl ?_
      exact (HA.out.then_ HK.out newF_sub HO.out.ext HO.out.len).relax (by omega) (fun _ _ h => h)
    | some r2 =>
      unfold idV at *
      go_wp2_with fail
      refine bodyPost_ret (v := .tuple #[.int .i64 (r2 : Int), .nilIface]) (by simp [results, Try.results91, go_sem]) rfl ?_
      exact (HA.out.then_ HK.out newF_sub HO.out.ext HO.out.len).relax (by omega) (fun _ _ h => h)
end Go.Proofs.Ytphpfkhpihlalaa
