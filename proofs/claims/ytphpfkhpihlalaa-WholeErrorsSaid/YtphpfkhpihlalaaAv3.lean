/- The walk of avl.parts at a pair. -/
import Derived.Test.YtphpfkhpihlalaaAv2
namespace Go.Proofs.Ytphpfkhpihlalaa
open Go.RowKit
set_option maxRecDepth 100000 in
set_option maxHeartbeats 1000000 in
theorem parts_any {w : World} {F : Nat → Prop} {p m : Nat} {E : List En} (h : StAt w F p m E) (id : Nat) (hp : 0 < id) {l r : Nat} {x y z : En} (hz : atE E id = some z) (hzr : z.ru = Ru.pair l r) (hx : atE E l = some x) (hy : atE E r = some y) :
    Calls Try.prog 72 #[ptr p, .int .i64 (id : Int)] w fun e w' => e = .returned (.tuple #[.int .i64 (l : Int), .int .i64 (r : Int), .int .i64 (x.depth : Int), .int .i64 (y.depth : Int), .nilIface]) ∧ Below w.heap.size w w' := by
  have h1 := rule_any h id z hp hz
  rw [hzr, show encR (Ru.pair l r) = .agg #[.int .i64 2, .int .u8 0, .int .i64 (l : Int), .int .i64 (r : Int), .int .i64 0] from rfl] at h1
  have h2 := fun W (hb : Below w.heap.size w W) => depth_any (h.below hb) l x hx
  have h3 := fun W (hb : Below w.heap.size w W) => depth_any (h.below hb) r y hy
  generalize (x.depth : Int) = dx at h2 ⊢
  generalize (y.depth : Int) = dy at h3 ⊢
  unfold ptr at *
  clear h hz hzr hx hy hp
  go_enter Try.func72, Try.ntmps72
  go_wp2_with fail
  refine h1.mono ?_
  rintro _ w1 ⟨rfl, hb1⟩
  have HB1 := Lib.hid hb1
  clear hb1 h1
  go_upto_region 4 with (fail)
  have HK := Lib.hid (Blk.new w1 95 #[.int .i64 2, .int .u8 0, .int .i64 (l : Int), .int .i64 (r : Int), .int .i64 0])
  have HB2 := Lib.hid (HB1.out.alloc HB1.out.size (.cells #[.int .i64 2, .int .u8 0, .int .i64 (l : Int), .int .i64 (r : Int), .int .i64 0] 95))
  obtain ⟨w2, hw2⟩ : ∃ w2, w2 = w1.alloc (.cells #[.int .i64 2, .int .u8 0, .int .i64 (l : Int), .int .i64 (r : Int), .int .i64 0] 95) := ⟨_, rfl⟩
  rw [← hw2] at HK HB2 ⊢
  clear hw2
  have z2 := HK.out.cell 2
  simp only [List.getElem?_toArray, List.getElem?_cons_zero, List.getElem?_cons_succ] at z2
  go_wp2_with fail
  refine (h2 _ HB2.out).mono ?_
  rintro _ w3 ⟨rfl, hb3⟩
  have HK3 := Lib.hid (HK.out.below hb3 HK.out.lt)
  have HB3 := Lib.hid (HB2.out.trans (hb3.mono HB2.out.size))
  clear hb3 h2 z2
  have z2 := HK3.out.cell 2
  have z3 := HK3.out.cell 3
  simp only [List.getElem?_toArray, List.getElem?_cons_zero, List.getElem?_cons_succ] at z2 z3
  go_wp2_with fail
  refine (h3 _ HB3.out).mono ?_
  rintro _ w4 ⟨rfl, hb4⟩
  have HK4 := Lib.hid (HK3.out.below hb4 HK3.out.lt)
  have HB4 := Lib.hid (HB3.out.trans (hb4.mono HB3.out.size))
  clear hb4 h3 z2 z3
  have z2 := HK4.out.cell 2
  have z3 := HK4.out.cell 3
  simp only [List.getElem?_toArray, List.getElem?_cons_zero, List.getElem?_cons_succ] at z2 z3
  go_wp2_with fail
  go_quiet (fail)
  go_wp2_with fail
  refine bodyPost_ret (v := .tuple #[.int .i64 (l : Int), .int .i64 (r : Int), .int .i64 dx, .int .i64 dy, .nilIface]) (by simp [results, Try.results72, go_sem]) rfl ?_
  exact ⟨rfl, below_drewN HB4.out _⟩
end Go.Proofs.Ytphpfkhpihlalaa
