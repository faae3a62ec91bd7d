/- The walk of the store's Pair at two balanced texts of nearly the same depth. -/
import Derived.Test.YtphpfkhpihlalaaIn6
import Derived.Test.YtphpfkhpihlalaaWtJ
namespace Go.Proofs.Ytphpfkhpihlalaa
open Go.RowKit
set_option maxRecDepth 100000 in
set_option maxHeartbeats 8000000 in
theorem pair_any {w : World} {F : Nat → Prop} {p m : Nat} {E : List En} (hE : EOk E) (h : StAt w F p m E) {l r dl dr : Nat} {tl tr : List UInt8} (hl : Tx E l tl dl) (hr : Tx E r tr dr) (hd : near dl dr = true) (hs : tl.length + tr.length ≤ 1152921504606846976) :
    Calls Try.prog 68 #[ptr p, .int .i64 (l : Int), .int .i64 (r : Int)] w (AvEnd 50 w F p m E 1 (fun E' id => Tx E' id (tl ++ tr) (1 + max dl dr))) := by
  obtain ⟨x, hx, hxt, hxd, hxe⟩ := hl.at_
  obtain ⟨y, hy, hyt, hyd, hye⟩ := hr.at_
  have ho := pair_out (m := m) hE hl hr hx hy hd hs
  have fx := hE.fit l x hx
  have fy := hE.fit r y hy
  have lx := fx.length
  have ly := fy.length
  rw [hxt] at lx
  rw [hyt] at ly
  have k1 := fun W (hb : Below w.heap.size w W) => known_yes (h.below hb) l (atE_lt hx)
  have k2 := fun W (hb : Below w.heap.size w W) => known_yes (h.below hb) r (atE_lt hy)
  have a1 := fun W (hb : Below w.heap.size w W) => at_any (h.below hb) l x hx
  have a2 := fun W (hb : Below w.heap.size w W) => at_any (h.below hb) r y hy
  have hadd := fun W => ladd_any x.wt.len y.wt.len W fx.ok.len0 fy.ok.len0 (by omega)
  have hwj := fun W => wjoin_any x.wt y.wt W fx.ok fy.ok (by omega)
  have hfd := fun W (hb : Below w.heap.size w W) => find_any (h.below hb) (Ru.pair l r)
  have hru : encR (Ru.pair l r) = .agg #[.int .i64 2, .int .u8 0, .int .i64 (l : Int), .int .i64 (r : Int), .int .i64 0] := rfl
  rw [hru] at hfd
  clear hru
  unfold fdV at hfd
  unfold addR at ho
  rw [show (En.pair l r x y).ru = Ru.pair l r from rfl] at ho
  have HSt := Lib.hid h
  have hl0 : (((l : Nat) : Int) == 0) = false := by have := hl.pos; simp; omega
  have hr0 : (((r : Nat) : Int) == 0) = false := by have := hr.pos; simp; omega
  have hnear := near_iff.1 hd
  have hdl := (hl.len hE).2.2
  have hdr := (hr.len hE).2.2
  obtain ⟨jw, hjw⟩ : ∃ j, j = x.wt.join y.wt := ⟨_, rfl⟩
  obtain ⟨en, hen0⟩ : ∃ en, en = En.pair l r x y := ⟨_, rfl⟩
  have hen : en = ⟨Ru.pair l r, jw, 1 + max x.depth y.depth, true, x.t ++ y.t⟩ := by rw [hen0, hjw]; unfold En.pair; rw [hxe, hye, hxd, hyd, hd]; rfl
  rw [← hen0] at ho
  clear hen0
  have HER : Hid (en.ru = Ru.pair l r) := Lib.hid (by rw [hen])
  have HEN := Lib.hid hen
  rw [← hjw] at hwj
  clear hen hjw
  obtain ⟨jn, jl, jh, jt, ⟨jv, js⟩⟩ := jw
  obtain ⟨⟨kx, qx, ux, gx, ex⟩, ⟨nx, nlx, hdx, tlx, ⟨dvx, dsx⟩⟩, dpx, evx, ttx⟩ := x
  obtain ⟨⟨ky, qy, uy, gy, ey⟩, ⟨ny, nly, hdy, tly, ⟨dvy, dsy⟩⟩, dpy, evy, tty⟩ := y
  simp only at hxd hxe hyd hye hadd
  subst hxd hxe hyd hye
  simp only [En.cells, Wt.val] at a1 a2 hwj
  have HO := Lib.hid ho
  have HFD := Lib.hid hfd
  have HWJ := Lib.hid hwj
  have HE := Lib.hid hE
  have HN := Lib.hid hnear
  clear ho hfd hwj hE hnear fx fy lx ly hl hr hx hy hxt hyt hd hs h
  unfold ptr at *
  go_enter Try.func68, Try.ntmps68
  go_wp2_with fail
  refine (k1 _ (Below.refl _ _)).mono ?_
  rintro _ wk ⟨rfl, hwk⟩
  rw [hwk]
  clear hwk wk
  go_wp2_with fail
  refine (k2 _ (Below.refl _ _)).mono ?_
  rintro _ wk ⟨rfl, hwk⟩
  rw [hwk]
  clear hwk wk
  go_wp2_with fail
  refine (a1 _ (Below.refl _ _)).mono ?_
  rintro _ w1 ⟨rfl, hb1⟩
  go_wp2_with fail
  refine (a2 _ hb1).mono ?_
  rintro _ w2 ⟨rfl, hb2⟩
  have HQ2 := Lib.hid (hb1.trans (hb2.mono hb1.size))
  clear a1 a2 k1 k2 hb1 hb2
  go_upto_region 10 with (fail)
  obtain ⟨w3, hw3⟩ : ∃ w3, w3 = (w2.alloc (.cells #[.int .i64 kx, .int .u8 qx, .int .i64 ux, .int .i64 gx, .int .i64 ex, .int .i64 nx, .int .i64 nlx, .int .i64 hdx, .int .i64 tlx, .int .u64 dvx, .int .u64 dsx, .int .i64 dpx, .bool true] 97)).alloc (.cells #[.int .i64 ky, .int .u8 qy, .int .i64 uy, .int .i64 gy, .int .i64 ey, .int .i64 ny, .int .i64 nly, .int .i64 hdy, .int .i64 tly, .int .u64 dvy, .int .u64 dsy, .int .i64 dpy, .bool true] 97) := ⟨_, rfl⟩
  have HX := Lib.hid (show Blk w3 w2.heap.size 97 #[.int .i64 kx, .int .u8 qx, .int .i64 ux, .int .i64 gx, .int .i64 ex, .int .i64 nx, .int .i64 nlx, .int .i64 hdx, .int .i64 tlx, .int .u64 dvx, .int .u64 dsx, .int .i64 dpx, .bool true] by rw [hw3]; exact (Blk.new _ _ _).alloc _)
  have HY := Lib.hid (show Blk w3 (w2.heap.size + 1) 97 #[.int .i64 ky, .int .u8 qy, .int .i64 uy, .int .i64 gy, .int .i64 ey, .int .i64 ny, .int .i64 nly, .int .i64 hdy, .int .i64 tly, .int .u64 dvy, .int .u64 dsy, .int .i64 dpy, .bool true] by rw [hw3]; have := Blk.new (w2.alloc (.cells #[.int .i64 kx, .int .u8 qx, .int .i64 ux, .int .i64 gx, .int .i64 ex, .int .i64 nx, .int .i64 nlx, .int .i64 hdx, .int .i64 tlx, .int .u64 dvx, .int .u64 dsx, .int .i64 dpx, .bool true] 97)) 97 #[.int .i64 ky, .int .u8 qy, .int .i64 uy, .int .i64 gy, .int .i64 ey, .int .i64 ny, .int .i64 nly, .int .i64 hdy, .int .i64 tly, .int .u64 dvy, .int .u64 dsy, .int .i64 dpy, .bool true]; simpa using this)
  have HQ3 := Lib.hid (show Below w.heap.size w w3 by rw [hw3]; exact (HQ2.out.alloc HQ2.out.size _).alloc (by have := HQ2.out.size; simp; omega) _)
  have hs3 : w3.heap.size = w2.heap.size + 1 + 1 := by rw [hw3]; simp
  rw [← hw3]
  clear hw3
  have hw2 := HQ2.out.size
  have x0 := HX.out.cell 0
  have x1 := HX.out.cell 1
  have x2 := HX.out.cell 2
  have x3 := HX.out.cell 3
  have x4 := HX.out.cell 4
  have x5 := HX.out.cell 5
  have x6 := HX.out.cell 6
  have x7 := HX.out.cell 7
  have x8 := HX.out.cell 8
  have x9 := HX.out.cell 9
  have x10 := HX.out.cell 10
  have x11 := HX.out.cell 11
  have x12 := HX.out.cell 12
  simp only [List.getElem?_toArray, List.getElem?_cons_zero, List.getElem?_cons_succ] at x0 x1 x2 x3 x4 x5 x6 x7 x8 x9 x10 x11 x12
  have y0 := HY.out.cell 0
  have y1 := HY.out.cell 1
  have y2 := HY.out.cell 2
  have y3 := HY.out.cell 3
  have y4 := HY.out.cell 4
  have y5 := HY.out.cell 5
  have y6 := HY.out.cell 6
  have y7 := HY.out.cell 7
  have y8 := HY.out.cell 8
  have y9 := HY.out.cell 9
  have y10 := HY.out.cell 10
  have y11 := HY.out.cell 11
  have y12 := HY.out.cell 12
  simp only [List.getElem?_toArray, List.getElem?_cons_zero, List.getElem?_cons_succ] at y0 y1 y2 y3 y4 y5 y6 y7 y8 y9 y10 y11 y12
  go_wp2_with fail
  refine (hadd _).mono ?_
  rintro _ w4 ⟨rfl, hw4⟩
  rw [hw4]
  clear hadd hw4 w4
  go_upto_region 14 with (fail)
  obtain ⟨w4, hw4⟩ : ∃ w4, w4 = w3.alloc (.cells #[.int .i64 2, .int .u8 0, .int .i64 (l : Int), .int .i64 (r : Int), .int .i64 0] 95) := ⟨_, rfl⟩
  have HRU := Lib.hid (show Blk w4 (w2.heap.size + 1 + 1) 95 #[.int .i64 2, .int .u8 0, .int .i64 (l : Int), .int .i64 (r : Int), .int .i64 0] by rw [hw4, ← hs3]; exact Blk.new _ _ _)
  have HX4 := Lib.hid (show Blk w4 w2.heap.size 97 #[.int .i64 kx, .int .u8 qx, .int .i64 ux, .int .i64 gx, .int .i64 ex, .int .i64 nx, .int .i64 nlx, .int .i64 hdx, .int .i64 tlx, .int .u64 dvx, .int .u64 dsx, .int .i64 dpx, .bool true] by rw [hw4]; exact HX.out.alloc _)
  have HY4 := Lib.hid (show Blk w4 (w2.heap.size + 1) 97 #[.int .i64 ky, .int .u8 qy, .int .i64 uy, .int .i64 gy, .int .i64 ey, .int .i64 ny, .int .i64 nly, .int .i64 hdy, .int .i64 tly, .int .u64 dvy, .int .u64 dsy, .int .i64 dpy, .bool true] by rw [hw4]; exact HY.out.alloc _)
  have HQ4 := Lib.hid (show Below w.heap.size w w4 by rw [hw4]; exact HQ3.out.alloc HQ3.out.size _)
  rw [← hw4]
  clear hw4 x0 x1 x2 x3 x4 x5 x6 x7 x8 x9 x10 x11 x12 y0 y1 y2 y3 y4 y5 y6 y7 y8 y9 y10 y11 y12
  have z0 := HRU.out.cell 0
  have z1 := HRU.out.cell 1
  have z2 := HRU.out.cell 2
  have z3 := HRU.out.cell 3
  have z4 := HRU.out.cell 4
  simp only [List.getElem?_toArray, List.getElem?_cons_zero, List.getElem?_cons_succ] at z0 z1 z2 z3 z4
  go_wp2_with fail
  refine (HFD.out _ HQ4.out).mono ?_
  rintro _ w5 ⟨rfl, hb5⟩
  have HX5 := Lib.hid (HX4.out.below hb5 HX4.out.lt)
  have HY5 := Lib.hid (HY4.out.below hb5 HY4.out.lt)
  have HRU5 := Lib.hid (HRU.out.below hb5 HRU.out.lt)
  have HQ5 := Lib.hid (HQ4.out.trans (hb5.mono HQ4.out.size))
  clear hb5 z0 z1 z2 z3 z4
  cases hi : idOf E (Ru.pair l r) with
  | some i =>
    have ho := HO.out
    simp only [hi] at ho ⊢
    have hne : (((i : Nat) : Int) != 0) = true := by
      obtain ⟨x, h1, _⟩ := idF_some hi
      simp; omega
    have hne2 : (((i : Nat) : Int) == 0) = false := by simpa using hne
    have HO := Lib.hid ho
    clear ho hi
    go_wp2_with fail
    refine bodyPost_ret (v := .tuple #[.int .i64 ((i : Nat) : Int), .nilIface]) (by simp [results, Try.results68, go_sem]) rfl ?_
    exact avEnd_old HSt.out HQ5.out (some i) HO.out rfl
  | none =>
    by_cases hfl : m ≤ E.length
    · have ho := HO.out
      simp only [hi, hfl, if_true] at ho ⊢
      have HO := Lib.hid ho
      clear ho hi hfl
      go_wp2_with fail
      refine bodyPost_ret (v := .tuple #[.int .i64 0, .iface 50 (.int .i64 3)]) (by simp [results, Try.results68, go_sem]) rfl ?_
      exact avEnd_old HSt.out HQ5.out none HO.out rfl
    · have ho := HO.out
      simp only [hi, hfl, if_false] at ho ⊢
      have HO := Lib.hid ho
      have had := fun W (hb : Below w.heap.size w W) => add_any (HSt.out.below hb) en (by omega) (by rw [HER.out]; exact hi)
      have hcl : en.cells.toArray = #[.int .i64 2, .int .u8 0, .int .i64 (l : Int), .int .i64 (r : Int), .int .i64 0, .int .i64 jn, .int .i64 jl, .int .i64 jh, .int .i64 jt, .int .u64 jv, .int .u64 js, .int .i64 (1 + ((max dpx dpy : Nat) : Int)), .bool true] := by rw [HEN.out]; rfl
      simp only [hcl] at had
      unfold ptr at had
      have HAD := Lib.hid had
      clear hcl had
      clear ho hi hfl
      have x0 := HX5.out.cell 0
      have x1 := HX5.out.cell 1
      have x2 := HX5.out.cell 2
      have x3 := HX5.out.cell 3
      have x4 := HX5.out.cell 4
      have x5 := HX5.out.cell 5
      have x6 := HX5.out.cell 6
      have x7 := HX5.out.cell 7
      have x8 := HX5.out.cell 8
      have x9 := HX5.out.cell 9
      have x10 := HX5.out.cell 10
      have x11 := HX5.out.cell 11
      have x12 := HX5.out.cell 12
      simp only [List.getElem?_toArray, List.getElem?_cons_zero, List.getElem?_cons_succ] at x0 x1 x2 x3 x4 x5 x6 x7 x8 x9 x10 x11 x12
      have y0 := HY5.out.cell 0
      have y1 := HY5.out.cell 1
      have y2 := HY5.out.cell 2
      have y3 := HY5.out.cell 3
      have y4 := HY5.out.cell 4
      have y5 := HY5.out.cell 5
      have y6 := HY5.out.cell 6
      have y7 := HY5.out.cell 7
      have y8 := HY5.out.cell 8
      have y9 := HY5.out.cell 9
      have y10 := HY5.out.cell 10
      have y11 := HY5.out.cell 11
      have y12 := HY5.out.cell 12
      simp only [List.getElem?_toArray, List.getElem?_cons_zero, List.getElem?_cons_succ] at y0 y1 y2 y3 y4 y5 y6 y7 y8 y9 y10 y11 y12
      have z0 := HRU5.out.cell 0
      have z1 := HRU5.out.cell 1
      have z2 := HRU5.out.cell 2
      have z3 := HRU5.out.cell 3
      have z4 := HRU5.out.cell 4
      simp only [List.getElem?_toArray, List.getElem?_cons_zero, List.getElem?_cons_succ] at z0 z1 z2 z3 z4
      go_wp2_with fail
      refine (HWJ.out _).mono ?_
      rintro _ w6 ⟨rfl, hb6⟩
      have HX6 := Lib.hid (HX5.out.below hb6 HX5.out.lt)
      have HY6 := Lib.hid (HY5.out.below hb6 HY5.out.lt)
      have HRU6 := Lib.hid (HRU5.out.below hb6 HRU5.out.lt)
      have HQ6 := Lib.hid (HQ5.out.trans (hb6.mono HQ5.out.size))
      clear hb6 z0 z1 z2 z3 z4 x0 x1 x2 x3 x4 x5 x6 x7 x8 x9 x10 x11 x12 y0 y1 y2 y3 y4 y5 y6 y7 y8 y9 y10 y11 y12
      go_upto_region 18 with (fail)
      obtain ⟨w7, hw7⟩ : ∃ w7, w7 = w6.alloc (.cells #[.int .i64 jn, .int .i64 jl, .int .i64 jh, .int .i64 jt, .int .u64 jv, .int .u64 js] 38) := ⟨_, rfl⟩
      have HX7 := Lib.hid (show Blk w7 w2.heap.size 97 #[.int .i64 kx, .int .u8 qx, .int .i64 ux, .int .i64 gx, .int .i64 ex, .int .i64 nx, .int .i64 nlx, .int .i64 hdx, .int .i64 tlx, .int .u64 dvx, .int .u64 dsx, .int .i64 dpx, .bool true] by rw [hw7]; exact HX6.out.alloc _)
      have HY7 := Lib.hid (show Blk w7 (w2.heap.size + 1) 97 #[.int .i64 ky, .int .u8 qy, .int .i64 uy, .int .i64 gy, .int .i64 ey, .int .i64 ny, .int .i64 nly, .int .i64 hdy, .int .i64 tly, .int .u64 dvy, .int .u64 dsy, .int .i64 dpy, .bool true] by rw [hw7]; exact HY6.out.alloc _)
      have HRU7 := Lib.hid (show Blk w7 (w2.heap.size + 1 + 1) 95 #[.int .i64 2, .int .u8 0, .int .i64 (l : Int), .int .i64 (r : Int), .int .i64 0] by rw [hw7]; exact HRU6.out.alloc _)
      have HJ7 := Lib.hid (show Blk w7 w6.heap.size 38 #[.int .i64 jn, .int .i64 jl, .int .i64 jh, .int .i64 jt, .int .u64 jv, .int .u64 js] by rw [hw7]; exact Blk.new _ _ _)
      have HQ7 := Lib.hid (show Below w.heap.size w w7 by rw [hw7]; exact HQ6.out.alloc HQ6.out.size _)
      rw [← hw7]
      clear hw7
      have x0 := HX7.out.cell 0
      have x1 := HX7.out.cell 1
      have x2 := HX7.out.cell 2
      have x3 := HX7.out.cell 3
      have x4 := HX7.out.cell 4
      have x5 := HX7.out.cell 5
      have x6 := HX7.out.cell 6
      have x7 := HX7.out.cell 7
      have x8 := HX7.out.cell 8
      have x9 := HX7.out.cell 9
      have x10 := HX7.out.cell 10
      have x11 := HX7.out.cell 11
      have x12 := HX7.out.cell 12
      simp only [List.getElem?_toArray, List.getElem?_cons_zero, List.getElem?_cons_succ] at x0 x1 x2 x3 x4 x5 x6 x7 x8 x9 x10 x11 x12
      have y0 := HY7.out.cell 0
      have y1 := HY7.out.cell 1
      have y2 := HY7.out.cell 2
      have y3 := HY7.out.cell 3
      have y4 := HY7.out.cell 4
      have y5 := HY7.out.cell 5
      have y6 := HY7.out.cell 6
      have y7 := HY7.out.cell 7
      have y8 := HY7.out.cell 8
      have y9 := HY7.out.cell 9
      have y10 := HY7.out.cell 10
      have y11 := HY7.out.cell 11
      have y12 := HY7.out.cell 12
      simp only [List.getElem?_toArray, List.getElem?_cons_zero, List.getElem?_cons_succ] at y0 y1 y2 y3 y4 y5 y6 y7 y8 y9 y10 y11 y12
      have z0 := HRU7.out.cell 0
      have z1 := HRU7.out.cell 1
      have z2 := HRU7.out.cell 2
      have z3 := HRU7.out.cell 3
      have z4 := HRU7.out.cell 4
      simp only [List.getElem?_toArray, List.getElem?_cons_zero, List.getElem?_cons_succ] at z0 z1 z2 z3 z4
      have j0 := HJ7.out.cell 0
      have j1 := HJ7.out.cell 1
      have j2 := HJ7.out.cell 2
      have j3 := HJ7.out.cell 3
      have j4 := HJ7.out.cell 4
      have j5 := HJ7.out.cell 5
      simp only [List.getElem?_toArray, List.getElem?_cons_zero, List.getElem?_cons_succ] at j0 j1 j2 j3 j4 j5
      have hnn := HN.out
      have d0 : IntKind.i64.wrap ((dpx : Int) - (dpy : Int)) = (dpx : Int) - (dpy : Int) := IntWalk.i64_in _ (by omega)
      have n1 : (-1 : Int) ≤ (dpx : Int) - (dpy : Int) := by omega
      have n2 : (dpx : Int) - (dpy : Int) ≤ 1 := by omega
      obtain ⟨mm, hmm⟩ : ∃ mm : Int, mm = max (dpx : Int) (dpy : Int) := ⟨_, rfl⟩
      have d1 : IntKind.i64.wrap (1 + mm) = ((1 + max dpx dpy : Nat) : Int) := by rw [IntWalk.i64_in _ (by omega)]; omega
      rw [hmm] at d1
      clear hnn hmm
      go_wp2_with fail
      refine (HAD.out _ HQ7.out).mono ?_
      rintro _ w8 ⟨rfl, hk8, hs8⟩
      have HK8 := Lib.hid hk8
      have HS8 := Lib.hid hs8
      clear hk8 hs8 x0 x1 x2 x3 x4 x5 x6 x7 x8 x9 x10 x11 x12 y0 y1 y2 y3 y4 y5 y6 y7 y8 y9 y10 y11 y12 z0 z1 z2 z3 z4 j0 j1 j2 j3 j4 j5
      go_wp2_with fail
      refine bodyPost_ret (v := .tuple #[.int .i64 ((E.length + 1 : Nat) : Int), .nilIface]) (by simp [results, Try.results68, go_sem]) rfl ?_
      exact ⟨_, HO.out, rfl, (Kept.of_below HQ7.out).via (fun i h => .inl h) HK8.out, HS8.out.grow HQ7.out.size (fun i h => .inl h)⟩
end Go.Proofs.Ytphpfkhpihlalaa
