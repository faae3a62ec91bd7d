/- The walk of the parser's counter. -/
import Derived.Test.YtpiagfmjekcncaaDoorjNum
set_option linter.unusedVariables false
set_option linter.unusedSimpArgs false
set_option linter.unusedSectionVars false
namespace Go.Proofs.YtpiagfmjekcncaaDoor
open Go.RowKit
theorem skY (b : UInt8) (n : Int) (hn : (b.toNat : Int) = n) {T : List UInt8} {g k : Nat} (w : World) (h : PS T w g k) (hb : T[k]? = some b) : Calls Tryd.prog 33 #[.pointer (some ⟨g, 0, none⟩), .int .u8 n] w (PStep T w g (.bool true) (k + 1)) := by subst hn; exact skip_yes w h hb
theorem skN (b : UInt8) (n : Int) (hn : (b.toNat : Int) = n) {T : List UInt8} {g k : Nat} (w : World) (h : PS T w g k) (hb : ¬ T[k]? = some b) : Calls Tryd.prog 33 #[.pointer (some ⟨g, 0, none⟩), .int .u8 n] w (PStep T w g (.bool false) k) := by subst hn; exact skip_no w h hb
theorem num_yes {T : List UInt8} {g k n k' : Nat} (w : World) (h : PS T w g k) (hn : numP T k = some (n, k')) : Calls Tryd.prog 64 #[.pointer (some ⟨g, 0, none⟩)] w (PStep T w g (.int .i64 n) k') := by
  have := number_any w h
  rw [hn] at this
  exact this
theorem num_no {T : List UInt8} {g k : Nat} (w : World) (h : PS T w g k) (hn : numP T k = none) : Calls Tryd.prog 64 #[.pointer (some ⟨g, 0, none⟩)] w (PFail T w g) := by
  have := number_any w h
  rw [hn] at this
  exact this
def cntV (lo hi : Int) (ok : Bool) : Value := .tuple #[.int .i64 lo, .int .i64 hi, .bool ok]
def cV (r : Option (Option (Int × Int) × Nat)) : Option (Value × Nat) := match r with
  | none => none
  | some (none, k) => some (cntV 0 0 false, k)
  | some (some (lo, hi), k) => some (cntV lo hi true, k)
set_option maxHeartbeats 1000000
theorem cnt_star {T : List UInt8} {g k : Nat} (w : World) (h : PS T w g k) (e42 : T[k]? = some 42) : Calls Tryd.prog 50 #[.pointer (some ⟨g, 0, none⟩)] w (PStep T w g (cntV 0 (-1) true) (k + 1)) := by
  have E42 := Lib.hid e42
  clear e42
  go_enter Tryd.func50, Tryd.ntmps50
  go_wp2_with fail
  refine (skY 42 42 rfl w h E42.out).mono ?_
  rintro e w1 ⟨rfl, hp1, hk1⟩
  go_wp2_with fail
  go_ret3
  exact ⟨rfl, hp1, hk1⟩
theorem cnt_plus {T : List UInt8} {g k : Nat} (w : World) (h : PS T w g k) (n42 : ¬ T[k]? = some 42) (e43 : T[k]? = some 43) : Calls Tryd.prog 50 #[.pointer (some ⟨g, 0, none⟩)] w (PStep T w g (cntV 1 (-1) true) (k + 1)) := by
  have E43 := Lib.hid e43
  have N42 := Lib.hid n42
  clear e43 n42
  go_enter Tryd.func50, Tryd.ntmps50
  go_wp2_with fail
  refine (skN 42 42 rfl w h N42.out).mono ?_
  rintro e w2 ⟨rfl, hp2, hk2⟩
  go_wp2_with fail
  refine (skY 43 43 rfl w2 hp2 E43.out).mono ?_
  rintro e w3 ⟨rfl, hp3, hk3⟩
  go_wp2_with fail
  go_ret3
  exact ⟨rfl, hp3, (hk2).then_ hk3⟩
theorem cnt_opt {T : List UInt8} {g k : Nat} (w : World) (h : PS T w g k) (n42 : ¬ T[k]? = some 42) (n43 : ¬ T[k]? = some 43) (e63 : T[k]? = some 63) : Calls Tryd.prog 50 #[.pointer (some ⟨g, 0, none⟩)] w (PStep T w g (cntV 0 1 true) (k + 1)) := by
  have E63 := Lib.hid e63
  have N42 := Lib.hid n42
  have N43 := Lib.hid n43
  clear e63 n42 n43
  go_enter Tryd.func50, Tryd.ntmps50
  go_wp2_with fail
  refine (skN 42 42 rfl w h N42.out).mono ?_
  rintro e w4 ⟨rfl, hp4, hk4⟩
  go_wp2_with fail
  refine (skN 43 43 rfl w4 hp4 N43.out).mono ?_
  rintro e w5 ⟨rfl, hp5, hk5⟩
  go_wp2_with fail
  refine (skY 63 63 rfl w5 hp5 E63.out).mono ?_
  rintro e w6 ⟨rfl, hp6, hk6⟩
  go_wp2_with fail
  go_ret3
  exact ⟨rfl, hp6, ((hk4).then_ hk5).then_ hk6⟩
theorem cnt_not {T : List UInt8} {g k : Nat} (w : World) (h : PS T w g k) (n42 : ¬ T[k]? = some 42) (n43 : ¬ T[k]? = some 43) (n63 : ¬ T[k]? = some 63) (n123 : ¬ T[k]? = some 123) : Calls Tryd.prog 50 #[.pointer (some ⟨g, 0, none⟩)] w (PStep T w g (cntV 0 0 false) k) := by
  have N63 := Lib.hid n63
  have N42 := Lib.hid n42
  have N43 := Lib.hid n43
  have N123 := Lib.hid n123
  clear n63 n42 n43 n123
  go_enter Tryd.func50, Tryd.ntmps50
  go_wp2_with fail
  refine (skN 42 42 rfl w h N42.out).mono ?_
  rintro e w7 ⟨rfl, hp7, hk7⟩
  go_wp2_with fail
  refine (skN 43 43 rfl w7 hp7 N43.out).mono ?_
  rintro e w8 ⟨rfl, hp8, hk8⟩
  go_wp2_with fail
  refine (skN 63 63 rfl w8 hp8 N63.out).mono ?_
  rintro e w9 ⟨rfl, hp9, hk9⟩
  go_wp2_with fail
  refine (skN 123 123 rfl w9 hp9 N123.out).mono ?_
  rintro e w10 ⟨rfl, hp10, hk10⟩
  go_wp2_with fail
  go_ret3
  exact ⟨rfl, hp10, (((hk7).then_ hk8).then_ hk9).then_ hk10⟩
theorem cnt_b0 {T : List UInt8} {g k : Nat} (w : World) (h : PS T w g k) (e123 : T[k]? = some 123) (a : numP T (k + 1) = none) : Calls Tryd.prog 50 #[.pointer (some ⟨g, 0, none⟩)] w (PFail T w g) := by
  have N63 := Lib.hid (show ¬ T[k]? = some 63 by rw [e123]; decide)
  have N42 := Lib.hid (show ¬ T[k]? = some 42 by rw [e123]; decide)
  have N43 := Lib.hid (show ¬ T[k]? = some 43 by rw [e123]; decide)
  have E123 := Lib.hid e123
  clear e123
  have A := Lib.hid a
  clear a
  go_enter Tryd.func50, Tryd.ntmps50
  go_wp2_with fail
  refine (skN 42 42 rfl w h N42.out).mono ?_
  rintro e w11 ⟨rfl, hp11, hk11⟩
  go_wp2_with fail
  refine (skN 43 43 rfl w11 hp11 N43.out).mono ?_
  rintro e w12 ⟨rfl, hp12, hk12⟩
  go_wp2_with fail
  refine (skN 63 63 rfl w12 hp12 N63.out).mono ?_
  rintro e w13 ⟨rfl, hp13, hk13⟩
  go_wp2_with fail
  refine (skY 123 123 rfl w13 hp13 E123.out).mono ?_
  rintro e w14 ⟨rfl, hp14, hk14⟩
  go_wp2_with fail
  refine (num_no w14 hp14 A.out).mono ?_
  rintro e w15 ⟨rfl, hp15, hk15⟩
  go_wp2_with fail
  exact ⟨rfl, rfl, hp15, ((((hk11).then_ hk12).then_ hk13).then_ hk14).then_ hk15⟩
theorem cnt_b1 {T : List UInt8} {g k : Nat} (w : World) (h : PS T w g k) {lo k1 : Nat} (e123 : T[k]? = some 123) (a : numP T (k + 1) = some (lo, k1)) (b : ¬ T[k1]? = some 44) (c : T[k1]? = some 125) : Calls Tryd.prog 50 #[.pointer (some ⟨g, 0, none⟩)] w (PStep T w g (cntV lo lo true) (k1 + 1)) := by
  have hlo : 0 ≤ (lo : Int) := by omega
  have b1 : decide (0 ≤ (lo : Int)) = true := by simp
  have b2 : decide ((lo : Int) < (lo : Int)) = false := by simp
  have b3 : decide (lo < lo) = false := by simp
  have N63 := Lib.hid (show ¬ T[k]? = some 63 by rw [e123]; decide)
  have N42 := Lib.hid (show ¬ T[k]? = some 42 by rw [e123]; decide)
  have N43 := Lib.hid (show ¬ T[k]? = some 43 by rw [e123]; decide)
  have E123 := Lib.hid e123
  clear e123
  have A := Lib.hid a
  have B := Lib.hid b
  have C := Lib.hid c
  clear a b c
  go_enter Tryd.func50, Tryd.ntmps50
  go_wp2_with fail
  refine (skN 42 42 rfl w h N42.out).mono ?_
  rintro e w16 ⟨rfl, hp16, hk16⟩
  go_wp2_with fail
  refine (skN 43 43 rfl w16 hp16 N43.out).mono ?_
  rintro e w17 ⟨rfl, hp17, hk17⟩
  go_wp2_with fail
  refine (skN 63 63 rfl w17 hp17 N63.out).mono ?_
  rintro e w18 ⟨rfl, hp18, hk18⟩
  go_wp2_with fail
  refine (skY 123 123 rfl w18 hp18 E123.out).mono ?_
  rintro e w19 ⟨rfl, hp19, hk19⟩
  go_wp2_with fail
  refine (num_yes w19 hp19 A.out).mono ?_
  rintro e w20 ⟨rfl, hp20, hk20⟩
  go_wp2_with fail
  refine (skN 44 44 rfl w20 hp20 B.out).mono ?_
  rintro e w21 ⟨rfl, hp21, hk21⟩
  go_wp2_with fail
  refine (skY 125 125 rfl w21 hp21 C.out).mono ?_
  rintro e w22 ⟨rfl, hp22, hk22⟩
  go_wp2_with fail
  go_ret3
  exact ⟨rfl, hp22, ((((((hk16).then_ hk17).then_ hk18).then_ hk19).then_ hk20).then_ hk21).then_ hk22⟩
theorem cnt_b2 {T : List UInt8} {g k : Nat} (w : World) (h : PS T w g k) {lo k1 : Nat} (e123 : T[k]? = some 123) (a : numP T (k + 1) = some (lo, k1)) (b : ¬ T[k1]? = some 44) (c : ¬ T[k1]? = some 125) : Calls Tryd.prog 50 #[.pointer (some ⟨g, 0, none⟩)] w (PFail T w g) := by
  have hlo : 0 ≤ (lo : Int) := by omega
  have b1 : decide (0 ≤ (lo : Int)) = true := by simp
  have b2 : decide ((lo : Int) < (lo : Int)) = false := by simp
  have b3 : decide (lo < lo) = false := by simp
  have N63 := Lib.hid (show ¬ T[k]? = some 63 by rw [e123]; decide)
  have N42 := Lib.hid (show ¬ T[k]? = some 42 by rw [e123]; decide)
  have N43 := Lib.hid (show ¬ T[k]? = some 43 by rw [e123]; decide)
  have E123 := Lib.hid e123
  clear e123
  have A := Lib.hid a
  have B := Lib.hid b
  have C := Lib.hid c
  clear a b c
  go_enter Tryd.func50, Tryd.ntmps50
  go_wp2_with fail
  refine (skN 42 42 rfl w h N42.out).mono ?_
  rintro e w23 ⟨rfl, hp23, hk23⟩
  go_wp2_with fail
  refine (skN 43 43 rfl w23 hp23 N43.out).mono ?_
  rintro e w24 ⟨rfl, hp24, hk24⟩
  go_wp2_with fail
  refine (skN 63 63 rfl w24 hp24 N63.out).mono ?_
  rintro e w25 ⟨rfl, hp25, hk25⟩
  go_wp2_with fail
  refine (skY 123 123 rfl w25 hp25 E123.out).mono ?_
  rintro e w26 ⟨rfl, hp26, hk26⟩
  go_wp2_with fail
  refine (num_yes w26 hp26 A.out).mono ?_
  rintro e w27 ⟨rfl, hp27, hk27⟩
  go_wp2_with fail
  refine (skN 44 44 rfl w27 hp27 B.out).mono ?_
  rintro e w28 ⟨rfl, hp28, hk28⟩
  go_wp2_with fail
  refine (skN 125 125 rfl w28 hp28 C.out).mono ?_
  rintro e w29 ⟨rfl, hp29, hk29⟩
  go_wp2_with fail
  exact ⟨rfl, rfl, ⟨_, hp29⟩, ((((((hk23).then_ hk24).then_ hk25).then_ hk26).then_ hk27).then_ hk28).then_ hk29⟩
theorem cnt_c1 {T : List UInt8} {g k : Nat} (w : World) (h : PS T w g k) {lo k1 : Nat} (e123 : T[k]? = some 123) (a : numP T (k + 1) = some (lo, k1)) (b : T[k1]? = some 44) (c : T[k1 + 1]? = some 125) : Calls Tryd.prog 50 #[.pointer (some ⟨g, 0, none⟩)] w (PStep T w g (cntV lo (-1) true) (k1 + 2)) := by
  have hsz : (ByteArray.mk T.toArray).size = T.length := by simp [ByteArray.size]
  have hT := h.2.2
  have hl := at_lt c
  have hix : ∀ w, (Instr.index 9 (.string ⟨T.toArray⟩) (.int .i64 ((k1 : Int) + 1))).run Tryd.prog w = .ok (.int .u8 125) w := idxT (P := Tryd.prog) Tryd.underlying9 c
  have hle : decide ((k1 : Int) + 1 < (T.length : Int)) = true := by simp; omega
  have N63 := Lib.hid (show ¬ T[k]? = some 63 by rw [e123]; decide)
  have N42 := Lib.hid (show ¬ T[k]? = some 42 by rw [e123]; decide)
  have N43 := Lib.hid (show ¬ T[k]? = some 43 by rw [e123]; decide)
  have E123 := Lib.hid e123
  clear e123
  have A := Lib.hid a
  have B := Lib.hid b
  have C := Lib.hid c
  clear a b c
  go_enter Tryd.func50, Tryd.ntmps50
  go_wp2_with fail
  refine (skN 42 42 rfl w h N42.out).mono ?_
  rintro e w30 ⟨rfl, hp30, hk30⟩
  go_wp2_with fail
  refine (skN 43 43 rfl w30 hp30 N43.out).mono ?_
  rintro e w31 ⟨rfl, hp31, hk31⟩
  go_wp2_with fail
  refine (skN 63 63 rfl w31 hp31 N63.out).mono ?_
  rintro e w32 ⟨rfl, hp32, hk32⟩
  go_wp2_with fail
  refine (skY 123 123 rfl w32 hp32 E123.out).mono ?_
  rintro e w33 ⟨rfl, hp33, hk33⟩
  go_wp2_with fail
  refine (num_yes w33 hp33 A.out).mono ?_
  rintro e w34 ⟨rfl, hp34, hk34⟩
  go_wp2_with fail
  refine (skY 44 44 rfl w34 hp34 B.out).mono ?_
  rintro e w35 ⟨rfl, hp35, hk35⟩
  obtain ⟨c0, c1, q1⟩ := hp35.cells
  have HPQ := Lib.hid hp35
  clear hp35
  go_wp2_with fail
  go_quiet (fail)
  go_wp2_with fail
  clear c0 c1 q1
  refine (skY 125 125 rfl _ (HPQ.out.drewN _) C.out).mono ?_
  rintro e w36 ⟨rfl, hp36, hk36⟩
  go_wp2_with fail
  go_ret3
  exact ⟨rfl, hp36, (((((((hk30).then_ hk31).then_ hk32).then_ hk33).then_ hk34).then_ hk35).drewN _).then_ hk36⟩
theorem cnt_c2 {T : List UInt8} {g k : Nat} (w : World) (h : PS T w g k) {lo k1 : Nat} (e123 : T[k]? = some 123) (a : numP T (k + 1) = some (lo, k1)) (b : T[k1]? = some 44) (c : T.length ≤ k1 + 1) : Calls Tryd.prog 50 #[.pointer (some ⟨g, 0, none⟩)] w (PFail T w g) := by
  have hsz : (ByteArray.mk T.toArray).size = T.length := by simp [ByteArray.size]
  have hT := h.2.2
  have hle : decide ((k1 : Int) + 1 < (T.length : Int)) = false := by simp; omega
  have nn : ¬ T[k1 + 1]? = some 125 := by rw [List.getElem?_eq_none (by omega)]; exact fun e => by cases e
  have N63 := Lib.hid (show ¬ T[k]? = some 63 by rw [e123]; decide)
  have N42 := Lib.hid (show ¬ T[k]? = some 42 by rw [e123]; decide)
  have N43 := Lib.hid (show ¬ T[k]? = some 43 by rw [e123]; decide)
  have E123 := Lib.hid e123
  clear e123
  have A := Lib.hid a
  have B := Lib.hid b
  have NN := Lib.hid nn
  clear a b nn
  go_enter Tryd.func50, Tryd.ntmps50
  go_wp2_with fail
  refine (skN 42 42 rfl w h N42.out).mono ?_
  rintro e w37 ⟨rfl, hp37, hk37⟩
  go_wp2_with fail
  refine (skN 43 43 rfl w37 hp37 N43.out).mono ?_
  rintro e w38 ⟨rfl, hp38, hk38⟩
  go_wp2_with fail
  refine (skN 63 63 rfl w38 hp38 N63.out).mono ?_
  rintro e w39 ⟨rfl, hp39, hk39⟩
  go_wp2_with fail
  refine (skY 123 123 rfl w39 hp39 E123.out).mono ?_
  rintro e w40 ⟨rfl, hp40, hk40⟩
  go_wp2_with fail
  refine (num_yes w40 hp40 A.out).mono ?_
  rintro e w41 ⟨rfl, hp41, hk41⟩
  go_wp2_with fail
  refine (skY 44 44 rfl w41 hp41 B.out).mono ?_
  rintro e w42 ⟨rfl, hp42, hk42⟩
  obtain ⟨c0, c1, q1⟩ := hp42.cells
  have HPQ := Lib.hid hp42
  clear hp42
  go_wp2_with fail
  go_quiet (fail)
  go_wp2_with fail
  clear c0 c1 q1
  refine (skN 125 125 rfl _ (HPQ.out.drewN _) NN.out).mono ?_
  rintro e w43 ⟨rfl, hp43, hk43⟩
  go_wp2_with fail
  exact ⟨rfl, rfl, ⟨_, hp43⟩, (((((((hk37).then_ hk38).then_ hk39).then_ hk40).then_ hk41).then_ hk42).drewN _).then_ hk43⟩
theorem cnt_d0 {T : List UInt8} {g k : Nat} (w : World) (h : PS T w g k) {lo k1 : Nat} {x : UInt8} (e123 : T[k]? = some 123) (a : numP T (k + 1) = some (lo, k1)) (b : T[k1]? = some 44) (c : T[k1 + 1]? = some x) (hx : x ≠ 125) (d : numP T (k1 + 1) = none) : Calls Tryd.prog 50 #[.pointer (some ⟨g, 0, none⟩)] w (PFail T w g) := by
  have hsz : (ByteArray.mk T.toArray).size = T.length := by simp [ByteArray.size]
  have hT := h.2.2
  have hl := at_lt c
  have hix : ∀ w, (Instr.index 9 (.string ⟨T.toArray⟩) (.int .i64 ((k1 : Int) + 1))).run Tryd.prog w = .ok (.int .u8 x.toNat) w := idxT (P := Tryd.prog) Tryd.underlying9 c
  have hle : decide ((k1 : Int) + 1 < (T.length : Int)) = true := by simp; omega
  have x1 : ((x.toNat : Int) == 125) = false := ne_lit (c := 125) hx
  have x2 : ((x.toNat : Int) != 125) = true := by simpa using x1
  clear hx
  have N63 := Lib.hid (show ¬ T[k]? = some 63 by rw [e123]; decide)
  have N42 := Lib.hid (show ¬ T[k]? = some 42 by rw [e123]; decide)
  have N43 := Lib.hid (show ¬ T[k]? = some 43 by rw [e123]; decide)
  have E123 := Lib.hid e123
  clear e123
  have A := Lib.hid a
  have B := Lib.hid b
  have C := Lib.hid c
  have D := Lib.hid d
  clear a b c d
  go_enter Tryd.func50, Tryd.ntmps50
  go_wp2_with fail
  refine (skN 42 42 rfl w h N42.out).mono ?_
  rintro e w44 ⟨rfl, hp44, hk44⟩
  go_wp2_with fail
  refine (skN 43 43 rfl w44 hp44 N43.out).mono ?_
  rintro e w45 ⟨rfl, hp45, hk45⟩
  go_wp2_with fail
  refine (skN 63 63 rfl w45 hp45 N63.out).mono ?_
  rintro e w46 ⟨rfl, hp46, hk46⟩
  go_wp2_with fail
  refine (skY 123 123 rfl w46 hp46 E123.out).mono ?_
  rintro e w47 ⟨rfl, hp47, hk47⟩
  go_wp2_with fail
  refine (num_yes w47 hp47 A.out).mono ?_
  rintro e w48 ⟨rfl, hp48, hk48⟩
  go_wp2_with fail
  refine (skY 44 44 rfl w48 hp48 B.out).mono ?_
  rintro e w49 ⟨rfl, hp49, hk49⟩
  obtain ⟨c0, c1, q1⟩ := hp49.cells
  have HPQ := Lib.hid hp49
  clear hp49
  go_wp2_with fail
  go_quiet (fail)
  go_wp2_with fail
  clear c0 c1 q1
  refine (num_no _ (HPQ.out.drewN _) D.out).mono ?_
  rintro e w50 ⟨rfl, hp50, hk50⟩
  go_wp2_with fail
  exact ⟨rfl, rfl, hp50, (((((((hk44).then_ hk45).then_ hk46).then_ hk47).then_ hk48).then_ hk49).drewN _).then_ hk50⟩
theorem cnt_d1 {T : List UInt8} {g k : Nat} (w : World) (h : PS T w g k) {lo k1 : Nat} {x : UInt8} (e123 : T[k]? = some 123) (a : numP T (k + 1) = some (lo, k1)) (b : T[k1]? = some 44) (c : T[k1 + 1]? = some x) (hx : x ≠ 125) {hi k2 : Nat} (d : numP T (k1 + 1) = some (hi, k2)) (f : ¬ T[k2]? = some 125) : Calls Tryd.prog 50 #[.pointer (some ⟨g, 0, none⟩)] w (PFail T w g) := by
  have hsz : (ByteArray.mk T.toArray).size = T.length := by simp [ByteArray.size]
  have hT := h.2.2
  have hl := at_lt c
  have hix : ∀ w, (Instr.index 9 (.string ⟨T.toArray⟩) (.int .i64 ((k1 : Int) + 1))).run Tryd.prog w = .ok (.int .u8 x.toNat) w := idxT (P := Tryd.prog) Tryd.underlying9 c
  have hle : decide ((k1 : Int) + 1 < (T.length : Int)) = true := by simp; omega
  have x1 : ((x.toNat : Int) == 125) = false := ne_lit (c := 125) hx
  have x2 : ((x.toNat : Int) != 125) = true := by simpa using x1
  clear hx
  have N63 := Lib.hid (show ¬ T[k]? = some 63 by rw [e123]; decide)
  have N42 := Lib.hid (show ¬ T[k]? = some 42 by rw [e123]; decide)
  have N43 := Lib.hid (show ¬ T[k]? = some 43 by rw [e123]; decide)
  have E123 := Lib.hid e123
  clear e123
  have A := Lib.hid a
  have B := Lib.hid b
  have C := Lib.hid c
  have D := Lib.hid d
  have F := Lib.hid f
  clear a b c d f
  go_enter Tryd.func50, Tryd.ntmps50
  go_wp2_with fail
  refine (skN 42 42 rfl w h N42.out).mono ?_
  rintro e w51 ⟨rfl, hp51, hk51⟩
  go_wp2_with fail
  refine (skN 43 43 rfl w51 hp51 N43.out).mono ?_
  rintro e w52 ⟨rfl, hp52, hk52⟩
  go_wp2_with fail
  refine (skN 63 63 rfl w52 hp52 N63.out).mono ?_
  rintro e w53 ⟨rfl, hp53, hk53⟩
  go_wp2_with fail
  refine (skY 123 123 rfl w53 hp53 E123.out).mono ?_
  rintro e w54 ⟨rfl, hp54, hk54⟩
  go_wp2_with fail
  refine (num_yes w54 hp54 A.out).mono ?_
  rintro e w55 ⟨rfl, hp55, hk55⟩
  go_wp2_with fail
  refine (skY 44 44 rfl w55 hp55 B.out).mono ?_
  rintro e w56 ⟨rfl, hp56, hk56⟩
  obtain ⟨c0, c1, q1⟩ := hp56.cells
  have HPQ := Lib.hid hp56
  clear hp56
  go_wp2_with fail
  go_quiet (fail)
  go_wp2_with fail
  clear c0 c1 q1
  refine (num_yes _ (HPQ.out.drewN _) D.out).mono ?_
  rintro e w57 ⟨rfl, hp57, hk57⟩
  go_wp2_with fail
  refine (skN 125 125 rfl w57 hp57 F.out).mono ?_
  rintro e w58 ⟨rfl, hp58, hk58⟩
  go_wp2_with fail
  exact ⟨rfl, rfl, ⟨_, hp58⟩, ((((((((hk51).then_ hk52).then_ hk53).then_ hk54).then_ hk55).then_ hk56).drewN _).then_ hk57).then_ hk58⟩
theorem cnt_d2 {T : List UInt8} {g k : Nat} (w : World) (h : PS T w g k) {lo k1 : Nat} {x : UInt8} (e123 : T[k]? = some 123) (a : numP T (k + 1) = some (lo, k1)) (b : T[k1]? = some 44) (c : T[k1 + 1]? = some x) (hx : x ≠ 125) {hi k2 : Nat} (d : numP T (k1 + 1) = some (hi, k2)) (f : T[k2]? = some 125) (q : hi < lo) : Calls Tryd.prog 50 #[.pointer (some ⟨g, 0, none⟩)] w (PFail T w g) := by
  have hsz : (ByteArray.mk T.toArray).size = T.length := by simp [ByteArray.size]
  have hT := h.2.2
  have hl := at_lt c
  have hix : ∀ w, (Instr.index 9 (.string ⟨T.toArray⟩) (.int .i64 ((k1 : Int) + 1))).run Tryd.prog w = .ok (.int .u8 x.toNat) w := idxT (P := Tryd.prog) Tryd.underlying9 c
  have hle : decide ((k1 : Int) + 1 < (T.length : Int)) = true := by simp; omega
  have x1 : ((x.toNat : Int) == 125) = false := ne_lit (c := 125) hx
  have x2 : ((x.toNat : Int) != 125) = true := by simpa using x1
  clear hx
  have b1 : decide (0 ≤ (hi : Int)) = true := by simp
  have b2 : decide (hi < lo) = true := by simp; omega
  clear q
  have N63 := Lib.hid (show ¬ T[k]? = some 63 by rw [e123]; decide)
  have N42 := Lib.hid (show ¬ T[k]? = some 42 by rw [e123]; decide)
  have N43 := Lib.hid (show ¬ T[k]? = some 43 by rw [e123]; decide)
  have E123 := Lib.hid e123
  clear e123
  have A := Lib.hid a
  have B := Lib.hid b
  have C := Lib.hid c
  have D := Lib.hid d
  have F := Lib.hid f
  clear a b c d f
  go_enter Tryd.func50, Tryd.ntmps50
  go_wp2_with fail
  refine (skN 42 42 rfl w h N42.out).mono ?_
  rintro e w59 ⟨rfl, hp59, hk59⟩
  go_wp2_with fail
  refine (skN 43 43 rfl w59 hp59 N43.out).mono ?_
  rintro e w60 ⟨rfl, hp60, hk60⟩
  go_wp2_with fail
  refine (skN 63 63 rfl w60 hp60 N63.out).mono ?_
  rintro e w61 ⟨rfl, hp61, hk61⟩
  go_wp2_with fail
  refine (skY 123 123 rfl w61 hp61 E123.out).mono ?_
  rintro e w62 ⟨rfl, hp62, hk62⟩
  go_wp2_with fail
  refine (num_yes w62 hp62 A.out).mono ?_
  rintro e w63 ⟨rfl, hp63, hk63⟩
  go_wp2_with fail
  refine (skY 44 44 rfl w63 hp63 B.out).mono ?_
  rintro e w64 ⟨rfl, hp64, hk64⟩
  obtain ⟨c0, c1, q1⟩ := hp64.cells
  have HPQ := Lib.hid hp64
  clear hp64
  go_wp2_with fail
  go_quiet (fail)
  go_wp2_with fail
  clear c0 c1 q1
  refine (num_yes _ (HPQ.out.drewN _) D.out).mono ?_
  rintro e w65 ⟨rfl, hp65, hk65⟩
  go_wp2_with fail
  refine (skY 125 125 rfl w65 hp65 F.out).mono ?_
  rintro e w66 ⟨rfl, hp66, hk66⟩
  go_wp2_with fail
  exact ⟨rfl, rfl, ⟨_, hp66⟩, ((((((((hk59).then_ hk60).then_ hk61).then_ hk62).then_ hk63).then_ hk64).drewN _).then_ hk65).then_ hk66⟩
theorem cnt_d3 {T : List UInt8} {g k : Nat} (w : World) (h : PS T w g k) {lo k1 : Nat} {x : UInt8} (e123 : T[k]? = some 123) (a : numP T (k + 1) = some (lo, k1)) (b : T[k1]? = some 44) (c : T[k1 + 1]? = some x) (hx : x ≠ 125) {hi k2 : Nat} (d : numP T (k1 + 1) = some (hi, k2)) (f : T[k2]? = some 125) (q : lo ≤ hi) : Calls Tryd.prog 50 #[.pointer (some ⟨g, 0, none⟩)] w (PStep T w g (cntV lo hi true) (k2 + 1)) := by
  have hsz : (ByteArray.mk T.toArray).size = T.length := by simp [ByteArray.size]
  have hT := h.2.2
  have hl := at_lt c
  have hix : ∀ w, (Instr.index 9 (.string ⟨T.toArray⟩) (.int .i64 ((k1 : Int) + 1))).run Tryd.prog w = .ok (.int .u8 x.toNat) w := idxT (P := Tryd.prog) Tryd.underlying9 c
  have hle : decide ((k1 : Int) + 1 < (T.length : Int)) = true := by simp; omega
  have x1 : ((x.toNat : Int) == 125) = false := ne_lit (c := 125) hx
  have x2 : ((x.toNat : Int) != 125) = true := by simpa using x1
  clear hx
  have b1 : decide (0 ≤ (hi : Int)) = true := by simp
  have b2 : decide (hi < lo) = false := by simp; omega
  clear q
  have N63 := Lib.hid (show ¬ T[k]? = some 63 by rw [e123]; decide)
  have N42 := Lib.hid (show ¬ T[k]? = some 42 by rw [e123]; decide)
  have N43 := Lib.hid (show ¬ T[k]? = some 43 by rw [e123]; decide)
  have E123 := Lib.hid e123
  clear e123
  have A := Lib.hid a
  have B := Lib.hid b
  have C := Lib.hid c
  have D := Lib.hid d
  have F := Lib.hid f
  clear a b c d f
  go_enter Tryd.func50, Tryd.ntmps50
  go_wp2_with fail
  refine (skN 42 42 rfl w h N42.out).mono ?_
  rintro e w67 ⟨rfl, hp67, hk67⟩
  go_wp2_with fail
  refine (skN 43 43 rfl w67 hp67 N43.out).mono ?_
  rintro e w68 ⟨rfl, hp68, hk68⟩
  go_wp2_with fail
  refine (skN 63 63 rfl w68 hp68 N63.out).mono ?_
  rintro e w69 ⟨rfl, hp69, hk69⟩
  go_wp2_with fail
  refine (skY 123 123 rfl w69 hp69 E123.out).mono ?_
  rintro e w70 ⟨rfl, hp70, hk70⟩
  go_wp2_with fail
  refine (num_yes w70 hp70 A.out).mono ?_
  rintro e w71 ⟨rfl, hp71, hk71⟩
  go_wp2_with fail
  refine (skY 44 44 rfl w71 hp71 B.out).mono ?_
  rintro e w72 ⟨rfl, hp72, hk72⟩
  obtain ⟨c0, c1, q1⟩ := hp72.cells
  have HPQ := Lib.hid hp72
  clear hp72
  go_wp2_with fail
  go_quiet (fail)
  go_wp2_with fail
  clear c0 c1 q1
  refine (num_yes _ (HPQ.out.drewN _) D.out).mono ?_
  rintro e w73 ⟨rfl, hp73, hk73⟩
  go_wp2_with fail
  refine (skY 125 125 rfl w73 hp73 F.out).mono ?_
  rintro e w74 ⟨rfl, hp74, hk74⟩
  go_wp2_with fail
  go_ret3
  exact ⟨rfl, hp74, ((((((((hk67).then_ hk68).then_ hk69).then_ hk70).then_ hk71).then_ hk72).drewN _).then_ hk73).then_ hk74⟩
theorem counter_any {T : List UInt8} {g k : Nat} (w : World) (h : PS T w g k) : Calls Tryd.prog 50 #[.pointer (some ⟨g, 0, none⟩)] w (PRes T w g (cV (cntP T k))) := by
  unfold cntP
  by_cases e42 : T[k]? = some 42
  · rw [if_pos e42]; exact cnt_star w h e42
  rw [if_neg e42]
  by_cases e43 : T[k]? = some 43
  · rw [if_pos e43]; exact cnt_plus w h e42 e43
  rw [if_neg e43]
  by_cases e63 : T[k]? = some 63
  · rw [if_pos e63]; exact cnt_opt w h e42 e43 e63
  rw [if_neg e63]
  by_cases e123 : T[k]? = some 123
  · rw [if_pos e123]
    rcases a : numP T (k + 1) with _ | ⟨lo, k1⟩
    · exact cnt_b0 w h e123 a
    simp only
    by_cases b : T[k1]? = some 44
    · rw [if_pos b]
      have hb := at_lt b
      by_cases hc : k1 + 1 < T.length ∧ T[k1 + 1]? ≠ some 125
      · rw [if_pos hc]
        obtain ⟨x, c⟩ : ∃ x, T[k1 + 1]? = some x := ⟨_, List.getElem?_eq_getElem hc.1⟩
        have hx : x ≠ 125 := fun e => hc.2 (by rw [c, e])
        rcases d : numP T (k1 + 1) with _ | ⟨hi, k2⟩
        · exact cnt_d0 w h e123 a b c hx d
        simp only
        by_cases f : T[k2]? = some 125
        · by_cases q : lo ≤ hi
          · rw [if_pos ⟨f, q⟩]; exact cnt_d3 w h e123 a b c hx d f q
          · rw [if_neg (fun e => q e.2)]; exact cnt_d2 w h e123 a b c hx d f (by omega)
        · rw [if_neg (fun e => f e.1)]; exact cnt_d1 w h e123 a b c hx d f
      · rw [if_neg hc]
        by_cases c : T[k1 + 1]? = some 125
        · rw [if_pos c]; exact cnt_c1 w h e123 a b c
        · rw [if_neg c]
          refine cnt_c2 w h e123 a b ?_
          rcases Nat.lt_or_ge (k1 + 1) T.length with h1 | h1
          · exact absurd ⟨h1, c⟩ hc
          · exact h1
    · rw [if_neg b]
      by_cases c : T[k1]? = some 125
      · rw [if_pos c]; exact cnt_b1 w h e123 a b c
      · rw [if_neg c]; exact cnt_b2 w h e123 a b c
  · rw [if_neg e123]; exact cnt_not w h e42 e43 e63 e123
end Go.Proofs.YtpiagfmjekcncaaDoor
