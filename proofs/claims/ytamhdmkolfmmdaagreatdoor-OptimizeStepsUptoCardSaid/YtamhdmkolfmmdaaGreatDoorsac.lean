/- The walk of the parser's escape. The walks of letterset's digit, punctuation, element. The walks of Signature, and of the reference's. -/
import Derived.Test.YtamhdmkolfmmdaaGreatDoorsaa
import Derived.Test.YtamhdmkolfmmdaaGreatDoorProg
import Derived.WalkKit
import Derived.WalkSpells
import Derived.WalkLawsBesides
import Derived.Lib.Hide
set_option linter.unusedVariables false
set_option linter.unusedSimpArgs false
namespace Go.Proofs.YtamhdmkolfmmdaaGreatDoor
open Go.RowKit
theorem z19 {P : Prop} (h : P := by
 clear h hb
 go_enter Tryz.func204, Tryz.ntmps204
 go_wp2_with fail
 refine HN.out.mono ?_
 rintro e w1 ⟨rfl, hp, hk⟩
 go_wp2_with fail
 go_ret
 exact ⟨rfl, hp, hk⟩) : P := h
theorem y60 {P : Prop} (h : P := by
 have HN := hD (kaU w h hb)
 have e1 : ((b.toNat : Int) == 110) = false := kaT h1
 have e2 : ((b.toNat : Int) == 116) = false := kaT h2
 have e3 : ((b.toNat : Int) == 114) = false := kaT h3
 have e4 : ((b.toNat : Int) == 120) = false := kaT h4
 have HC := hD fun w => klC b w
 rw [hp] at HC
 clear h hb h1 h2 h3 h4 hp
 go_enter Tryz.func204, Tryz.ntmps204
 go_wp2_with fail
 refine HN.out.mono ?_
 rintro e w1 ⟨rfl, hp, hk⟩
 go_wp2_with fail
 refine (HC.out w1).mono ?_
 rintro e w' ⟨rfl, rfl⟩
 go_wp2_with fail
 first
 | guard_hyp t503q0
   go_ret
   exact ⟨rfl, hp, hk⟩
 | exact ⟨rfl, rfl, ⟨_, hp⟩, hk⟩) : P := h
theorem y65 {P : Prop} (h : P := by
 have HD := hD hd
 have HD2 := hD hd2
 clear h hb hd hd2
 go_enter Tryz.func204, Tryz.ntmps204
 go_wp2_with fail
 refine HN.out.mono ?_
 rintro e w1 ⟨rfl, hp, hk⟩
 go_wp2_with fail
 have hc := keN w1 hp
 rw [HD.out] at hc
 refine hc.mono ?_
 clear hc
 rintro e w2 ⟨rfl, hp2, hk2⟩
 go_wp2_with fail
 have hc := keN w2 hp2
 rw [HD2.out] at hc
 refine hc.mono ?_
 clear hc
 rintro e w3 ⟨rfl, hp3, hk3⟩
 go_wp2_with fail
 first
 | guard_hyp t508q0
   exact ⟨rfl, rfl, hp3, (hk.then_ hk2).then_ hk3⟩
 | go_ret
   exact ⟨ret_u8 (or16 d1 d2 h1 h2), hp3, (hk.then_ hk2).then_ hk3⟩) : P := h
def eV (r : Option (UInt8 × Nat)) : Option (Value × Nat) := r.map fun p => (.int .u8 p.1.toNat, p.2)
theorem kaT {b c : UInt8} (h : b ≠ c) : ((b.toNat : Int) == (c.toNat : Int)) = false := by
 simp
 intro e
 exact h (UInt8.toNat_inj.1 (by omega))
theorem keO {T : List UInt8} {k d k' : Nat} (h : kaz T k = some (d, k')) : d < 16 := by
 unfold kaz hexd at h
 simp only [UInt8.le_iff_toNat_le] at h
 rw [show (48 : UInt8).toNat = 48 from rfl, show (57 : UInt8).toNat = 57 from rfl, show (97 : UInt8).toNat = 97 from rfl, show (102 : UInt8).toNat = 102 from rfl, show (65 : UInt8).toNat = 65 from rfl, show (70 : UInt8).toNat = 70 from rfl] at h
 split at h
 ·
  cases h
 split at h
 ·
  cases h
 rename_i d' hd
 injection h with h
 injection h with h1 h2
 exact z20
theorem or16_all : ∀ a : Fin 16, ∀ b : Fin 16, bits BinOp.or IntKind.u8 ((a.val : Int) * 16) (b.val : Int) = ((UInt8.ofNat (16 * a.val + b.val)).toNat : Int) := by decide +kernel
theorem or16 (a b : Nat) (ha : a < 16) (hb : b < 16) : bits BinOp.or IntKind.u8 ((a : Int) * 16) (b : Int) = ((UInt8.ofNat (16 * a + b)).toNat : Int) := or16_all ⟨a, ha⟩ ⟨b, hb⟩
theorem ret_u8 {a b : Int} (h : a = b) : Ending.returned (.int .u8 a) = .returned (.int .u8 b) := by rw [h]
theorem esc_none {T : List UInt8} {g k : Nat} (w : World) (h : PS T w g k) (hb : T[k]? = none) : Calls Tryz.prog 204 #[.pointer (some ⟨g, 0, none⟩)] w (PFail T w g) := by
 have HN := hD (kc0 w h hb)
 clear h hb
 go_enter Tryz.func204, Tryz.ntmps204
 go_wp2_with fail
 refine HN.out.mono ?_
 rintro e w1 ⟨rfl, hp, hk⟩
 go_wp2_with fail
 exact ⟨rfl, rfl, hp, hk⟩
theorem esc_n {T : List UInt8} {g k : Nat} (w : World) (h : PS T w g k) (hb : T[k]? = some 110) : Calls Tryz.prog 204 #[.pointer (some ⟨g, 0, none⟩)] w (PStep T w g (.int .u8 10) (k + 1)) := by
 have HN := hD (kaU w h hb)
 rw [show ((110 : UInt8).toNat : Int) = 110 from rfl] at HN
 exact z19
theorem esc_t {T : List UInt8} {g k : Nat} (w : World) (h : PS T w g k) (hb : T[k]? = some 116) : Calls Tryz.prog 204 #[.pointer (some ⟨g, 0, none⟩)] w (PStep T w g (.int .u8 9) (k + 1)) := by
 have HN := hD (kaU w h hb)
 rw [show ((116 : UInt8).toNat : Int) = 116 from rfl] at HN
 exact z19
theorem esc_r {T : List UInt8} {g k : Nat} (w : World) (h : PS T w g k) (hb : T[k]? = some 114) : Calls Tryz.prog 204 #[.pointer (some ⟨g, 0, none⟩)] w (PStep T w g (.int .u8 13) (k + 1)) := by
 have HN := hD (kaU w h hb)
 rw [show ((114 : UInt8).toNat : Int) = 114 from rfl] at HN
 exact z19
theorem esc_x1 {T : List UInt8} {g k : Nat} (w : World) (h : PS T w g k) (hb : T[k]? = some 120) (hd : kaz T (k + 1) = none) : Calls Tryz.prog 204 #[.pointer (some ⟨g, 0, none⟩)] w (PFail T w g) := by
 have HN := hD (kaU w h hb)
 rw [show ((120 : UInt8).toNat : Int) = 120 from rfl] at HN
 have HD := hD hd
 clear h hb hd
 go_enter Tryz.func204, Tryz.ntmps204
 go_wp2_with fail
 refine HN.out.mono ?_
 rintro e w1 ⟨rfl, hp, hk⟩
 go_wp2_with fail
 have hc := keN w1 hp
 rw [HD.out] at hc
 refine hc.mono ?_
 clear hc
 rintro e w2 ⟨rfl, hp2, hk2⟩
 go_wp2_with fail
 exact ⟨rfl, rfl, hp2, hk.then_ hk2⟩
theorem esc_x2 {T : List UInt8} {g k d1 k1 : Nat} (w : World) (h : PS T w g k) (hb : T[k]? = some 120) (hd : kaz T (k + 1) = some (d1, k1)) (hd2 : kaz T k1 = none) : Calls Tryz.prog 204 #[.pointer (some ⟨g, 0, none⟩)] w (PFail T w g) := by
 have HN := hD (kaU w h hb)
 rw [show ((120 : UInt8).toNat : Int) = 120 from rfl] at HN
 have t508q0 := True.intro
 exact y65
theorem esc_x3 {T : List UInt8} {g k d1 k1 d2 k2 : Nat} (w : World) (h : PS T w g k) (hb : T[k]? = some 120) (hd : kaz T (k + 1) = some (d1, k1)) (hd2 : kaz T k1 = some (d2, k2)) : Calls Tryz.prog 204 #[.pointer (some ⟨g, 0, none⟩)] w (PStep T w g (.int .u8 (UInt8.ofNat (16 * d1 + d2)).toNat) k2) := by
 have HN := hD (kaU w h hb)
 rw [show ((120 : UInt8).toNat : Int) = 120 from rfl] at HN
 have h1 := keO hd
 have h2 := keO hd2
 exact y65
theorem esc_p {T : List UInt8} {g k : Nat} {b : UInt8} (w : World) (h : PS T w g k) (hb : T[k]? = some b) (h1 : b ≠ 110) (h2 : b ≠ 116) (h3 : b ≠ 114) (h4 : b ≠ 120) (hp : kcT b = true) : Calls Tryz.prog 204 #[.pointer (some ⟨g, 0, none⟩)] w (PStep T w g (.int .u8 b.toNat) (k + 1)) := by
 have t503q0 := True.intro
 exact y60
theorem esc_q {T : List UInt8} {g k : Nat} {b : UInt8} (w : World) (h : PS T w g k) (hb : T[k]? = some b) (h1 : b ≠ 110) (h2 : b ≠ 116) (h3 : b ≠ 114) (h4 : b ≠ 120) (hp : kcT b = false) : Calls Tryz.prog 204 #[.pointer (some ⟨g, 0, none⟩)] w (PFail T w g) := by
 exact y60
theorem kjI {T : List UInt8} {g k : Nat} (w : World) (h : PS T w g k) : Calls Tryz.prog 204 #[.pointer (some ⟨g, 0, none⟩)] w (PRes T w g (eV (escP T k))) := by
 unfold escP
 rcases hb : T[k]? with _ | b
 ·
  exact esc_none w h hb
 simp only
 by_cases h1 : b = 110
 ·
  rw [if_pos h1]; subst h1; exact esc_n w h hb
 rw [if_neg h1]
 by_cases h2 : b = 116
 ·
  rw [if_pos h2]; subst h2; exact esc_t w h hb
 rw [if_neg h2]
 by_cases h3 : b = 114
 ·
  rw [if_pos h3]; subst h3; exact esc_r w h hb
 rw [if_neg h3]
 by_cases h4 : b = 120
 ·
  rw [if_pos h4]
  subst h4
  rcases hd : kaz T (k + 1) with _ | ⟨d1, k1⟩
  ·
   exact esc_x1 w h hb hd
  ·
   simp only
   rcases hd2 : kaz T k1 with _ | ⟨d2, k2⟩
   ·
    exact esc_x2 w h hb hd hd2
   ·
    exact esc_x3 w h hb hd hd2
 rw [if_neg h4]
 rcases hp : kcT b with _ | _
 ·
  exact esc_q w h hb h1 h2 h3 h4 hp
 ·
  exact esc_p w h hb h1 h2 h3 h4 hp
set_option maxHeartbeats 1000000
def hexI (b : UInt8) : Int := match hexd b with
 | some d => d
 | none => -1
theorem kkJ (b : UInt8) (w : World) : Calls Tryz.prog 244 #[.int .u8 b.toNat] w fun e w' => e = .returned (.int .i64 (hexI b)) ∧ w = w' := by
 obtain ⟨hx0, hx1⟩ := u8b b
 have hc : (48 ≤ (b.toNat : Int) ∧ (b.toNat : Int) ≤ 57 ∧ hexI b = b.toNat - 48) ∨ (97 ≤ (b.toNat : Int) ∧ (b.toNat : Int) ≤ 102 ∧ hexI b = b.toNat - 97 + 10) ∨ (65 ≤ (b.toNat : Int) ∧ (b.toNat : Int) ≤ 70 ∧ hexI b = b.toNat - 65 + 10) ∨
   ((b.toNat : Int) < 48 ∧ hexI b = -1) ∨ (57 < (b.toNat : Int) ∧ (b.toNat : Int) < 65 ∧ hexI b = -1) ∨ (70 < (b.toNat : Int) ∧ (b.toNat : Int) < 97 ∧ hexI b = -1) ∨ (102 < (b.toNat : Int) ∧ hexI b = -1) := by
  have hd : ∀ r, hexd b = r → _ := fun r h => h
  unfold hexd at hd
  simp only [UInt8.le_iff_toNat_le] at hd
  rw [show (48 : UInt8).toNat = 48 from rfl, show (57 : UInt8).toNat = 57 from rfl, show (97 : UInt8).toNat = 97 from rfl, show (102 : UInt8).toNat = 102 from rfl, show (65 : UInt8).toNat = 65 from rfl, show (70 : UInt8).toNat = 70 from rfl] at hd
  rcases hr : hexd b with _ | d
  ·
   have e : hexI b = -1 := by unfold hexI; rw [hr]
   rw [e]
   have hd := hd none (by simpa [hexd, UInt8.le_iff_toNat_le] using hr)
   split at hd
   ·
    cases hd
   split at hd
   ·
    cases hd
   split at hd
   ·
    cases hd
   omega
  ·
   have e : hexI b = d := by unfold hexI; rw [hr]
   rw [e]
   have hd := hd (some d) (by simpa [hexd, UInt8.le_iff_toNat_le] using hr)
   exact z20
 generalize (b.toNat : Int) = x at *
 generalize hexI b = y at *
 rcases hc with ⟨h1, h2, rfl⟩ | ⟨h1, h2, rfl⟩ | ⟨h1, h2, rfl⟩ | ⟨h1, rfl⟩ | ⟨h1, h2, rfl⟩ | ⟨h1, h2, rfl⟩ | ⟨h1, rfl⟩
 all_goals
  go_enter Tryz.func244, Tryz.ntmps244
  go_wp2_with fail
  go_ret
  exact ⟨rfl, rfl⟩
theorem kky (b : UInt8) (w : World) : Calls Tryz.prog 245 #[.int .u8 b.toNat] w fun e w' => e = .returned (.bool (kcT b)) ∧ w = w' := by
 exact y28
def elV (r : Option (UInt8 × Nat)) : Value := match r with
 | some (b, n) => .tuple #[.int .u8 b.toNat, .int .i64 n]
 | none => .tuple #[.int .u8 0, .int .i64 0]
def ElEnd (w : World) (r : Option (UInt8 × Nat)) (e : Ending) (w' : World) : Prop := e = .returned (elV r) ∧ w = w'
theorem el_nil (w : World) : Calls Tryz.prog 231 #[.string ⟨([] : List UInt8).toArray⟩] w (ElEnd w none) := by
 go_enter Tryz.func231, Tryz.ntmps231
 go_wp2_with fail
 go_ret2
 exact ⟨rfl, rfl⟩
section
variable {l : List UInt8} {b : UInt8} (w : World)
theorem ix0 (h : l[0]? = some b) : ∀ w, (Instr.index 9 (.string ⟨l.toArray⟩) (.int .i64 0)).run Tryz.prog w = .ok (.int .u8 b.toNat) w := idxT Tryz.underlying9 h
theorem ix1 (h : l[1]? = some b) : ∀ w, (Instr.index 9 (.string ⟨l.toArray⟩) (.int .i64 1)).run Tryz.prog w = .ok (.int .u8 b.toNat) w := idxT Tryz.underlying9 h
theorem ix2 (h : l[2]? = some b) : ∀ w, (Instr.index 9 (.string ⟨l.toArray⟩) (.int .i64 2)).run Tryz.prog w = .ok (.int .u8 b.toNat) w := idxT Tryz.underlying9 h
theorem ix3 (h : l[3]? = some b) : ∀ w, (Instr.index 9 (.string ⟨l.toArray⟩) (.int .i64 3)).run Tryz.prog w = .ok (.int .u8 b.toNat) w := idxT Tryz.underlying9 h
theorem kd4 (h : l[0]? = some b) : (l == []) = false := by cases l <;> simp_all
theorem el_stop (h : l[0]? = some b) (hb : b = 93 ∨ b = 45) : Calls Tryz.prog 231 #[.string ⟨l.toArray⟩] w (ElEnd w none) := by
 have hx := ix0 h
 have hn := kd4 h
 clear h
 rcases hb with rfl | rfl
 ·
  rw [show ((93 : UInt8).toNat : Int) = 93 from rfl] at hx
  go_enter Tryz.func231, Tryz.ntmps231
  go_wp2_with fail
  go_ret2
  exact ⟨rfl, rfl⟩
 ·
  rw [show ((45 : UInt8).toNat : Int) = 45 from rfl] at hx
  go_enter Tryz.func231, Tryz.ntmps231
  go_wp2_with fail
  go_ret2
  exact ⟨rfl, rfl⟩
theorem el_plain (h : l[0]? = some b) (h1 : b ≠ 93) (h2 : b ≠ 45) (h3 : b ≠ 92) : Calls Tryz.prog 231 #[.string ⟨l.toArray⟩] w (ElEnd w (some (b, 1))) := by
 have hx := ix0 h
 have hn := kd4 h
 have e1 : ((b.toNat : Int) == 93) = false := kaT h1
 have e2 : ((b.toNat : Int) == 45) = false := kaT h2
 have e3 : ((b.toNat : Int) == 92) = false := kaT h3
 have e4 : ((b.toNat : Int) != 92) = true := by simpa using e3
 clear h h1 h2 h3
 go_enter Tryz.func231, Tryz.ntmps231
 go_wp2_with fail
 go_ret2
 exact ⟨rfl, rfl⟩
theorem el_one (h : l[0]? = some 92) (h1 : l[1]? = none) : Calls Tryz.prog 231 #[.string ⟨l.toArray⟩] w (ElEnd w none) := by
 have hx := ix0 h
 have hn := kd4 h
 rw [show ((92 : UInt8).toNat : Int) = 92 from rfl] at hx
 have hl : l.length = 1 := by have := kaw h; have := List.getElem?_eq_none_iff.1 h1; omega
 have hd : decide ((l.length : Int) < 2) = true := by simp; omega
 clear h h1 hl
 go_enter Tryz.func231, Tryz.ntmps231
 go_wp2_with fail
 go_ret2
 exact ⟨rfl, rfl⟩
theorem el_esc (c : UInt8) (h : l[0]? = some 92) (h1 : l[1]? = some c) (hc : c ≠ 120) : Calls Tryz.prog 231 #[.string ⟨l.toArray⟩] w (ElEnd w ((escP l 1).map fun p => (p.1, 2))) := by
 have hx := ix0 h
 have hy := ix1 h1
 have hn := kd4 h
 rw [show ((92 : UInt8).toNat : Int) = 92 from rfl] at hx
 have hl := kaw h1
 have hd : decide ((l.length : Int) < 2) = false := by simp; omega
 unfold escP
 rw [h1]
 simp only
 clear h h1 hl
 by_cases h1 : c = 110
 ·
  rw [if_pos h1]; subst h1
  rw [show ((110 : UInt8).toNat : Int) = 110 from rfl] at hy
  go_enter Tryz.func231, Tryz.ntmps231
  go_wp2_with fail
  go_ret2
  exact ⟨rfl, rfl⟩
 rw [if_neg h1]
 by_cases h2 : c = 116
 ·
  rw [if_pos h2]; subst h2
  rw [show ((116 : UInt8).toNat : Int) = 116 from rfl] at hy
  clear h1
  go_enter Tryz.func231, Tryz.ntmps231
  go_wp2_with fail
  go_ret2
  exact ⟨rfl, rfl⟩
 rw [if_neg h2]
 by_cases h3 : c = 114
 ·
  rw [if_pos h3]; subst h3
  rw [show ((114 : UInt8).toNat : Int) = 114 from rfl] at hy
  clear h1 h2
  go_enter Tryz.func231, Tryz.ntmps231
  go_wp2_with fail
  go_ret2
  exact ⟨rfl, rfl⟩
 rw [if_neg h3, if_neg hc]
 have e1 : ((c.toNat : Int) == 110) = false := kaT h1
 have e2 : ((c.toNat : Int) == 116) = false := kaT h2
 have e3 : ((c.toNat : Int) == 114) = false := kaT h3
 have e4 : ((c.toNat : Int) == 120) = false := kaT hc
 have HP := hD (kky c w)
 clear h1 h2 h3 hc
 rcases hp : kcT c with _ | _
 all_goals
  rw [hp] at HP
  clear hp
  go_enter Tryz.func231, Tryz.ntmps231
  go_wp2_with fail
  refine HP.out.mono ?_
  rintro e w' ⟨rfl, rfl⟩
  go_wp2_with fail
  go_ret2
  exact ⟨rfl, rfl⟩
theorem el_x0 (h : l[0]? = some 92) (h1 : l[1]? = some 120) (hl : l.length < 4) : Calls Tryz.prog 231 #[.string ⟨l.toArray⟩] w (ElEnd w none) := by
 have hx := ix0 h
 have hy := ix1 h1
 have hn := kd4 h
 rw [show ((92 : UInt8).toNat : Int) = 92 from rfl] at hx
 rw [show ((120 : UInt8).toNat : Int) = 120 from rfl] at hy
 have hl2 := kaw h1
 have hd : decide ((l.length : Int) < 2) = false := by simp; omega
 have hd4 : decide ((l.length : Int) < 4) = true := by simp; omega
 clear h h1 hl hl2
 go_enter Tryz.func231, Tryz.ntmps231
 go_wp2_with fail
 go_ret2
 exact ⟨rfl, rfl⟩
end
end Go.Proofs.YtamhdmkolfmmdaaGreatDoor
namespace Go.Proofs.YtamhdmkolfmmdaaGreatDoor
open Go.RowKit Go.WideMaps
set_option maxRecDepth 100000
set_option maxHeartbeats 1000000
def sigT : List (List UInt8 × List Int × Int) := [
 ([108, 101, 110], [3], 1),
 ([108, 105, 110, 101, 115], [3], 1),
 ([115, 105, 122, 101], [4], 1),
 ([99, 111, 109, 109, 111, 110], [3, 3], 1),
 ([109, 105, 110], [1, 1], 1),
 ([109, 97, 120], [1, 1], 1),
 ([43], [1, 1], 1),
 ([45], [1, 1], 1),
 ([42], [1, 1], 1),
 ([99, 111, 117, 110, 116], [3, 0], 1),
 ([61, 61], [1, 1], 2),
 ([33, 61], [1, 1], 2),
 ([60], [1, 1], 2),
 ([60, 61], [1, 1], 2),
 ([97, 110, 100], [2, 2], 2),
 ([111, 114], [2, 2], 2),
 ([110, 111, 116], [2], 2),
 ([104, 97, 115], [3, 0], 2),
 ([43, 43], [3, 3], 3),
 ([99, 117, 116], [3, 1, 1], 3),
 ([108, 105, 110, 101], [3, 1], 3),
 ([114, 101, 112], [3, 1], 3),
 ([112, 105, 99, 107], [3, 4, 1], 3),
 ([102, 105, 110, 100], [3, 0], 4),
 ([114, 111, 119, 115], [3], 4),
 ([115, 112, 97, 110], [1, 1], 4),
 ([119, 105, 116, 104, 105, 110], [4, 4], 4),
 ([111, 118, 101, 114], [4, 4], 4),
 ([117, 110, 105, 111, 110], [4, 4], 4),
 ([109, 105, 110, 117, 115], [4, 4], 4),
 ([97, 102, 116, 101, 114], [4, 4, 1], 4),
 ([102, 105, 114, 115, 116], [4, 1], 4)]
def sigF (l : List UInt8) : List (List UInt8 × List Int × Int) → Option (List Int × Int)
 | [] => none
 | (n, a, r) :: t => if l = n then some (a, r) else sigF l t
def sig (l : List UInt8) : Option (List Int × Int) := sigF l sigT
def kav (w : World) (r : Option (List Int × Int)) (e : Ending) (w' : World) : Prop :=
 Below w.heap.size w w' ∧ match r with
  | some (a, r) => ∃ c, e = .returned (.tuple #[.slice (some ⟨w.heap.size, 0, none⟩) a.length c, .int .i64 r, .bool true]) ∧ Blk w' w.heap.size 3 (a.map (Value.int .i64)).toArray
  | none => e = .returned (.tuple #[.slice none 0 0, .int .i64 0, .bool false])
theorem kaa (w : World) (o : Obj) : Below w.heap.size w (w.alloc o) := (Below.refl _ _).alloc (Nat.le_refl _) _
theorem sigX_0 (w : World) : Calls Tryz.prog 93 #[.string ⟨#[108, 101, 110]⟩] w (kav w (some ([3], 1))) := by
 go_enter Tryz.func93, Tryz.ntmps93
 go_wp2_with fail
 go_ret3
 exact ⟨kaa _ _, _, rfl, Blk.new _ _ _⟩
theorem sigX_1 (w : World) : Calls Tryz.prog 93 #[.string ⟨#[108, 105, 110, 101, 115]⟩] w (kav w (some ([3], 1))) := by
 go_enter Tryz.func93, Tryz.ntmps93
 go_wp2_with fail
 go_ret3
 exact ⟨kaa _ _, _, rfl, Blk.new _ _ _⟩
theorem sigX_2 (w : World) : Calls Tryz.prog 93 #[.string ⟨#[115, 105, 122, 101]⟩] w (kav w (some ([4], 1))) := by
 go_enter Tryz.func93, Tryz.ntmps93
 go_wp2_with fail
 go_ret3
 exact ⟨kaa _ _, _, rfl, Blk.new _ _ _⟩
theorem sigX_3 (w : World) : Calls Tryz.prog 93 #[.string ⟨#[99, 111, 109, 109, 111, 110]⟩] w (kav w (some ([3, 3], 1))) := by
 go_enter Tryz.func93, Tryz.ntmps93
 go_wp2_with fail
 go_ret3
 exact ⟨kaa _ _, _, rfl, Blk.new _ _ _⟩
theorem sigX_4 (w : World) : Calls Tryz.prog 93 #[.string ⟨#[109, 105, 110]⟩] w (kav w (some ([1, 1], 1))) := by
 go_enter Tryz.func93, Tryz.ntmps93
 go_wp2_with fail
 go_ret3
 exact ⟨kaa _ _, _, rfl, Blk.new _ _ _⟩
theorem sigX_5 (w : World) : Calls Tryz.prog 93 #[.string ⟨#[109, 97, 120]⟩] w (kav w (some ([1, 1], 1))) := by
 go_enter Tryz.func93, Tryz.ntmps93
 go_wp2_with fail
 go_ret3
 exact ⟨kaa _ _, _, rfl, Blk.new _ _ _⟩
theorem sigX_6 (w : World) : Calls Tryz.prog 93 #[.string ⟨#[43]⟩] w (kav w (some ([1, 1], 1))) := by
 go_enter Tryz.func93, Tryz.ntmps93
 go_wp2_with fail
 go_ret3
 exact ⟨kaa _ _, _, rfl, Blk.new _ _ _⟩
theorem sigX_7 (w : World) : Calls Tryz.prog 93 #[.string ⟨#[45]⟩] w (kav w (some ([1, 1], 1))) := by
 go_enter Tryz.func93, Tryz.ntmps93
 go_wp2_with fail
 go_ret3
 exact ⟨kaa _ _, _, rfl, Blk.new _ _ _⟩
theorem sigX_8 (w : World) : Calls Tryz.prog 93 #[.string ⟨#[42]⟩] w (kav w (some ([1, 1], 1))) := by
 go_enter Tryz.func93, Tryz.ntmps93
 go_wp2_with fail
 go_ret3
 exact ⟨kaa _ _, _, rfl, Blk.new _ _ _⟩
theorem sigX_9 (w : World) : Calls Tryz.prog 93 #[.string ⟨#[99, 111, 117, 110, 116]⟩] w (kav w (some ([3, 0], 1))) := by
 go_enter Tryz.func93, Tryz.ntmps93
 go_wp2_with fail
 go_ret3
 exact ⟨kaa _ _, _, rfl, Blk.new _ _ _⟩
theorem sigX_10 (w : World) : Calls Tryz.prog 93 #[.string ⟨#[61, 61]⟩] w (kav w (some ([1, 1], 2))) := by
 go_enter Tryz.func93, Tryz.ntmps93
 go_wp2_with fail
 go_ret3
 exact ⟨kaa _ _, _, rfl, Blk.new _ _ _⟩
theorem sigX_11 (w : World) : Calls Tryz.prog 93 #[.string ⟨#[33, 61]⟩] w (kav w (some ([1, 1], 2))) := by
 go_enter Tryz.func93, Tryz.ntmps93
 go_wp2_with fail
 go_ret3
 exact ⟨kaa _ _, _, rfl, Blk.new _ _ _⟩
theorem sigX_12 (w : World) : Calls Tryz.prog 93 #[.string ⟨#[60]⟩] w (kav w (some ([1, 1], 2))) := by
 go_enter Tryz.func93, Tryz.ntmps93
 go_wp2_with fail
 go_ret3
 exact ⟨kaa _ _, _, rfl, Blk.new _ _ _⟩
theorem sigX_13 (w : World) : Calls Tryz.prog 93 #[.string ⟨#[60, 61]⟩] w (kav w (some ([1, 1], 2))) := by
 go_enter Tryz.func93, Tryz.ntmps93
 go_wp2_with fail
 go_ret3
 exact ⟨kaa _ _, _, rfl, Blk.new _ _ _⟩
theorem sigX_14 (w : World) : Calls Tryz.prog 93 #[.string ⟨#[97, 110, 100]⟩] w (kav w (some ([2, 2], 2))) := by
 go_enter Tryz.func93, Tryz.ntmps93
 go_wp2_with fail
 go_ret3
 exact ⟨kaa _ _, _, rfl, Blk.new _ _ _⟩
theorem sigX_15 (w : World) : Calls Tryz.prog 93 #[.string ⟨#[111, 114]⟩] w (kav w (some ([2, 2], 2))) := by
 go_enter Tryz.func93, Tryz.ntmps93
 go_wp2_with fail
 go_ret3
 exact ⟨kaa _ _, _, rfl, Blk.new _ _ _⟩
theorem sigX_16 (w : World) : Calls Tryz.prog 93 #[.string ⟨#[110, 111, 116]⟩] w (kav w (some ([2], 2))) := by
 go_enter Tryz.func93, Tryz.ntmps93
 go_wp2_with fail
 go_ret3
 exact ⟨kaa _ _, _, rfl, Blk.new _ _ _⟩
theorem sigX_17 (w : World) : Calls Tryz.prog 93 #[.string ⟨#[104, 97, 115]⟩] w (kav w (some ([3, 0], 2))) := by
 go_enter Tryz.func93, Tryz.ntmps93
 go_wp2_with fail
 go_ret3
 exact ⟨kaa _ _, _, rfl, Blk.new _ _ _⟩
theorem sigX_18 (w : World) : Calls Tryz.prog 93 #[.string ⟨#[43, 43]⟩] w (kav w (some ([3, 3], 3))) := by
 go_enter Tryz.func93, Tryz.ntmps93
 go_wp2_with fail
 go_ret3
 exact ⟨kaa _ _, _, rfl, Blk.new _ _ _⟩
theorem sigX_19 (w : World) : Calls Tryz.prog 93 #[.string ⟨#[99, 117, 116]⟩] w (kav w (some ([3, 1, 1], 3))) := by
 go_enter Tryz.func93, Tryz.ntmps93
 go_wp2_with fail
 go_ret3
 exact ⟨kaa _ _, _, rfl, Blk.new _ _ _⟩
theorem sigX_20 (w : World) : Calls Tryz.prog 93 #[.string ⟨#[108, 105, 110, 101]⟩] w (kav w (some ([3, 1], 3))) := by
 go_enter Tryz.func93, Tryz.ntmps93
 go_wp2_with fail
 go_ret3
 exact ⟨kaa _ _, _, rfl, Blk.new _ _ _⟩
theorem sigX_21 (w : World) : Calls Tryz.prog 93 #[.string ⟨#[114, 101, 112]⟩] w (kav w (some ([3, 1], 3))) := by
 go_enter Tryz.func93, Tryz.ntmps93
 go_wp2_with fail
 go_ret3
 exact ⟨kaa _ _, _, rfl, Blk.new _ _ _⟩
theorem sigX_22 (w : World) : Calls Tryz.prog 93 #[.string ⟨#[112, 105, 99, 107]⟩] w (kav w (some ([3, 4, 1], 3))) := by
 go_enter Tryz.func93, Tryz.ntmps93
 go_wp2_with fail
 go_ret3
 exact ⟨kaa _ _, _, rfl, Blk.new _ _ _⟩
theorem sigX_23 (w : World) : Calls Tryz.prog 93 #[.string ⟨#[102, 105, 110, 100]⟩] w (kav w (some ([3, 0], 4))) := by
 go_enter Tryz.func93, Tryz.ntmps93
 go_wp2_with fail
 go_ret3
 exact ⟨kaa _ _, _, rfl, Blk.new _ _ _⟩
theorem sigX_24 (w : World) : Calls Tryz.prog 93 #[.string ⟨#[114, 111, 119, 115]⟩] w (kav w (some ([3], 4))) := by
 go_enter Tryz.func93, Tryz.ntmps93
 go_wp2_with fail
 go_ret3
 exact ⟨kaa _ _, _, rfl, Blk.new _ _ _⟩
theorem sigX_25 (w : World) : Calls Tryz.prog 93 #[.string ⟨#[115, 112, 97, 110]⟩] w (kav w (some ([1, 1], 4))) := by
 go_enter Tryz.func93, Tryz.ntmps93
 go_wp2_with fail
 go_ret3
 exact ⟨kaa _ _, _, rfl, Blk.new _ _ _⟩
theorem sigX_26 (w : World) : Calls Tryz.prog 93 #[.string ⟨#[119, 105, 116, 104, 105, 110]⟩] w (kav w (some ([4, 4], 4))) := by
 go_enter Tryz.func93, Tryz.ntmps93
 go_wp2_with fail
 go_ret3
 exact ⟨kaa _ _, _, rfl, Blk.new _ _ _⟩
theorem sigX_27 (w : World) : Calls Tryz.prog 93 #[.string ⟨#[111, 118, 101, 114]⟩] w (kav w (some ([4, 4], 4))) := by
 go_enter Tryz.func93, Tryz.ntmps93
 go_wp2_with fail
 go_ret3
 exact ⟨kaa _ _, _, rfl, Blk.new _ _ _⟩
theorem sigX_28 (w : World) : Calls Tryz.prog 93 #[.string ⟨#[117, 110, 105, 111, 110]⟩] w (kav w (some ([4, 4], 4))) := by
 go_enter Tryz.func93, Tryz.ntmps93
 go_wp2_with fail
 go_ret3
 exact ⟨kaa _ _, _, rfl, Blk.new _ _ _⟩
theorem sigX_29 (w : World) : Calls Tryz.prog 93 #[.string ⟨#[109, 105, 110, 117, 115]⟩] w (kav w (some ([4, 4], 4))) := by
 go_enter Tryz.func93, Tryz.ntmps93
 go_wp2_with fail
 go_ret3
 exact ⟨kaa _ _, _, rfl, Blk.new _ _ _⟩
theorem sigX_30 (w : World) : Calls Tryz.prog 93 #[.string ⟨#[97, 102, 116, 101, 114]⟩] w (kav w (some ([4, 4, 1], 4))) := by
 go_enter Tryz.func93, Tryz.ntmps93
 go_wp2_with fail
 go_ret3
 exact ⟨kaa _ _, _, rfl, Blk.new _ _ _⟩
theorem sigX_31 (w : World) : Calls Tryz.prog 93 #[.string ⟨#[102, 105, 114, 115, 116]⟩] w (kav w (some ([4, 1], 4))) := by
 go_enter Tryz.func93, Tryz.ntmps93
 go_wp2_with fail
 go_ret3
 exact ⟨kaa _ _, _, rfl, Blk.new _ _ _⟩
theorem klt (l : List UInt8) (w : World) (hn : ∀ n ∈ sigT.map (·.1), l ≠ n) : Calls Tryz.prog 93 #[.string ⟨l.toArray⟩] w (kav w none) := by
 have h0 : (l == [108, 101, 110]) = false := by simpa using hn [108, 101, 110] (by simp [sigT])
 have h1 : (l == [108, 105, 110, 101, 115]) = false := by simpa using hn [108, 105, 110, 101, 115] (by simp [sigT])
 have h2 : (l == [115, 105, 122, 101]) = false := by simpa using hn [115, 105, 122, 101] (by simp [sigT])
 have h3 : (l == [99, 111, 109, 109, 111, 110]) = false := by simpa using hn [99, 111, 109, 109, 111, 110] (by simp [sigT])
 have h4 : (l == [109, 105, 110]) = false := by simpa using hn [109, 105, 110] (by simp [sigT])
 have h5 : (l == [109, 97, 120]) = false := by simpa using hn [109, 97, 120] (by simp [sigT])
 have h6 : (l == [43]) = false := by simpa using hn [43] (by simp [sigT])
 have h7 : (l == [45]) = false := by simpa using hn [45] (by simp [sigT])
 have h8 : (l == [42]) = false := by simpa using hn [42] (by simp [sigT])
 have h9 : (l == [99, 111, 117, 110, 116]) = false := by simpa using hn [99, 111, 117, 110, 116] (by simp [sigT])
 have h10 : (l == [61, 61]) = false := by simpa using hn [61, 61] (by simp [sigT])
 have h11 : (l == [33, 61]) = false := by simpa using hn [33, 61] (by simp [sigT])
 have h12 : (l == [60]) = false := by simpa using hn [60] (by simp [sigT])
 have h13 : (l == [60, 61]) = false := by simpa using hn [60, 61] (by simp [sigT])
 have h14 : (l == [97, 110, 100]) = false := by simpa using hn [97, 110, 100] (by simp [sigT])
 have h15 : (l == [111, 114]) = false := by simpa using hn [111, 114] (by simp [sigT])
 have h16 : (l == [110, 111, 116]) = false := by simpa using hn [110, 111, 116] (by simp [sigT])
 have h17 : (l == [104, 97, 115]) = false := by simpa using hn [104, 97, 115] (by simp [sigT])
 have h18 : (l == [43, 43]) = false := by simpa using hn [43, 43] (by simp [sigT])
 have h19 : (l == [99, 117, 116]) = false := by simpa using hn [99, 117, 116] (by simp [sigT])
 have h20 : (l == [108, 105, 110, 101]) = false := by simpa using hn [108, 105, 110, 101] (by simp [sigT])
 have h21 : (l == [114, 101, 112]) = false := by simpa using hn [114, 101, 112] (by simp [sigT])
 have h22 : (l == [112, 105, 99, 107]) = false := by simpa using hn [112, 105, 99, 107] (by simp [sigT])
 have h23 : (l == [102, 105, 110, 100]) = false := by simpa using hn [102, 105, 110, 100] (by simp [sigT])
 have h24 : (l == [114, 111, 119, 115]) = false := by simpa using hn [114, 111, 119, 115] (by simp [sigT])
 have h25 : (l == [115, 112, 97, 110]) = false := by simpa using hn [115, 112, 97, 110] (by simp [sigT])
 have h26 : (l == [119, 105, 116, 104, 105, 110]) = false := by simpa using hn [119, 105, 116, 104, 105, 110] (by simp [sigT])
 have h27 : (l == [111, 118, 101, 114]) = false := by simpa using hn [111, 118, 101, 114] (by simp [sigT])
 have h28 : (l == [117, 110, 105, 111, 110]) = false := by simpa using hn [117, 110, 105, 111, 110] (by simp [sigT])
 have h29 : (l == [109, 105, 110, 117, 115]) = false := by simpa using hn [109, 105, 110, 117, 115] (by simp [sigT])
 have h30 : (l == [97, 102, 116, 101, 114]) = false := by simpa using hn [97, 102, 116, 101, 114] (by simp [sigT])
 have h31 : (l == [102, 105, 114, 115, 116]) = false := by simpa using hn [102, 105, 114, 115, 116] (by simp [sigT])
 clear hn
 go_enter Tryz.func93, Tryz.ntmps93
 go_wp2_with fail
 go_ret3
 exact ⟨Below.refl _ _, rfl⟩
theorem sigX_any (l : List UInt8) (w : World) : Calls Tryz.prog 93 #[.string ⟨l.toArray⟩] w (kav w (sig l)) := by
 unfold sig sigT
 rw [sigF]
 by_cases h0 : l = [108, 101, 110]
 ·
  rw [if_pos h0, h0]
  exact sigX_0 w
 rw [if_neg h0]
 rw [sigF]
 by_cases h1 : l = [108, 105, 110, 101, 115]
 ·
  rw [if_pos h1, h1]
  exact sigX_1 w
 rw [if_neg h1]
 rw [sigF]
 by_cases h2 : l = [115, 105, 122, 101]
 ·
  rw [if_pos h2, h2]
  exact sigX_2 w
 rw [if_neg h2]
 rw [sigF]
 by_cases h3 : l = [99, 111, 109, 109, 111, 110]
 ·
  rw [if_pos h3, h3]
  exact sigX_3 w
 rw [if_neg h3]
 rw [sigF]
 by_cases h4 : l = [109, 105, 110]
 ·
  rw [if_pos h4, h4]
  exact sigX_4 w
 rw [if_neg h4]
 rw [sigF]
 by_cases h5 : l = [109, 97, 120]
 ·
  rw [if_pos h5, h5]
  exact sigX_5 w
 rw [if_neg h5]
 rw [sigF]
 by_cases h6 : l = [43]
 ·
  rw [if_pos h6, h6]
  exact sigX_6 w
 rw [if_neg h6]
 rw [sigF]
 by_cases h7 : l = [45]
 ·
  rw [if_pos h7, h7]
  exact sigX_7 w
 rw [if_neg h7]
 rw [sigF]
 by_cases h8 : l = [42]
 ·
  rw [if_pos h8, h8]
  exact sigX_8 w
 rw [if_neg h8]
 rw [sigF]
 by_cases h9 : l = [99, 111, 117, 110, 116]
 ·
  rw [if_pos h9, h9]
  exact sigX_9 w
 rw [if_neg h9]
 rw [sigF]
 by_cases h10 : l = [61, 61]
 ·
  rw [if_pos h10, h10]
  exact sigX_10 w
 rw [if_neg h10]
 rw [sigF]
 by_cases h11 : l = [33, 61]
 ·
  rw [if_pos h11, h11]
  exact sigX_11 w
 rw [if_neg h11]
 rw [sigF]
 by_cases h12 : l = [60]
 ·
  rw [if_pos h12, h12]
  exact sigX_12 w
 rw [if_neg h12]
 rw [sigF]
 by_cases h13 : l = [60, 61]
 ·
  rw [if_pos h13, h13]
  exact sigX_13 w
 rw [if_neg h13]
 rw [sigF]
 by_cases h14 : l = [97, 110, 100]
 ·
  rw [if_pos h14, h14]
  exact sigX_14 w
 rw [if_neg h14]
 rw [sigF]
 by_cases h15 : l = [111, 114]
 ·
  rw [if_pos h15, h15]
  exact sigX_15 w
 rw [if_neg h15]
 rw [sigF]
 by_cases h16 : l = [110, 111, 116]
 ·
  rw [if_pos h16, h16]
  exact sigX_16 w
 rw [if_neg h16]
 rw [sigF]
 by_cases h17 : l = [104, 97, 115]
 ·
  rw [if_pos h17, h17]
  exact sigX_17 w
 rw [if_neg h17]
 rw [sigF]
 by_cases h18 : l = [43, 43]
 ·
  rw [if_pos h18, h18]
  exact sigX_18 w
 rw [if_neg h18]
 rw [sigF]
 by_cases h19 : l = [99, 117, 116]
 ·
  rw [if_pos h19, h19]
  exact sigX_19 w
 rw [if_neg h19]
 rw [sigF]
 by_cases h20 : l = [108, 105, 110, 101]
 ·
  rw [if_pos h20, h20]
  exact sigX_20 w
 rw [if_neg h20]
 rw [sigF]
 by_cases h21 : l = [114, 101, 112]
 ·
  rw [if_pos h21, h21]
  exact sigX_21 w
 rw [if_neg h21]
 rw [sigF]
 by_cases h22 : l = [112, 105, 99, 107]
 ·
  rw [if_pos h22, h22]
  exact sigX_22 w
 rw [if_neg h22]
 rw [sigF]
 by_cases h23 : l = [102, 105, 110, 100]
 ·
  rw [if_pos h23, h23]
  exact sigX_23 w
 rw [if_neg h23]
 rw [sigF]
 by_cases h24 : l = [114, 111, 119, 115]
 ·
  rw [if_pos h24, h24]
  exact sigX_24 w
 rw [if_neg h24]
 rw [sigF]
 by_cases h25 : l = [115, 112, 97, 110]
 ·
  rw [if_pos h25, h25]
  exact sigX_25 w
 rw [if_neg h25]
 rw [sigF]
 by_cases h26 : l = [119, 105, 116, 104, 105, 110]
 ·
  rw [if_pos h26, h26]
  exact sigX_26 w
 rw [if_neg h26]
 rw [sigF]
 by_cases h27 : l = [111, 118, 101, 114]
 ·
  rw [if_pos h27, h27]
  exact sigX_27 w
 rw [if_neg h27]
 rw [sigF]
 by_cases h28 : l = [117, 110, 105, 111, 110]
 ·
  rw [if_pos h28, h28]
  exact sigX_28 w
 rw [if_neg h28]
 rw [sigF]
 by_cases h29 : l = [109, 105, 110, 117, 115]
 ·
  rw [if_pos h29, h29]
  exact sigX_29 w
 rw [if_neg h29]
 rw [sigF]
 by_cases h30 : l = [97, 102, 116, 101, 114]
 ·
  rw [if_pos h30, h30]
  exact sigX_30 w
 rw [if_neg h30]
 rw [sigF]
 by_cases h31 : l = [102, 105, 114, 115, 116]
 ·
  rw [if_pos h31, h31]
  exact sigX_31 w
 rw [if_neg h31]
 rw [sigF]
 refine klt l w fun n hn => ?_
 simp only [sigT, List.map_cons, List.map_nil, List.mem_cons, List.not_mem_nil, or_false] at hn
 rcases hn with rfl | rfl | rfl | rfl | rfl | rfl | rfl | rfl | rfl | rfl | rfl | rfl | rfl | rfl | rfl | rfl | rfl | rfl | rfl | rfl | rfl | rfl | rfl | rfl | rfl | rfl | rfl | rfl | rfl | rfl | rfl | rfl <;> assumption
end Go.Proofs.YtamhdmkolfmmdaaGreatDoor
