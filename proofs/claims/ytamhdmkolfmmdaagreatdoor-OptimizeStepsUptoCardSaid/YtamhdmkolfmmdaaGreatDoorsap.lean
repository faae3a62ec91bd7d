/- The walk of plan.operationOf. The walk of plan.typed. -/
import Derived.Test.YtamhdmkolfmmdaaGreatDoorsam
import Derived.Test.YtamhdmkolfmmdaaGreatDoorsah
import Derived.Test.YtamhdmkolfmmdaaGreatDoorsan
import Derived.Test.YtamhdmkolfmmdaaGreatDoorsak
import Derived.Deep.LoopGhost
import Derived.Test.YtamhdmkolfmmdaaGreatDoorsaa
set_option linter.unusedVariables false
set_option linter.unusedSimpArgs false
namespace Go.Proofs.YtamhdmkolfmmdaaGreatDoor
open Go.RowKit
set_option maxRecDepth 100000
set_option maxHeartbeats 4000000
theorem z17 {P : Prop} (h : P := by
 go_enter Tryz.func53, Tryz.ntmps53
 go_wp2_with fail
 refine bodyPost_ret (v := .tuple #[.agg #[.slice none 0 0, .int .i64 3, .bool true, .bool false], .bool true]) (by simp [results, Tryz.results53, go_sem]) rfl ?_
 exact kcG ⟨[], 3, true, false⟩ (A := none) (c := 0) (by show (_ : Option OpI) = _; kernel_rfl) rfl (kaa w _) (kju _ _ _ _)) : P := h
def kdm (w : World) (n : List UInt8) (e : Ending) (w' : World) : Prop := Below w.heap.size w w' ∧ match opR n with
 | none => e = .returned (.tuple #[.agg #[.slice none 0 0, .int .i64 0, .bool false, .bool false], .bool false])
 | some o => ∃ A c, e = .returned (.tuple #[.agg #[.slice A o.args.length c, .int .i64 o.res, .bool o.text, .bool o.regex], .bool true]) ∧ RdF w' (rng w.heap.size w'.heap.size) 1 A o.args.length (o.args.map (Value.int .i64))
theorem kcG {w w' : World} {n : List UInt8} {e : Ending} (o : OpI) {A : Option Addr} {c : Nat} (ho : opR n = some o) (he : e = .returned (.tuple #[.agg #[.slice A o.args.length c, .int .i64 o.res, .bool o.text, .bool o.regex], .bool true])) (hb : Below w.heap.size w w') (hr : RdF w' (rng w.heap.size w'.heap.size) 1 A o.args.length (o.args.map (Value.int .i64))) :
  kdm w n e w' := by
 refine ⟨hb, ?_⟩
 rw [ho]
 exact ⟨A, c, he, hr⟩
theorem kju (w : World) (F : Nat → Prop) (size : Nat) (A : Option Addr) : RdF w F size A 0 [] := ⟨by simp, fun h => absurd h (by omega)⟩
theorem kf9 {w : World} {F : Nat → Prop} {g : Nat} {t : TypeId} {cs : Array Value} (hb : Blk w g t cs) (hF : F g) (n size : Nat) (hn : cs.size = n * size) : RdF w F size (some ⟨g, 0, none⟩) n cs.toList :=
 ⟨by simpa using hn, fun _ => ⟨g, 0, rfl, hF, hb.lt, fun j u hj => by rw [Nat.zero_add, hb.cell]; simpa using hj⟩⟩
theorem kf8 {w : World} {F : Nat → Prop} {base e size n c : Nat} {A : Option Addr} {xs : List Value} (h : w.ownsRow base e size (.slice A n c) n xs) (hF : ∀ g, base ≤ g → g < w.heap.size → F g) : RdF w F size A n xs := by
 refine ⟨h.1, fun hn => ?_⟩
 obtain ⟨g, c', hv, _, hbg, hgl, hc⟩ := ka8 h hn
 injection hv with hA
 exact ⟨g, 0, hA, hF g hbg hgl, hgl, fun j u hj => by rw [Nat.zero_add]; exact hc j u hj⟩
theorem klF (w : World) : Calls Tryz.prog 53 #[.string ⟨#[110, 117, 109, 98, 101, 114]⟩] w (kdm w [110, 117, 109, 98, 101, 114]) := by
 go_enter Tryz.func53, Tryz.ntmps53
 go_wp2_with fail
 refine bodyPost_ret (v := .tuple #[.agg #[.slice none 0 0, .int .i64 1, .bool false, .bool false], .bool true]) (by simp [results, Tryz.results53, go_sem]) rfl ?_
 exact kcG ⟨[], 1, false, false⟩ (A := none) (c := 0) (by show (_ : Option OpI) = _; kernel_rfl) rfl (kaa w _) (kju _ _ _ _)
theorem klE (w : World) : Calls Tryz.prog 53 #[.string ⟨#[115, 116, 114, 105, 110, 103]⟩] w (kdm w [115, 116, 114, 105, 110, 103]) := by
 exact z17
theorem op_ref (w : World) : Calls Tryz.prog 53 #[.string ⟨#[114, 101, 102]⟩] w (kdm w [114, 101, 102]) := by
 exact z17
theorem kkr (w : World) : Calls Tryz.prog 53 #[.string ⟨#[109, 97, 116, 99, 104, 101, 115]⟩] w (kdm w [109, 97, 116, 99, 104, 101, 115]) := by
 go_enter Tryz.func53, Tryz.ntmps53
 go_wp2_with fail
 refine bodyPost_ret (v := .tuple #[.agg #[.slice (some ⟨w.heap.size + 1, 0, none⟩) 1 1, .int .i64 1, .bool true, .bool true], .bool true]) (by simp [results, Tryz.results53, go_sem]) rfl ?_
 refine kcG ⟨[3], 1, true, true⟩ (A := some ⟨w.heap.size + 1, 0, none⟩) (c := 1) (by show (_ : Option OpI) = _; kernel_rfl) rfl ?_ ?_
 ·
  exact ((kaa w _).alloc (by simp) _)
 ·
  refine kf9 (t := 3) (cs := #[.int .i64 3]) ?_ ⟨by omega, by simp⟩ 1 1 rfl
  have := Blk.new (w.alloc (.cells #[.slice (some ⟨w.heap.size + 1, 0, none⟩) 1 1, .int .i64 1, .bool true, .bool true] 111)) 3 #[.int .i64 3]
  simpa using this
theorem khR (w : World) : Calls Tryz.prog 53 #[.string ⟨#[102, 105, 114, 115, 116, 102, 105, 110, 100]⟩] w (kdm w [102, 105, 114, 115, 116, 102, 105, 110, 100]) := by
 go_enter Tryz.func53, Tryz.ntmps53
 go_wp2_with fail
 refine bodyPost_ret (v := .tuple #[.agg #[.slice (some ⟨w.heap.size + 1, 0, none⟩) 2 2, .int .i64 4, .bool true, .bool true], .bool true]) (by simp [results, Tryz.results53, go_sem]) rfl ?_
 refine kcG ⟨[3, 1], 4, true, true⟩ (A := some ⟨w.heap.size + 1, 0, none⟩) (c := 2) (by show (_ : Option OpI) = _; kernel_rfl) rfl ?_ ?_
 ·
  exact ((kaa w _).alloc (by simp) _)
 ·
  refine kf9 (t := 3) (cs := #[.int .i64 3, .int .i64 1]) ?_ ⟨by omega, by simp⟩ 2 1 rfl
  have := Blk.new (w.alloc (.cells #[.slice (some ⟨w.heap.size + 1, 0, none⟩) 2 2, .int .i64 4, .bool true, .bool true] 111)) 3 #[.int .i64 3, .int .i64 1]
  simpa using this
theorem klG (w : World) : Calls Tryz.prog 53 #[.string ⟨#[108, 101, 110, 99, 117, 116]⟩] w (kdm w [108, 101, 110, 99, 117, 116]) := by
 go_enter Tryz.func53, Tryz.ntmps53
 go_wp2_with fail
 refine bodyPost_ret (v := .tuple #[.agg #[.slice (some ⟨w.heap.size + 1, 0, none⟩) 3 3, .int .i64 1, .bool false, .bool false], .bool true]) (by simp [results, Tryz.results53, go_sem]) rfl ?_
 refine kcG ⟨[3, 1, 1], 1, false, false⟩ (A := some ⟨w.heap.size + 1, 0, none⟩) (c := 3) (by show (_ : Option OpI) = _; kernel_rfl) rfl ?_ ?_
 ·
  exact ((kaa w _).alloc (by simp) _)
 ·
  refine kf9 (t := 3) (cs := #[.int .i64 3, .int .i64 1, .int .i64 1]) ?_ ⟨by omega, by simp⟩ 3 1 rfl
  have := Blk.new (w.alloc (.cells #[.slice (some ⟨w.heap.size + 1, 0, none⟩) 3 3, .int .i64 1, .bool false, .bool false] 111)) 3 #[.int .i64 3, .int .i64 1, .int .i64 1]
  simpa using this
theorem opR_sig (n : List UInt8) (hn0 : n ≠ [110, 117, 109, 98, 101, 114]) (hn1 : n ≠ [115, 116, 114, 105, 110, 103]) (hn2 : n ≠ [114, 101, 102]) (hn3 : n ≠ [109, 97, 116, 99, 104, 101, 115]) (hn4 : n ≠ [102, 105, 114, 115, 116, 102, 105, 110, 100]) (hn5 : n ≠ [108, 101, 110, 99, 117, 116]) : opR n = (match sig n with
  | none => none
  | some q => some (opS q)) := by
 unfold opR kab kai nRef ka0 kaF kbf
 rw [if_neg hn0, if_neg (fun h => h.elim hn1 hn2), if_neg hn3, if_neg hn4, if_neg hn5]
 cases sig n <;> rfl
def OpSt (S : List Int) (k : Nat) (zs : List Int) (tb : Bool) : Prop := zs = (S.take k).filter (fun t => decide (t ≠ 0)) ∧ tb = (S.take k).any (fun t => decide (t = 0))
theorem OpSt.zero (S : List Int) : OpSt S 0 [] false := ⟨rfl, rfl⟩
theorem OpSt.yes {S : List Int} {k : Nat} {zs : List Int} {tb : Bool} (h : OpSt S k zs tb) (ht : S.take (k + 1) = S.take k ++ [0]) : OpSt S (k + 1) zs true := by
 obtain ⟨rfl, rfl⟩ := h
 unfold OpSt
 rw [ht]
 simp
theorem OpSt.no {S : List Int} {k : Nat} {zs : List Int} {tb : Bool} {t : Int} (h : OpSt S k zs tb) (ht : S.take (k + 1) = S.take k ++ [t]) (h0 : t ≠ 0) : OpSt S (k + 1) (zs ++ [t]) tb := by
 obtain ⟨rfl, rfl⟩ := h
 unfold OpSt
 rw [ht]
 simp [h0]
theorem OpSt.end_ {S : List Int} {zs : List Int} {tb : Bool} {r : Int} (h : OpSt S S.length zs tb) : opS (S, r) = ⟨zs, r, tb, tb⟩ := by
 obtain ⟨rfl, rfl⟩ := h
 rw [List.take_length]
 rfl
def OpRel (w : World) (S : List Int) (r : Int) (g0 g : Nat) (f : Nat) (i : Value) (wr : World) : Prop := ∃ (k : Nat) (zs : List Int) (tb : Bool) (A : Option Addr) (c : Nat), i = .int .i64 k ∧ k ≤ S.length ∧ S.length - k < f ∧ zs.length ≤ k ∧ Hid (OpSt S k zs tb) ∧
 Hid (Blk wr g 111 #[.slice A zs.length c, .int .i64 r, .bool tb, .bool tb]) ∧
 Hid (wr.ownsRow g 3 1 (.slice A zs.length c) zs.length (zs.map (Value.int .i64))) ∧
 Hid (Blk wr g0 3 (S.map (Value.int .i64)).toArray) ∧ Hid (Blk wr w.heap.size 111 #[.slice none 0 0, .int .i64 0, .bool false, .bool false]) ∧ Hid (Below w.heap.size w wr)
theorem kjF : (Tryz.prog.info? 3).map (fun i => (i.zero, i.size, i.bytes)) = some (some (.int .i64 0), 1, 8) := by kernel_rfl
theorem op_sig (n : List UInt8) (hn0 : n ≠ [110, 117, 109, 98, 101, 114]) (hn1 : n ≠ [115, 116, 114, 105, 110, 103]) (hn2 : n ≠ [114, 101, 102]) (hn3 : n ≠ [109, 97, 116, 99, 104, 101, 115]) (hn4 : n ≠ [102, 105, 114, 115, 116, 102, 105, 110, 100]) (hn5 : n ≠ [108, 101, 110, 99, 117, 116]) (w : World) : Calls Tryz.prog 53 #[.string ⟨n.toArray⟩] w (kdm w n) := by
 have HO := hD (opR_sig n hn0 hn1 hn2 hn3 hn4 hn5)
 have h0 : (n == [110, 117, 109, 98, 101, 114]) = false := by simpa using hn0
 have h1 : (n == [115, 116, 114, 105, 110, 103]) = false := by simpa using hn1
 have h2 : (n == [114, 101, 102]) = false := by simpa using hn2
 have h3 : (n == [109, 97, 116, 99, 104, 101, 115]) = false := by simpa using hn3
 have h4 : (n == [102, 105, 114, 115, 116, 102, 105, 110, 100]) = false := by simpa using hn4
 have h5 : (n == [108, 101, 110, 99, 117, 116]) = false := by simpa using hn5
 have HB0 := hD (Blk.new w 111 #[.slice none 0 0, .int .i64 0, .bool false, .bool false])
 clear hn0 hn1 hn2 hn3 hn4 hn5
 go_enter Tryz.func53, Tryz.ntmps53
 go_wp2_with fail
 refine (sigX_any n _).mono ?_
 rintro e w1 ⟨hb1, h1⟩
 have HB0 := hD (HB0.out.below hb1 (by simp))
 have HB1 := hD hb1
 have hz1 := hb1.size
 simp at hz1
 clear hb1
 cases hs : sig n with
 | none =>
  rw [hs] at h1
  have h1 : e = _ := h1
  subst h1
  have HS := hD (show opR n = none by rw [HO.out, hs])
  obtain ⟨c0, c1, c2, c3, f0, f1, f2, f3⟩ := blk4 HB0.out
  clear hs
  go_wp2_with fail
  refine bodyPost_ret (v := .tuple #[.agg #[.slice none 0 0, .int .i64 0, .bool false, .bool false], .bool false]) (by simp [results, Tryz.results53, go_sem, c0, c1, c2, c3]) rfl ?_
  refine ⟨kh4 ((kaa w _).trans (HB1.out.mono (by simp))) (Nat.le_refl _), ?_⟩
  rw [HS.out]
 | some q =>
  obtain ⟨S, r⟩ := q
  rw [hs] at h1
  obtain ⟨c1, rfl, hB1⟩ := h1
  have HS := hD (show opR n = some (opS (S, r)) by rw [HO.out, hs])
  have HS1 := hD hB1
  have hpos := kjq hs
  have hlS : S.length ≤ 3 := hpos.2.2.2
  have hzz : (w.alloc (.cells #[.slice none 0 0, .int .i64 0, .bool false, .bool false] 111)).heap.size = w.heap.size + 1 := by simp
  rw [hzz] at HS1
  rw [hzz]
  clear hs hB1 hpos HO
  go_wp2_with fail
  go_loopg [43, 9] (S.length + 1) (fun f i _ wr => OpRel w S r (w.heap.size + 1) w1.heap.size f i wr)
  case atStart =>
   refine ⟨0, [], false, none, 0, rfl, by omega, by omega, by simp, hD (OpSt.zero S), ?_, ?_, ?_, ?_, ?_⟩
   ·
    exact hD (Blk.new w1 111 _)
   ·
    exact hD ⟨rfl, .inl ⟨rfl, rfl⟩⟩
   ·
    exact hD (HS1.out.alloc _)
   ·
    exact hD (HB0.out.alloc _)
   ·
    exact hD (((kaa w _).trans (HB1.out.mono (by simp))).alloc (by omega) _)
  case round =>
   obtain ⟨k, zs, tb, A, c, rfl, hk, hkf, hzk, HST, HG, HW, HSB, HRB, HBW⟩ := hrel
   obtain ⟨f, rfl⟩ : ∃ f, gk = f + 1 := ⟨gk - 1, by omega⟩
   obtain ⟨c0, c1', c2, c3, f0, f1, f2, f3⟩ := blk4 HG.out
   have hgl := HG.out.lt
   by_cases hlt : k < S.length
   ·
    obtain ⟨t, ht⟩ : ∃ t, S[k]? = some t := ⟨S[k], List.getElem?_eq_getElem hlt⟩
    have hct : wr.cell? ⟨w.heap.size + 1, k, none⟩ = some (.int .i64 t) := by rw [HSB.out.cell]; simp [ht]
    have htk : S.take (k + 1) = S.take k ++ [t] := by rw [List.take_add_one, ht]; rfl
    have HTK := hD htk
    clear ht htk
    have q0 : (k : Int) < (S.length : Int) := by omega
    by_cases h0 : t = 0
    ·
     subst h0
     go_wp2_with fail
     have HG2 := hD ((HG.out.set_ 2 (.bool true)).set_ 3 (.bool true))
     go_roundg f
     case measure => omega
     case rel =>
      have hb := HBW.out.size
      have hg' : w.heap.size ≤ w1.heap.size := by omega
      refine ⟨k + 1, zs, true, A, c, by go_num, by omega, by omega, by omega, hD (HST.out.yes HTK.out), HG2, hD (kbe (kbe HW.out (p := ⟨w1.heap.size, 2, none⟩) (kan HW.out HG.out (by decide)) _) (p := ⟨w1.heap.size, 3, none⟩) (kan HW.out HG.out (by decide)) _), hD ((HSB.out.far (p := ⟨w1.heap.size, 2, none⟩) (by show _ ≠ w1.heap.size; exact Blk.ne_ HSB.out HG.out (by decide)) _).far (p := ⟨w1.heap.size, 3, none⟩) (by show _ ≠ w1.heap.size; exact Blk.ne_ HSB.out HG.out (by decide)) _), hD ((HRB.out.far (p := ⟨w1.heap.size, 2, none⟩) (by show _ ≠ w1.heap.size; omega) _).far (p := ⟨w1.heap.size, 3, none⟩) (by show _ ≠ w1.heap.size; omega) _), hD ((HBW.out.setCell (p := ⟨w1.heap.size, 2, none⟩) hg' _).setCell (p := ⟨w1.heap.size, 3, none⟩) hg' _)⟩
    ·
     have e0 : (t == 0) = false := by simpa using h0
     have HST2 := hD (HST.out.no HTK.out h0)
     have ho4 := HW.out.alloc (.cells #[.int .i64 t] 3)
     have hrr := reads1 wr (.int .i64 t) 3
     have hone : ∀ u ∈ ([.int .i64 t] : List Value), u.oneCell' = true := by simp [Value.oneCell']
     have hb := HBW.out.size
     have hvg : (Value.slice A zs.length c).ownBlock ≠ some w1.heap.size := kan HW.out HG.out (by decide)
     have hvs : (Value.slice A zs.length c).ownBlock ≠ some w.heap.size := kan HW.out HRB.out (by decide)
     have hvb : (Value.slice A zs.length c).ownBlock ≠ some (w.heap.size + 1) := fun e => by have := (kaq HW.out e).1; have := HS1.out.lt; omega
     have hlo := fun j e => (kaq HW.out (g := j) e).1
     have HVB := hD hvb
     have HVG := hD hvg
     have HVS := hD hvs
     have HLO := hD hlo
     clear h0 hvg hvs hlo hvb
     obtain ⟨i0, hinf, hz0, hz1', hz2'⟩ := info_parts kjF
     go_wp2_with (at_builtin; refine kam _ rfl (.tmp 52) (.tmp 54) 47 rfl w1.heap.size 3 i0 (.int .i64 0) 1 8 Tryz.underlying47 hinf hz0 hz1' hz2' rfl (by decide) _ zs.length _ rfl ho4 _ _ _ _ [.int .i64 t] rfl hrr hone (by unfold maxLen; omega) (by omega) (by simp; omega) ?_)
     intro v5 w5 hown5 hg5 hv5
     obtain ⟨A5, c5, rfl⟩ := kak hown5
     have HO5 := hD (show w5.ownsRow w1.heap.size 3 1 (.slice A5 (zs ++ [t]).length c5) (zs ++ [t]).length ((zs ++ [t]).map (Value.int .i64)) by rw [List.length_append, List.map_append]; exact hown5)
     have hG5 := (HG.out.alloc (.cells #[.int .i64 t] 3)).grown hg5 (fun e => HVG.out e.symm)
     have HS5 := hD ((HSB.out.alloc (.cells #[.int .i64 t] 3)).grown hg5 (fun e => by
      have he : (Value.slice A zs.length c).ownBlock = some (w.heap.size + 1) := e.symm
      exact HVB.out he))
     have HR5 := hD ((HRB.out.alloc (.cells #[.int .i64 t] 3)).grown hg5 (fun e => HVS.out e.symm))
     have HB5 := hD ((HBW.out.alloc hb (.cells #[.int .i64 t] 3)).grown hg5 (by simp; omega) (fun j e => by have := HLO.out j e; omega))
     obtain ⟨y0, y1, y2, y3, z0, z1, z2, z3⟩ := blk4 hG5
     have HG5 := hD hG5
     have hle : (zs ++ [t]).length = zs.length + 1 := by simp
     have HLE := hD hle
     clear ho4 hrr hone hinf hz0 hz1' hz2' hown5 hg5 hv5 hG5 hle c0 c1' c2 c3 f0 f1 f2 f3
     go_wp2_with fail
     go_roundg f
     case measure => omega
     case rel =>
      have hg' : w.heap.size ≤ w1.heap.size := by omega
      have hB := HG5.out.set_ 0 (.slice A5 (zs ++ [t]).length c5)
      refine ⟨k + 1, zs ++ [t], tb, A5, c5, by go_num, by omega, by omega, by rw [HLE.out]; omega, HST2, hD ?_, hD ?_, hD ?_, hD ?_, hD ?_⟩
      ·
       rw [HLE.out] at hB ⊢; exact hB
      ·
       exact kbe HO5.out (p := ⟨w1.heap.size, 0, none⟩) (kan HO5.out HG5.out (by decide)) _
      ·
       exact HS5.out.far (p := ⟨w1.heap.size, 0, none⟩) (by show _ ≠ w1.heap.size; exact Blk.ne_ HS5.out HG5.out (by decide)) _
      ·
       exact HR5.out.far (p := ⟨w1.heap.size, 0, none⟩) (by show _ ≠ w1.heap.size; omega) _
      ·
       exact HB5.out.setCell (p := ⟨w1.heap.size, 0, none⟩) hg' _
   ·
    have hkS : k = S.length := by omega
    subst hkS
    obtain ⟨d0, d1, d2, d3, z0, z1, z2, z3⟩ := blk4 HRB.out
    have HEN := hD (HS.out.trans (congrArg some (HST.out.end_ (r := r))))
    have hwg : w.heap.size ≠ w1.heap.size := by omega
    go_wp2_with fail
    refine bodyPost_ret (v := .tuple #[.agg #[.slice A zs.length c, .int .i64 r, .bool tb, .bool tb], .bool true]) (by simp [results, Tryz.results53, go_sem, d0, d1, d2, d3]) rfl ?_
    refine kcG ⟨zs, r, tb, tb⟩ (A := A) (c := c) HEN.out rfl (kh4 HBW.out (Nat.le_refl _)) (kf8 (base := w1.heap.size) (e := 3) (n := zs.length) (c := c) ?_ (fun g h1 h2 => ⟨by omega, h2⟩))
    have hw : (Value.slice A zs.length c).ownBlock ≠ some w.heap.size := kan HW.out HRB.out (by decide)
    exact kbe (kbe (kbe (kbe HW.out (p := ⟨w.heap.size, 0, none⟩) hw _) (p := ⟨w.heap.size, 1, none⟩) hw _) (p := ⟨w.heap.size, 2, none⟩) hw _) (p := ⟨w.heap.size, 3, none⟩) hw _
theorem op_any (n : List UInt8) (w : World) : Calls Tryz.prog 53 #[.string ⟨n.toArray⟩] w (kdm w n) := by
 by_cases hn0 : n = [110, 117, 109, 98, 101, 114]
 ·
  subst hn0; exact klF w
 by_cases hn1 : n = [115, 116, 114, 105, 110, 103]
 ·
  subst hn1; exact klE w
 by_cases hn2 : n = [114, 101, 102]
 ·
  subst hn2; exact op_ref w
 by_cases hn3 : n = [109, 97, 116, 99, 104, 101, 115]
 ·
  subst hn3; exact kkr w
 by_cases hn4 : n = [102, 105, 114, 115, 116, 102, 105, 110, 100]
 ·
  subst hn4; exact khR w
 by_cases hn5 : n = [108, 101, 110, 99, 117, 116]
 ·
  subst hn5; exact klG w
 exact op_sig n hn0 hn1 hn2 hn3 hn4 hn5 w
theorem keI {a : Int} (h : 0 ≤ a) : ∃ m : Nat, a = m := ⟨a.toNat, by omega⟩
theorem kff {s : List UInt8} (h : kaG s = true) : s = [61, 61] ∨ s = [33, 61] ∨ s = [60] ∨ s = [60, 61] := by
 unfold kaG at h
 simpa using h
theorem kbM {l : List St} {m : Nat} {s : St} (h : l[m]? = some s) : tyAt l (m : Int) = s.ty := by
 unfold tyAt
 rw [Int.toNat_natCast, h]
structure TypIn (w : World) (A : Option Addr) (l : List St) (s : St) (As : Option Addr) (o : OpI) (Ao : Option Addr) : Prop where
 pl : PlAt w (fun i => i < w.heap.size) A l
 ar : RdF w (fun i => i < w.heap.size) 1 As s.args.length (s.args.map (Value.int .i64))
 oa : RdF w (fun i => i < w.heap.size) 1 Ao o.args.length (o.args.map (Value.int .i64))
 len : s.args.length = o.args.length
 back : ∀ a ∈ s.args, 0 ≤ a ∧ a < (l.length : Int)
 small : l.length ≤ 100000
theorem kk8 (A : Option Addr) (c : Nat) (l : List St) (s : St) (As : Option Addr) (cs : Nat) (o : OpI) (Ao : Option Addr) (co : Nat) (w : World) (h : TypIn w A l s As o Ao) (hc : kaG s.op = true) (h2 : s.args.length = 2) :
  Calls Tryz.prog 78 #[.slice A l.length c, .agg #[.string ⟨s.op.toArray⟩, .slice As s.args.length cs, .int .i64 s.num, .string ⟨s.text.toArray⟩, .int .i64 s.ty], .agg #[.slice Ao o.args.length co, .int .i64 o.res, .bool o.text, .bool o.regex]] w fun e w' => e = .returned (.bool (ka7 l s o)) ∧ Below w.heap.size w w' := by
 obtain ⟨op, args, num, text, ty⟩ := s
 obtain ⟨a0, a1, rfl⟩ : ∃ a0 a1, args = [a0, a1] := by
  match args, h2 with
  | [a0, a1], _ => exact ⟨a0, a1, rfl⟩
 obtain ⟨m0, rfl⟩ := keI (h.back a0 (by simp)).1
 obtain ⟨m1, rfl⟩ := keI (h.back a1 (by simp)).1
 have hm0 : m0 < l.length := by have := (h.back m0 (by simp)).2; omega
 have hm1 : m1 < l.length := by have := (h.back m1 (by simp)).2; omega
 have hs0 : l[m0]? = some l[m0] := List.getElem?_eq_getElem _
 have hs1 : l[m1]? = some l[m1] := List.getElem?_eq_getElem _
 have hR : ka7 l ⟨op, [(m0 : Int), (m1 : Int)], num, text, ty⟩ o = (if l[m0].ty ≠ l[m1].ty then false else if l[m0].ty = 2 then kcx op else decide (l[m0].ty = 1 ∨ l[m0].ty = 3)) := by
  unfold ka7
  rw [if_pos hc]
  show (if tyAt l (m0 : Int) ≠ tyAt l (m1 : Int) then false else if tyAt l (m0 : Int) = 2 then kcx op else decide (tyAt l (m0 : Int) = 1 ∨ tyAt l (m0 : Int) = 3)) = _
  rw [kbM hs0, kbM hs1]
 obtain ⟨ba, oa, rfl, _, hba, hca0⟩ := RdF.int (zs := [(m0 : Int), (m1 : Int)]) h.ar (k := 0) rfl
 obtain ⟨ba', oa', hae, _, _, hca1⟩ := RdF.int (zs := [(m0 : Int), (m1 : Int)]) h.ar (k := 1) rfl
 injection hae with hae
 injection hae with hae1 hae2
 subst hae1 hae2
 obtain ⟨b, ob, _, _, rfl, _, hb, _, _, _, _, ht0, _⟩ := h.pl.step hs0
 obtain ⟨b', ob', _, _, hpe, _, _, _, _, _, _, ht1, _⟩ := h.pl.step hs1
 injection hpe with hpe
 injection hpe with hpe1 hpe2
 subst hpe1 hpe2
 have hop := kff hc
 generalize l[m0].ty = t0 at *
 generalize l[m1].ty = t1 at *
 have hn : (l.length : Int) ≤ 100000 := by have := h.small; omega
 have q0 : (m0 : Int) < (l.length : Int) := by omega
 have q1 : (m1 : Int) < (l.length : Int) := by omega
 have q2 : (0 : Int) ≤ (m0 : Int) := by omega
 have q3 : (0 : Int) ≤ (m1 : Int) := by omega
 have HR := hD hR
 rw [Nat.add_zero] at hca0
 clear hR h hc h2 hs0 hs1
 rcases hop with rfl | rfl | rfl | rfl
 all_goals
  by_cases e01 : t0 = t1
  ·
   subst e01
   by_cases e2 : t0 = 2
   ·
    subst e2
    go_enter Tryz.func78, Tryz.ntmps78
    go_wp2_with fail
    go_ret
    exact ⟨by rw [HR.out]; rfl, ((Below.refl _ _).alloc (Nat.le_refl _) _).alloc (by simp) _⟩
   ·
    have e3 : (t0 == 2) = false := by simpa using e2
    have HE := hD e2
    clear e2
    by_cases e1 : t0 = 1
    ·
     subst e1
     go_enter Tryz.func78, Tryz.ntmps78
     go_wp2_with fail
     go_ret
     exact ⟨by rw [HR.out]; rfl, ((Below.refl _ _).alloc (Nat.le_refl _) _).alloc (by simp) _⟩
    ·
     have e4 : (t0 == 1) = false := by simpa using e1
     have HE1 := hD e1
     clear e1
     go_enter Tryz.func78, Tryz.ntmps78
     go_wp2_with fail
     go_ret
     refine ⟨?_, ((Below.refl _ _).alloc (Nat.le_refl _) _).alloc (by simp) _⟩
     rw [HR.out, if_neg (by simp), if_neg HE.out]
     have := HE1.out
     simp [this]
     try rfl
  ·
   have e3 : (t0 == t1) = false := by simpa using e01
   have e4 : (t0 != t1) = true := by simpa using e01
   have HE := hD e01
   clear e01
   go_enter Tryz.func78, Tryz.ntmps78
   go_wp2_with fail
   go_ret
   exact ⟨by rw [HR.out, if_pos HE.out]; rfl, ((Below.refl _ _).alloc (Nat.le_refl _) _).alloc (by simp) _⟩
def TypRel (w : World) (stC opC : Array Value) (l : List St) (s : St) (o : OpI) (f : Nat) (i : Value) (wr : World) : Prop := ∃ k : Nat, i = .int .i64 k ∧ k ≤ s.args.length ∧ s.args.length - k < f ∧ Hid (∀ j : Nat, j < k → (s.args.map (tyAt l))[j]? = o.args[j]?) ∧
 Hid (Blk wr w.heap.size 77 stC) ∧ Hid (Blk wr (w.heap.size + 1) 111 opC) ∧ Hid (Below w.heap.size w wr)
theorem kjW {l : List St} {s : St} {o : OpI} (hc : kaG s.op = false) : ka7 l s o = decide (s.args.map (tyAt l) = o.args) := by
 unfold ka7
 rw [if_neg (by rw [hc]; decide)]
theorem klU {s : List UInt8} (h : kaG s = false) : (s == [61, 61]) = false ∧ (s == [33, 61]) = false ∧ (s == [60]) = false ∧ (s == [60, 61]) = false := by
 unfold kaG at h
 simp at h
 simpa using h
theorem kk7 (A : Option Addr) (c : Nat) (l : List St) (s : St) (As : Option Addr) (cs : Nat) (o : OpI) (Ao : Option Addr) (co : Nat) (w : World) (h : TypIn w A l s As o Ao) (hc : kaG s.op = false) (hsm : s.args.length ≤ 100000) :
  Calls Tryz.prog 78 #[.slice A l.length c, .agg #[.string ⟨s.op.toArray⟩, .slice As s.args.length cs, .int .i64 s.num, .string ⟨s.text.toArray⟩, .int .i64 s.ty], .agg #[.slice Ao o.args.length co, .int .i64 o.res, .bool o.text, .bool o.regex]] w fun e w' => e = .returned (.bool (ka7 l s o)) ∧ Below w.heap.size w w' := by
 obtain ⟨n1, n2, n3, n4⟩ := klU hc
 have HR := hD (kjW (l := l) (o := o) hc)
 have HH := hD h
 have hn : (l.length : Int) ≤ 100000 := by have := h.small; omega
 have HLN := hD h.len
 obtain ⟨nm, hnm⟩ := xE s.op
 obtain ⟨tx, htx⟩ := xE s.text
 rw [← hnm, ← htx]
 rw [← hnm] at n1 n2 n3 n4
 obtain ⟨stC, hst⟩ : ∃ stC : Array Value, stC = #[.string ⟨nm.toArray⟩, .slice As s.args.length cs, .int .i64 s.num, .string ⟨tx.toArray⟩, .int .i64 s.ty] := ⟨_, rfl⟩
 obtain ⟨opC, hopc⟩ : ∃ opC : Array Value, opC = #[.slice Ao o.args.length co, .int .i64 o.res, .bool o.text, .bool o.regex] := ⟨_, rfl⟩
 have HSC := hD hst
 have HOC := hD hopc
 have HB1 := hD (show Blk ((w.alloc (.cells #[.string ⟨nm.toArray⟩, .slice As s.args.length cs, .int .i64 s.num, .string ⟨tx.toArray⟩, .int .i64 s.ty] 77)).alloc (.cells #[.slice Ao o.args.length co, .int .i64 o.res, .bool o.text, .bool o.regex] 111)) w.heap.size 77 stC by rw [hst]; exact (Blk.new _ _ _).alloc _)
 have HB2 := hD (show Blk ((w.alloc (.cells #[.string ⟨nm.toArray⟩, .slice As s.args.length cs, .int .i64 s.num, .string ⟨tx.toArray⟩, .int .i64 s.ty] 77)).alloc (.cells #[.slice Ao o.args.length co, .int .i64 o.res, .bool o.text, .bool o.regex] 111)) (w.heap.size + 1) 111 opC by
  rw [hopc]
  have := Blk.new (w.alloc (.cells #[.string ⟨nm.toArray⟩, .slice As s.args.length cs, .int .i64 s.num, .string ⟨tx.toArray⟩, .int .i64 s.ty] 77)) 111 #[.slice Ao o.args.length co, .int .i64 o.res, .bool o.text, .bool o.regex]
  simpa using this)
 clear hnm htx hc h hst hopc
 go_enter Tryz.func78, Tryz.ntmps78
 go_wp2_with fail
 go_loopg [54, 8, 9] (s.args.length + 1) (fun f i _ _ wr => TypRel w stC opC l s o f i wr)
 case atStart => exact ⟨0, rfl, by omega, by omega, hD (fun j hj => absurd hj (by omega)), HB1, HB2, hD (((Below.refl _ _).alloc (Nat.le_refl _) _).alloc (by simp) _)⟩
 case round =>
  obtain ⟨k, rfl, hk, hkf, HEQ, HX1, HX2, HBW⟩ := hrel
  obtain ⟨f, rfl⟩ : ∃ f, gk = f + 1 := ⟨gk - 1, by omega⟩
  by_cases hlt : k < s.args.length
  ·
   obtain ⟨a, ha⟩ : ∃ a, s.args[k]? = some a := ⟨s.args[k], List.getElem?_eq_getElem hlt⟩
   obtain ⟨ot, hot⟩ : ∃ ot, o.args[k]? = some ot := ⟨o.args[k]'(by rw [← HLN.out]; exact hlt), List.getElem?_eq_getElem _⟩
   have hbk := HH.out.back a (List.mem_of_getElem? ha)
   obtain ⟨m, rfl⟩ := keI hbk.1
   have hm : m < l.length := by omega
   have hs0 : l[m]? = some l[m] := List.getElem?_eq_getElem _
   obtain ⟨ba, oa, rfl, hba', hba, hca⟩ := RdF.int HH.out.ar ha
   obtain ⟨bo, oo, rfl, hbo', hbo, hco⟩ := RdF.int HH.out.oa hot
   obtain ⟨b, ob, _, _, rfl, hb', hb, _, _, _, _, ht0, _⟩ := HH.out.pl.step hs0
   have x1 := (HBW.out.cell (p := ⟨ba, oa + k, none⟩) hba').trans hca
   have x2 := (HBW.out.cell (p := ⟨bo, oo + k, none⟩) hbo').trans hco
   have x3 := (HBW.out.cell (p := ⟨b, ob + m * 5 + 4, none⟩) hb').trans ht0
   have x4 : wr.cell? ⟨w.heap.size + 1, 0, none⟩ = some (.slice (some ⟨bo, oo, none⟩) o.args.length co) := by rw [HX2.out.cell, HOC.out]; rfl
   have hty : (s.args.map (tyAt l))[k]? = some l[m].ty := by rw [List.getElem?_map, ha]; show some (tyAt l (m : Int)) = _; rw [kbM hs0]
   generalize l[m].ty = t0 at *
   have q0 : (k : Int) < (s.args.length : Int) := by omega
   have q1 : (m : Int) < (l.length : Int) := by omega
   have q2 : (0 : Int) ≤ (m : Int) := by omega
   have q3 : (k : Int) < (o.args.length : Int) := by rw [← HLN.out]; exact q0
   have q4 : (0 : Int) ≤ (k : Int) := by omega
   have HTY := hD hty
   have HOT := hD hot
   clear ha hot hbk hs0 hca hco ht0 hty
   by_cases e0 : t0 = ot
   ·
    subst e0
    go_wp2_with fail
    go_quiet (fail)
    go_wp2_with fail
    go_roundg f
    case measure => omega
    case rel =>
     refine ⟨k + 1, by go_num, by omega, by omega, hD (fun j hj => ?_), hD (Blk.drewN HX1.out _), hD (Blk.drewN HX2.out _), hD (kaf HBW.out _)⟩
     by_cases hjk : j < k
     ·
      exact HEQ.out j hjk
     ·
      obtain rfl : j = k := by omega
      rw [HTY.out, HOT.out]
   ·
    have e1 : (t0 == ot) = false := by simpa using e0
    have e2 : (t0 != ot) = true := by simpa using e0
    have HE := hD e0
    clear e0
    go_wp2_with fail
    go_quiet (fail)
    go_wp2_with fail
    go_ret
    refine ⟨?_, kaf HBW.out _⟩
    rw [HR.out, decide_eq_false (fun e => HE.out (by have h1 := HTY.out; rw [e, HOT.out] at h1; injection h1 with h1; exact h1.symm))]
    rfl
  ·
   have hks : k = s.args.length := by omega
   go_wp2_with fail
   go_ret
   refine ⟨?_, HBW.out⟩
   rw [HR.out, decide_eq_true]
   ·
    rfl
   ·
    apply List.ext_getElem?
    intro j
    by_cases hj : j < k
    ·
     exact HEQ.out j hj
    ·
     rw [List.getElem?_eq_none (by simp; omega), List.getElem?_eq_none (by rw [← HLN.out]; omega)]
theorem kgp (A : Option Addr) (c : Nat) (l : List St) (s : St) (As : Option Addr) (cs : Nat) (o : OpI) (Ao : Option Addr) (co : Nat) (w : World) (h : TypIn w A l s As o Ao) (hsm : s.args.length ≤ 100000) (h2 : kaG s.op = true → s.args.length = 2) :
  Calls Tryz.prog 78 #[.slice A l.length c, .agg #[.string ⟨s.op.toArray⟩, .slice As s.args.length cs, .int .i64 s.num, .string ⟨s.text.toArray⟩, .int .i64 s.ty], .agg #[.slice Ao o.args.length co, .int .i64 o.res, .bool o.text, .bool o.regex]] w fun e w' => e = .returned (.bool (ka7 l s o)) ∧ Below w.heap.size w w' := by
 rcases hc : kaG s.op with _ | _
 ·
  exact kk7 A c l s As cs o Ao co w h hc hsm
 ·
  exact kk8 A c l s As cs o Ao co w h hc (h2 hc)
end Go.Proofs.YtamhdmkolfmmdaaGreatDoor
