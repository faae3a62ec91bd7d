/- The walk of evergreentop.build. -/
import Derived.Test.YtphpfkhpihlalaaTo3
import Derived.Deep.LoopGhost
namespace Go.Proofs.Ytphpfkhpihlalaa
open Go.RowKit
/-- A step that makes a text. -/
structure Mk where
  kd : Int
  ka : Int
  kb : Int
  kn : Int
  km : Int
  tx : ByteArray
def Mk.cells (m : Mk) : List Value := [.int .i64 m.kd, .int .i64 m.ka, .int .i64 m.kb, .int .i64 m.kn, .int .i64 m.km, .string m.tx]
def Mk.val (m : Mk) : Value := .agg m.cells.toArray
/-- A slice of steps. -/
def ArgMk (w : World) (F : Nat → Prop) (A : Option Addr) (L : List Mk) : Prop := ∀ k m, L[k]? = some m → ∃ g o, A = some ⟨g, o, none⟩ ∧ g < w.heap.size ∧ ¬ F g ∧ ∀ j u, m.cells[j]? = some u → w.cell? ⟨g, o + k * 6 + j, none⟩ = some u
theorem ArgMk.kept {w w' : World} {F : Nat → Prop} {A : Option Addr} {L : List Mk} (h : ArgMk w F A L) (k : Kept F w w') : ArgMk w' F A L := fun i m hi => by
  obtain ⟨g, o, h1, h2, h3, h4⟩ := h i m hi
  exact ⟨g, o, h1, Nat.lt_of_lt_of_le h2 k.size, h3, fun j u hu => (k.cell (p := ⟨g, o + i * 6 + j, none⟩) h2 h3).trans (h4 j u hu)⟩
def idC (xs : List (Nat × ByteArray)) : List Value := xs.map fun x => .int .i64 (x.1 : Int)
def txC (xs : List (Nat × ByteArray)) : List Value := xs.map fun x => .string x.2
theorem own_lo {w : World} {base e size n g : Nat} {v : Value} {xs : List Value} (h : w.ownsRow base e size v n xs) (hg : v.ownBlock = some g) : base ≤ g ∧ ∃ cur, Blk w g e cur := by
  rcases h.2 with ⟨h2, _⟩ | ⟨g', cap, cur, h2, h3, h4, _⟩
  · rw [h2] at hg; cases hg
  · rw [h2] at hg
    injection hg with hg
    have hg : g' = g := hg
    subst hg
    exact ⟨h3, cur, h4⟩
theorem own_kept {w w' : World} {F : Nat → Prop} {base e size n : Nat} {v : Value} {xs : List Value} (h : w.ownsRow base e size v n xs) (k : Kept F w w') (hF : ∀ i, v.ownBlock = some i → ¬ F i) : w'.ownsRow base e size v n xs :=
  own_same h fun i hi => by
    obtain ⟨_, cur, hb⟩ := own_lo h hi
    exact k.block i hb.lt (hF i hi)
theorem own_grown {w w' : World} {row : Option Nat} {base e size n : Nat} {v : Value} {xs : List Value} (h : w.ownsRow base e size v n xs) (k : w.grownBy w' row) (hF : ∀ i, v.ownBlock = some i → some i ≠ row) : w'.ownsRow base e size v n xs :=
  own_same h fun i hi => by
    obtain ⟨_, cur, hb⟩ := own_lo h hi
    exact k.block i hb.lt (hF i hi)
/-- What plain and made do to what holds of the texts made before. -/
structure BdI (p : Nat) (I : Nat → List (Nat × ByteArray) → (Nat → Prop) → World → Prop) (L : List Mk) : Prop where
  lt : ∀ {k xs F w}, I k xs F w → ∀ i, F i → i < w.heap.size
  keep : ∀ {k xs F w w'}, I k xs F w → (∀ i, F i → w'.heap[i]? = w.heap[i]?) → w.heap.size ≤ w'.heap.size → I k xs F w'
  step : ∀ {k xs F w m}, I k xs F w → L[k]? = some m → k < 30 → ∀ (A8 : Option Addr) (c8 : Nat), Reads w w.heap.size 1 A8 xs.length (txC xs) →
    Calls Try.prog 76 #[.slice A8 xs.length c8, m.val] w fun e w1 => Below w.heap.size w w1 ∧ ((e = .returned (.tuple #[.string ⟨#[]⟩, .bool false]) ∧ False) ∨ ∃ t, e = .returned (.tuple #[.string t, .bool true]) ∧
      ∀ (A7 : Option Addr) (c7 : Nat) (A8 : Option Addr) (c8 : Nat), Reads w1 w1.heap.size 1 A7 xs.length (idC xs) → Reads w1 w1.heap.size 1 A8 xs.length (txC xs) →
        Calls Try.prog 77 #[ptr p, .slice A7 xs.length c7, .slice A8 xs.length c8, m.val] w1 fun e w2 => ∃ (id : Nat) (F2 : Nat → Prop), e = .returned (.tuple #[.int .i64 (id : Int), .nilIface]) ∧ (0 < id ↔ 0 < t.size) ∧ Kept F w1 w2 ∧ (∀ i, i < w1.heap.size → F2 i → F i) ∧ I (k + 1) (xs ++ [(id, t)]) F2 w2)
/-- The state at the head of a round. -/
structure BdS (w : World) (F : Nat → Prop) (I : Nat → List (Nat × ByteArray) → (Nat → Prop) → World → Prop) (k : Nat) (xs : List (Nat × ByteArray)) (v7 v8 : Value) (F1 : Nat → Prop) (wr : World) : Prop where
  i : I k xs F1 wr
  len : xs.length ≤ k
  own7 : wr.ownsRow w.heap.size 26 1 v7 xs.length (idC xs)
  own8 : wr.ownsRow w.heap.size 9 1 v8 xs.length (txC xs)
  ne : ∀ i, v7.ownBlock = some i → v8.ownBlock ≠ some i
  n7 : ∀ i, v7.ownBlock = some i → ¬ F1 i
  n8 : ∀ i, v8.ownBlock = some i → ¬ F1 i
  kept : Kept F w wr
  sub : ∀ i, i < w.heap.size → F1 i → F i
def BdRel (w : World) (F : Nat → Prop) (I : Nat → List (Nat × ByteArray) → (Nat → Prop) → World → Prop) (n : Nat) (f : Nat) (v7 v8 i : Value) (wr : World) : Prop :=
  ∃ (k : Nat) (xs : List (Nat × ByteArray)) (F1 : Nat → Prop), i = .int .i64 (k : Int) ∧ k ≤ n ∧ k ≤ 30 ∧ n - k < f ∧ Hid (BdS w F I k xs v7 v8 F1 wr)
theorem infoI : (Try.prog.info? 26).map (fun i => (i.zero, i.size, i.bytes)) = some (some (.int .i64 0), 1, 8) := by kernel_rfl
theorem infoT : (Try.prog.info? 9).map (fun i => (i.zero, i.size, i.bytes)) = some (some (.string ⟨#[]⟩), 1, 16) := by kernel_rfl
theorem alloc_heap (w : World) (o : Obj) : (w.alloc o).heap.size = w.heap.size + 1 := by simp
/-- The end of a round: both lists have grown. -/
theorem bd_step {w w1 w2 w3 w4 : World} {F F1 F2 : Nat → Prop} {I : Nat → List (Nat × ByteArray) → (Nat → Prop) → World → Prop} {p k id : Nat} {L : List Mk} {xs : List (Nat × ByteArray)} {v7 v8 u7 u8 : Value} {t : ByteArray} (H : BdI p I L) (S : BdS w F I k xs v7 v8 F1 w1) (hk : Kept F1 w1 w2) (hF : ∀ i, i < w1.heap.size → F2 i → F1 i) (hi : I (k + 1) (xs ++ [(id, t)]) F2 w2)
    (o7 : w3.ownsRow w.heap.size 26 1 u7 (xs.length + 1) (idC xs ++ [.int .i64 (id : Int)])) (g7 : (w2.alloc (.cells #[.int .i64 (id : Int)] 26)).grownBy w3 v7.ownBlock) (b7 : u7.ownBlock = v7.ownBlock ∨ u7.ownBlock = some (w2.heap.size + 1))
    (o8 : w4.ownsRow w.heap.size 9 1 u8 (xs.length + 1) (txC xs ++ [.string t])) (g8 : (w3.alloc (.cells #[.string t] 9)).grownBy w4 v8.ownBlock) (b8 : u8.ownBlock = v8.ownBlock ∨ u8.ownBlock = some (w3.heap.size + 1)) :
    BdS w F I (k + 1) (xs ++ [(id, t)]) u7 u8 F2 w4 := by
  have z1 := hk.size
  have z2 := g7.size
  have z3 := g8.size
  rw [alloc_heap] at z2 z3
  have l7 : ∀ i, v7.ownBlock = some i → i < w1.heap.size := fun i h => (own_lo S.own7 h).2.elim fun _ h => h.lt
  have l8 : ∀ i, v8.ownBlock = some i → i < w1.heap.size := fun i h => (own_lo S.own8 h).2.elim fun _ h => h.lt
  have m7 : ∀ i, u7.ownBlock = some i → (v7.ownBlock = some i ∧ i < w1.heap.size) ∨ i = w2.heap.size + 1 := fun i h => by
    rcases b7 with b | b
    · rw [b] at h; exact .inl ⟨h, l7 i h⟩
    · rw [b] at h; injection h with h; exact .inr h.symm
  have m8 : ∀ i, u8.ownBlock = some i → (v8.ownBlock = some i ∧ i < w1.heap.size) ∨ i = w3.heap.size + 1 := fun i h => by
    rcases b8 with b | b
    · rw [b] at h; exact .inl ⟨h, l8 i h⟩
    · rw [b] at h; injection h with h; exact .inr h.symm
  have f2 := H.lt hi
  have old : ∀ i, i < w2.heap.size → v7.ownBlock ≠ some i → v8.ownBlock ≠ some i → w4.heap[i]? = w2.heap[i]? := fun i h1 h2 h3 => by
    rw [g8.block i (by rw [alloc_heap]; omega) (fun h => h3 h.symm), Below.heap_alloc _ _ _ (by omega), g7.block i (by rw [alloc_heap]; omega) (fun h => h2 h.symm), Below.heap_alloc _ _ _ h1]
  have e7 : u7.ownBlock = some (w2.heap.size + 1) → w2.heap.size + 1 < w3.heap.size := fun h => by
    obtain ⟨_, _, hb⟩ := own_lo o7 h
    exact hb.lt
  refine ⟨H.keep hi (fun i h => old i (f2 i h) (fun h7 => ?_) (fun h8 => ?_)) (by omega), by rw [List.length_append]; have := S.len; simp; omega, ?_, ?_, fun i h7 h8 => ?_, fun i h7 h => ?_, fun i h8 h => ?_, ?_, fun i h1 h2 => S.sub i h1 (hF i ?_ h2)⟩
  · exact S.n7 i h7 (hF i (l7 i h7) h)
  · exact S.n8 i h8 (hF i (l8 i h8) h)
  · have := own_grown (own_grown (w' := w3.alloc (.cells #[.string t] 9)) (row := none) o7 (only_alloc (only_of_below (Below.refl _ _) none) _) (fun i _ => by simp)) g8 (fun i h7 h8 => by
      rcases m7 i h7 with ⟨h, _⟩ | h
      · exact S.ne i h h8.symm
      · have := l8 i h8.symm; omega)
    rw [show (xs ++ [(id, t)]).length = xs.length + 1 by simp, show idC (xs ++ [(id, t)]) = idC xs ++ [.int .i64 (id : Int)] by simp [idC]]
    exact this
  · rw [show (xs ++ [(id, t)]).length = xs.length + 1 by simp, show txC (xs ++ [(id, t)]) = txC xs ++ [.string t] by simp [txC]]
    exact o8
  · rcases m7 i h7 with ⟨h, q⟩ | h
    · rcases m8 i h8 with ⟨h', _⟩ | h'
      · exact S.ne i h h'
      · omega
    · have := e7 (by rw [h7, h])
      rcases m8 i h8 with ⟨_, h'⟩ | h' <;> omega
  · rcases m7 i h7 with ⟨h', q⟩ | h'
    · exact S.n7 i h' (hF i q h)
    · have := f2 i h; omega
  · rcases m8 i h8 with ⟨h', q⟩ | h'
    · exact S.n8 i h' (hF i q h)
    · have := f2 i h; omega
  · have k1 : Kept F w w2 := S.kept.via (fun i h => by
      rcases Nat.lt_or_ge i w.heap.size with h' | h'
      · exact .inl (S.sub i h' h)
      · exact .inr h') hk
    refine ⟨g8.os.trans (g7.os.trans k1.os), g8.tape.trans (g7.tape.trans k1.tape), g8.output.trans (g7.output.trans k1.output), by have := k1.size; omega, fun i h1 h2 => ?_⟩
    have hz := k1.size
    rw [← k1.block i h1 h2]
    refine old i (by omega) (fun h7 => ?_) (fun h8 => ?_)
    · have := (own_lo S.own7 h7).1; omega
    · have := (own_lo S.own8 h8).1; omega
  · have := S.kept.size; omega
set_option maxRecDepth 100000 in
set_option maxHeartbeats 4000000 in
theorem build_walk (p : Nat) (A : Option Addr) (L : List Mk) (n c : Nat) (w : World) (F : Nat → Prop) (I : Nat → List (Nat × ByteArray) → (Nat → Prop) → World → Prop) (hn : L.length = n) (hn1 : n ≤ 1048576) (hA : ArgMk w F A L) (H : BdI p I L) (h0 : I 0 [] F w) :
    Calls Try.prog 51 #[ptr p, .slice A n c] w fun e w' => ∃ xs v7 v8 F1, e = .returned (.tuple #[v7, v8, .bool true]) ∧ BdS w F I (min n 30) xs v7 v8 F1 w' := by
  have HA := Lib.hid hA
  have HH := Lib.hid H
  have HL := Lib.hid hn
  have H0 := Lib.hid (show BdS w F I 0 [] (.slice none 0 0) (.slice none 0 0) F w from ⟨h0, by simp, World.ownsRow_nil _ _ _ _, World.ownsRow_nil _ _ _ _, fun i h => by (cases h), fun i h => by (cases h), fun i h => by (cases h), Kept.refl _ _, fun _ _ h => h⟩)
  clear hA H hn h0
  unfold ptr
  go_enter Try.func51, Try.ntmps51
  go_wp2_with fail
  go_loopg [7, 8, 9] (n + 1) (fun f v7 v8 i wr => BdRel w F I n f v7 v8 i wr)
  case atStart => exact ⟨0, [], F, rfl, by omega, by omega, by omega, H0⟩
  case round =>
    obtain ⟨k, xs, F1, rfl, hkn, hk30, hkf, HS⟩ := hrel
    clear H0
    obtain ⟨f, rfl⟩ : ∃ f, gk = f + 1 := ⟨gk - 1, by omega⟩
    by_cases hlt : k < n ∧ k < 30
    · obtain ⟨hlt, hlt3⟩ := hlt
      obtain ⟨m, hm⟩ : ∃ m, L[k]? = some m := ⟨L[k]'(by have := HL.out; omega), List.getElem?_eq_getElem _⟩
      obtain ⟨A7, c7, hv7⟩ := own_form HS.out.own7
      obtain ⟨A8, c8, hv8⟩ := own_form HS.out.own8
      subst hv7 hv8
      obtain ⟨g, o, rfl, hg, hgF, hcell⟩ := (HA.out.kept HS.out.kept) k m hm
      have HM := Lib.hid hm
      have HG := Lib.hid hgF
      have HGL := Lib.hid hg
      have hst := HH.out.step HS.out.i hm hlt3 A8 c8 (Reads.of_own HS.out.own8)
      have HC := Lib.hid hcell
      have q0 : (0 : Int) ≤ (k : Int) := by omega
      have q1 : (k : Int) < (n : Int) := by omega
      have q2 : (k : Int) < 30 := by omega
      have q3 : IntKind.i64.wrap ((k : Int) + 1) = ((k + 1 : Nat) : Int) := by rw [IntWalk.i64_in _ (by omega)]; omega
      obtain ⟨kd, ka, kb, kn, km, tx⟩ := m
      have hval : (⟨kd, ka, kb, kn, km, tx⟩ : Mk).val = .agg #[.int .i64 kd, .int .i64 ka, .int .i64 kb, .int .i64 kn, .int .i64 km, .string tx] := rfl
      rw [hval] at hst
      have y0 := hcell 0 _ rfl
      have y1 := hcell 1 _ rfl
      have y2 := hcell 2 _ rfl
      have y3 := hcell 3 _ rfl
      have y4 := hcell 4 _ rfl
      have y5 := hcell 5 _ rfl
      dsimp only at y0 y1 y2 y3 y4 y5
      rw [Nat.add_zero] at y0
      clear hcell hm hgF hg
      go_wp2_with fail
      refine hst.mono ?_
      rintro _ w1 ⟨hb1, ⟨_, hf⟩ | ⟨t, rfl, hmade⟩⟩
      · exact hf.elim
      have HB1 := Lib.hid hb1
      have HS1 := Lib.hid (show BdS w F I k xs (.slice A7 xs.length c7) (.slice A8 xs.length c8) F1 w1 from ⟨HH.out.keep HS.out.i (fun i h => hb1.block i (HH.out.lt HS.out.i i h)) hb1.size, HS.out.len, own_below HS.out.own7 hb1, own_below HS.out.own8 hb1, HS.out.ne, HS.out.n7, HS.out.n8, HS.out.kept.then_ (Kept.of_below hb1), HS.out.sub⟩)
      have hmk := hmade A7 c7 A8 c8 (Reads.of_own HS1.out.own7) (Reads.of_own HS1.out.own8)
      have x0 := (HB1.out.cell (p := ⟨g, o + k * 6, none⟩) HGL.out).trans y0
      have x1 := (HB1.out.cell (p := ⟨g, o + k * 6 + 1, none⟩) HGL.out).trans y1
      have x2 := (HB1.out.cell (p := ⟨g, o + k * 6 + 2, none⟩) HGL.out).trans y2
      have x3 := (HB1.out.cell (p := ⟨g, o + k * 6 + 3, none⟩) HGL.out).trans y3
      have x4 := (HB1.out.cell (p := ⟨g, o + k * 6 + 4, none⟩) HGL.out).trans y4
      have x5 := (HB1.out.cell (p := ⟨g, o + k * 6 + 5, none⟩) HGL.out).trans y5
      clear hb1 hst hmade y0 y1 y2 y3 y4 y5 HC
      unfold ptr at hmk
      go_wp2_with fail
      refine hmk.mono ?_
      rintro _ w2 ⟨id, F2, rfl, hpos, hk2, hF2, hi2⟩
      clear hmk x0 x1 x2 x3 x4 x5
      have HI2 := Lib.hid hi2
      have HK2 := Lib.hid hk2
      have HF2 := Lib.hid hF2
      have p3 : (!decide (0 < id) == decide (0 < t.size)) = false := by
        rw [show decide (0 < id) = decide (0 < t.size) by simp only [hpos]]
        cases decide (0 < t.size) <;> rfl
      have hone7 : ∀ u ∈ ([.int .i64 (id : Int)] : List Value), u.oneCell' = true := by simp [Value.oneCell']
      have hone8 : ∀ u ∈ ([.string t] : List Value), u.oneCell' = true := by simp [Value.oneCell']
      have ho7 : (w2.alloc (.cells #[.int .i64 (id : Int)] 26)).ownsRow w.heap.size 26 1 (.slice A7 xs.length c7) xs.length (idC xs) := own_below (own_kept HS1.out.own7 hk2 HS1.out.n7) ((Below.refl _ _).alloc (Nat.le_refl _) _)
      have hr7 : Reads (w2.alloc (.cells #[.int .i64 (id : Int)] 26)) (w2.heap.size + 1) 1 (some ⟨w2.heap.size, 0, none⟩) 1 [.int .i64 (id : Int)] := Reads.of_alloc w2 #[.int .i64 (id : Int)] 26 (by omega) rfl
      have hz2 : w.heap.size ≤ w2.heap.size := Nat.le_trans HS1.out.kept.size hk2.size
      have hxl := HS.out.len
      obtain ⟨i0, hinf, hz0, hz1, hz20⟩ := en_parts infoI
      obtain ⟨j0, jinf, jz0, jz1, jz2⟩ := en_parts infoT
      clear hi2 hF2 hk2 hpos
      go_wp2_with (first
        | (at_builtin; refine wpList_append_any _ rfl (.tmp 56) (.tmp 58) 57 rfl w.heap.size 26 i0 (.int .i64 0) 1 8 Try.underlying57 hinf hz0 hz1 hz20 rfl (by decide) _ xs.length _ rfl ho7 _ _ _ _ [.int .i64 (id : Int)] rfl hr7 hone7 (by unfold maxLen; omega) (by omega) (by rw [alloc_heap]; omega) ?_))
      intro v5 w5 o5 g5 b5
      try simp only [alloc_heap] at b5
      have g5s := g5.size
      try simp only [alloc_heap] at g5s
      have o5 : w5.ownsRow w.heap.size 26 1 v5 (xs.length + 1) (idC xs ++ [.int .i64 (id : Int)]) := o5
      have ho8 : (w5.alloc (.cells #[.string t] 9)).ownsRow w.heap.size 9 1 (.slice A8 xs.length c8) xs.length (txC xs) := own_below (own_grown (own_below (own_kept HS1.out.own8 HK2.out HS1.out.n8) ((Below.refl _ _).alloc (Nat.le_refl _) _)) g5 (fun i h8 h7 => HS1.out.ne i h7.symm h8)) ((Below.refl _ _).alloc (Nat.le_refl _) _)
      have hr8 : Reads (w5.alloc (.cells #[.string t] 9)) (w5.heap.size + 1) 1 (some ⟨w5.heap.size, 0, none⟩) 1 [.string t] := Reads.of_alloc w5 #[.string t] 9 (by omega) rfl
      have O5 := Lib.hid o5
      have G5 := Lib.hid g5
      have B5 := Lib.hid b5
      clear o5 g5 b5 ho7 hr7 hone7 hinf hz0 hz1 hz20
      go_wp2_with (first
        | (at_builtin; refine wpList_append_any _ rfl (.tmp 60) (.tmp 62) 58 rfl w.heap.size 9 j0 (.string ⟨#[]⟩) 1 16 Try.underlying58 jinf jz0 jz1 jz2 rfl (by decide) _ xs.length _ rfl ho8 _ _ _ _ [.string t] rfl hr8 hone8 (by unfold maxLen; omega) (by omega) (by rw [alloc_heap]; omega) ?_))
      intro v6 w6 o6 g6 b6
      try simp only [alloc_heap] at b6
      have o6 : w6.ownsRow w.heap.size 9 1 v6 (xs.length + 1) (txC xs ++ [.string t]) := o6
      have HS6 := Lib.hid (bd_step HH.out HS1.out HK2.out HF2.out HI2.out O5.out G5.out B5.out o6 g6 b6)
      clear o6 g6 b6 ho8 hr8 hone8 jinf jz0 jz1 jz2
      go_wp2_with fail
      go_roundg f
      case measure => omega
      case rel => exact ⟨k + 1, _, F2, rfl, by omega, by omega, by omega, HS6⟩
    · have hk : k = min n 30 := by omega
      have HKM := Lib.hid hk
      clear hk
      by_cases hlt1 : k < n
      · have q1 : (k : Int) < (n : Int) := by omega
        have q2 : ¬ (k : Int) < 30 := by omega
        go_wp2_with fail
        refine bodyPost_ret (v := .tuple #[u7, u8, .bool true]) (by simp [results, Try.results51, go_sem]) rfl ?_
        exact ⟨xs, u7, u8, rfl, F1, HKM.out ▸ HS.out⟩
      · have q1 : ¬ (k : Int) < (n : Int) := by omega
        go_wp2_with fail
        refine bodyPost_ret (v := .tuple #[u7, u8, .bool true]) (by simp [results, Try.results51, go_sem]) rfl ?_
        exact ⟨xs, u7, u8, rfl, F1, HKM.out ▸ HS.out⟩
end Go.Proofs.Ytphpfkhpihlalaa
