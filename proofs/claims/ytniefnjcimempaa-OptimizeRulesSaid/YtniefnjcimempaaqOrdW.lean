/- The walk of tree.order. -/
import Derived.Test.YtniefnjcimempaaqRb
import Derived.WalkSpells
import Derived.WalkLawsBesides
import Derived.Deep.LoopGhost
import Derived.Outline
namespace Go.Proofs.Ytniefnjcimempaa
open Go.RowKit
theorem infoStep : (Try.prog.info? 117).map (fun i => (i.zero, i.size, i.bytes)) = some (some (.agg #[.pointer none, .bool false]), 2, 16) := by kernel_rfl
theorem infoPtr : (Try.prog.info? 64).map (fun i => (i.zero, i.size, i.bytes)) = some (some (.pointer none), 1, 8) := by kernel_rfl
theorem infoEx : (Try.prog.info? 31).map (fun i => i.size) = some 4 := by kernel_rfl
theorem keyE (w : World) : KeyEq Try.prog 64 encA w (plainA w) := by
  have h := infoEx
  rcases hj : Try.prog.info? 31 with _ | j
  · rw [hj] at h; cases h
  · rw [hj] at h
    injection h with h
    exact ptr_keyEq Try.underlying64 hj (by have h' : j.size = 4 := h; omega) w
theorem zeroI (w : World) : (zeroValue 3).run Try.prog w = .ok (.int .i64 0) w := by kernel_rfl
/-- The stack's cells, from its bottom. -/
def stkC (stk : List (Lx × Bool)) : List Value := stk.reverse.flatMap fun q => [.pointer (some q.1.ad), .bool q.2]
def outC (out : List Lx) : List Value := out.map fun x => .pointer (some x.ad)
/-- The memory of the machine. -/
def OW (w wr : World) (mb : Nat) (s : List (Addr × Value)) (cs : List Value) (n : Nat) (out : List Lx) (v6 v8 : Value) : Prop :=
  wr.ownsRow w.heap.size 117 2 v8 n cs ∧ wr.ownsRow w.heap.size 64 1 v6 out.length (outC out) ∧ MapIs wr mb encA s ∧ w.heap.size ≤ mb ∧ mb < wr.heap.size ∧ Below w.heap.size w wr
theorem own_kept {K : Nat → Prop} {w w' : World} {base e size n : Nat} {v : Value} {xs : List Value} (h : w.ownsRow base e size v n xs) (k : Kept K w w') (hne : ∀ i, v.ownBlock = some i → ¬ K i) : w'.ownsRow base e size v n xs := by
  refine ⟨h.1, ?_⟩
  rcases h.2 with h | ⟨g, cap, cur, h1, h2, h3, h4⟩
  · exact .inl h
  · exact .inr ⟨g, cap, cur, h1, h2, (k.block g (Blk.lt h3) (hne g (by rw [h1]; rfl))).trans h3, h4⟩
theorem own_blk {w : World} {base e size n i : Nat} {v : Value} {xs : List Value} (h : w.ownsRow base e size v n xs) (hv : v.ownBlock = some i) : ∃ cur, Blk w i e cur := by
  rcases h.2 with ⟨rfl, _⟩ | ⟨g, cap, cur, rfl, h1, h3, _⟩
  · cases hv
  · injection hv with hv
    subst hv
    exact ⟨cur, h3⟩
theorem own_ge2 {w : World} {base e size n i : Nat} {v : Value} {xs : List Value} (h : w.ownsRow base e size v n xs) (hv : v.ownBlock = some i) : base ≤ i ∧ i < w.heap.size := by
  rcases h.2 with ⟨rfl, _⟩ | ⟨g, cap, cur, rfl, h1, h3, _⟩
  · cases hv
  · injection hv with hv
    subst hv
    exact ⟨h1, Blk.lt h3⟩
theorem own_not_map {κ : Type} {enc : κ → Value} {l : List (κ × Value)} {w : World} {base e size n i mb : Nat} {v : Value} {xs : List Value} (h : w.ownsRow base e size v n xs) (hM : MapIs w mb enc l) (hv : v.ownBlock = some i) : i ≠ mb := by
  rintro rfl
  obtain ⟨cur, hb⟩ := own_blk h hv
  obtain ⟨es, clock, hm, _⟩ := hM
  unfold Blk at hb
  rw [hb] at hm
  cases hm
theorem own_not_own {w : World} {base e e' size size' n n' i : Nat} {v v' : Value} {xs xs' : List Value} (h : w.ownsRow base e size v n xs) (h' : w.ownsRow base e' size' v' n' xs') (hne : e ≠ e') (hv : v.ownBlock = some i) : v'.ownBlock ≠ some i := fun hv' => by
  obtain ⟨cur, hb⟩ := own_blk h hv
  obtain ⟨cur', hb'⟩ := own_blk h' hv'
  exact Blk.ne_ hb hb' hne rfl
section
variable {w wr w' : World} {mb n : Nat} {s s' : List (Addr × Value)} {cs : List Value} {out : List Lx} {v6 v8 v : Value}
theorem OW.alloc (h : OW w wr mb s cs n out v6 v8) (o : Obj) : OW w (wr.alloc o) mb s cs n out v6 v8 :=
  ⟨h.1.alloc o, h.2.1.alloc o, h.2.2.1.keep (Below.heap_alloc _ _ _ h.2.2.2.2.1), h.2.2.2.1, by have := h.2.2.2.2.1; simp; omega, h.2.2.2.2.2.alloc h.2.2.2.2.2.size o⟩
theorem OW.upd (h : OW w wr mb s cs n out v6 v8) (hM : MapIs w' mb encA s') (hg : wr.grownBy w' (some mb)) (hs : w'.heap.size = wr.heap.size) : OW w w' mb s' cs n out v6 v8 := by
  obtain ⟨h1, h2, h3, h4, h5, h6⟩ := h
  have k : Kept (fun i => i = mb) wr w' := Kept.of_grown hg fun g e => by injection e with e; exact e.symm
  exact ⟨own_kept h1 k fun i e => own_not_map h1 h3 e, own_kept h2 k fun i e => own_not_map h2 h3 e, hM, h4, by omega, h6.grown hg h6.size fun g e => by injection e with e; omega⟩
theorem OW.emit (h : OW w wr mb s cs n out v6 v8) (x : Lx) (ho : w'.ownsRow w.heap.size 64 1 v (out.length + 1) (outC out ++ [.pointer (some x.ad)])) (hg : wr.grownBy w' v6.ownBlock) : OW w w' mb s cs n (out ++ [x]) v v8 := by
  obtain ⟨h1, h2, h3, h4, h5, h6⟩ := h
  have k : Kept (fun i => v6.ownBlock = some i) wr w' := Kept.of_grown hg fun g e => e
  refine ⟨own_kept h1 k fun i e => own_not_own h1 h2 (by decide) e, ?_, h3.keep (hg.block mb h5 (fun e => own_not_map h2 h3 e.symm rfl)), h4, Nat.lt_of_lt_of_le h5 hg.size, h6.grown hg h6.size fun g e => (own_ge2 h2 e).1⟩
  unfold outC at *
  rw [List.map_append, List.length_append]
  exact ho
theorem OW.stk {cs' : List Value} {n' : Nat} (h : OW w wr mb s cs n out v6 v8) (ho : w'.ownsRow w.heap.size 117 2 v n' cs') (hg : wr.grownBy w' v8.ownBlock) : OW w w' mb s cs' n' out v6 v := by
  obtain ⟨h1, h2, h3, h4, h5, h6⟩ := h
  have k : Kept (fun i => v8.ownBlock = some i) wr w' := Kept.of_grown hg fun g e => e
  exact ⟨ho, own_kept h2 k fun i e => own_not_own h2 h1 (by decide) e, h3.keep (hg.block mb h5 (fun e => own_not_map h1 h3 e.symm rfl)), h4, Nat.lt_of_lt_of_le h5 hg.size, h6.grown hg h6.size fun g e => (own_ge2 h1 e).1⟩
end
theorem stkC_cons (x : Lx) (b : Bool) (rest : List (Lx × Bool)) : stkC ((x, b) :: rest) = stkC rest ++ [.pointer (some x.ad), .bool b] := by simp [stkC]
theorem stkC_len (stk : List (Lx × Bool)) : (stkC stk).length = stk.length * 2 := by
  induction stk with
  | nil => rfl
  | cons q l ih =>
    obtain ⟨x, b⟩ := q
    rw [stkC_cons, List.length_append, ih, List.length_cons]
    simp
    omega
theorem measO_len : ∀ l : List (Lx × Bool), l.length ≤ measO l
  | [] => by simp
  | q :: l => by
    rw [measO, List.length_cons]
    have := measO_len l
    have := q.1.size_pos
    split <;> omega
theorem plainA_below {w w' : World} {a : Addr} {B : Nat} (h : plainA w a ∧ a.block < B) (hb : Below B w w') : plainA w' a := by
  obtain ⟨⟨t, cs, h1⟩, h2⟩ := h
  exact ⟨t, cs, h1.below hb h2⟩
theorem plainA_alloc {w : World} {a : Addr} (h : plainA w a) (o : Obj) : plainA (w.alloc o) a := by
  obtain ⟨t, cs, h1⟩ := h
  exact ⟨t, cs, h1.alloc o⟩
theorem wpList_lookup_val {κ : Type} [DecidableEq κ] {P : Program} {w : World} {ops : Array Oper} {rest : List Oper} {o : Oper} {a : Act} {Q : Exit → Act → World → Prop} (hg : o.guard = none) (m x : Operand) (T : TypeId) (hop : o.op = Op.lookup T m x false)
    (g : Nat) (enc : κ → Value) (l : List (κ × Value)) (kt et : TypeId) (ok : κ → Prop) (h : MapIs w g enc l) (K : KeyEq P kt enc w ok) (hT : P.underlying T = some (.map kt et)) (hl : ∀ p ∈ l, ok p.1)
    (z : Value) (hz : (zeroValue et).run P w = .ok z w) (k : κ) (hk : ok k) (hm : a.eval m = .map (some g)) (hx : a.eval x = enc k) (v : Value) (hv : (lookL l k).getD z = v)
    (hK : wpList P ops Q rest (a.put o.dst v) w) : wpList P ops Q (o :: rest) a w := by
  subst hv
  exact wpList_lookup_law hg m x T false hop g enc l kt et ok h K hT hl z hz k hk hm hx hK
theorem reads1 (w : World) (v : Value) (t : TypeId) : Reads (w.alloc (.cells #[v] t)) (w.heap.size + 1) 1 (some ⟨w.heap.size, 0, none⟩) 1 [v] :=
  ⟨rfl, fun _ => ⟨_, rfl, by simp, fun j u hu => news_alloc w #[v] t j u hu⟩⟩
theorem reads2 (w : World) (v v' : Value) (t : TypeId) : Reads (w.alloc (.cells #[v, v'] t)) (w.heap.size + 1) 2 (some ⟨w.heap.size, 0, none⟩) 1 [v, v'] :=
  ⟨rfl, fun _ => ⟨_, rfl, by simp, fun j u hu => news_alloc w #[v, v'] t j u hu⟩⟩
def OrdRel (w : World) (p : Lx → Bool) (r : Lx) (mb N : Nat) (f : Nat) (v6 v8 : Value) (wr : World) : Prop :=
  ∃ (s : List (Addr × Value)) (stk : List (Lx × Bool)) (out : List Lx), Hid (OInv p r s stk out) ∧ measO stk < f ∧ out.length + f ≤ N ∧ OW w wr mb s (stkC stk) stk.length out v6 v8 ∧ Hid (∀ q ∈ s, ∃ x, Sub x r ∧ x.ad = q.1)
/-- What order answers. -/
def OrdEnd (w : World) (p : Lx → Bool) (r : Lx) (e : Ending) (w' : World) : Prop :=
  (if r.all p then ∃ v out, e = .returned (.tuple #[v, .bool true]) ∧ w'.ownsRow w.heap.size 64 1 v out.length (outC out) ∧ r ∈ out ∧ (∀ (i : Nat) (x : Lx), out[i]? = some x → Sub x r ∧ ∀ a ∈ x.args, a ∈ out.take i) ∧ out.length ≤ 2 * r.size + 1
   else e = .returned (.tuple #[.slice none 0 0, .bool false])) ∧ Below w.heap.size w w'
theorem OrdEnd.yes {w w' : World} {p : Lx → Bool} {r : Lx} {v : Value} {out : List Lx} {s : List (Addr × Value)} {mb n : Nat} {cs : List Value} {v8 : Value} (hd : OInv p r s [] out) (h : OW w w' mb s cs n out v v8) (hl : out.length ≤ 2 * r.size + 1) : OrdEnd w p r (.returned (.tuple #[v, .bool true])) w' := by
  refine ⟨?_, h.2.2.2.2.2⟩
  rw [if_pos hd.done.1]
  exact ⟨v, out, rfl, h.2.1, hd.done.2, hd.lst, hl⟩
theorem OrdEnd.no {w w' : World} {p : Lx → Bool} {r : Lx} (hd : r.all p = false) (h : Below w.heap.size w w') : OrdEnd w p r (.returned (.tuple #[.slice none 0 0, .bool false])) w' := by
  refine ⟨?_, h⟩
  rw [if_neg (by rw [hd]; decide)]
def PsRel (w : World) (mb X : Nat) (s : List (Addr × Value)) (rest : List (Lx × Bool)) (x : Lx) (out : List Lx) (v6 : Value) (xa : Addr) (f : Nat) (v8 i : Value) (wr : World) : Prop :=
  ∃ k : Nat, k ≤ x.args.length ∧ i = .int .i64 k ∧ x.args.length - k < f ∧ OW w wr mb s (stkC ((x.args.take k).reverse.map (·, false) ++ (x, true) :: rest)) (k + 1 + rest.length) out v6 v8 ∧ Blk wr X 117 #[.pointer (some xa), .bool false] ∧ v8.ownBlock ≠ some X
theorem args_len (x : Lx) : x.args.length + 1 ≤ x.size := by
  have h : ∀ l : List Lx, l.length ≤ sizeXL l := fun l => by
    induction l with
    | nil => simp
    | cons y l ih => rw [List.length_cons, sizeXL]; have := y.size_pos; omega
  have := h x.args
  have := x.size_eq
  omega
theorem take_push (l : List Lx) (k : Nat) (a : Lx) (h : l[k]? = some a) (t : List (Lx × Bool)) : (l.take (k + 1)).reverse.map (·, false) ++ t = (a, false) :: ((l.take k).reverse.map (·, false) ++ t) := by
  rw [List.take_add_one, h]
  simp
set_option maxHeartbeats 3000000 in
set_option maxRecDepth 100000 in
theorem order_any (K : Nat) (p : Lx → Bool) (r : Lx) (w : World) (hcf : ∀ (a : Addr) (w : World), (callFunc K #[.pointer (some a)]).run Try.prog w = .ok (.enter K #[.pointer (some a)]) w) (hr : LxAt w (fun i => i < w.heap.size) r) (hsz : r.size ≤ 1000000)
    (hp : ∀ (x : Lx) (w1 : World), Sub x r → LxAt w1 (fun i => i < w.heap.size) x → Calls Try.prog K #[.pointer (some x.ad)] w1 fun e w' => e = .returned (.bool (p x)) ∧ w1 = w') :
    Calls Try.prog 42 #[.pointer (some r.ad), .func (Fn.func K) #[] #[]] w (OrdEnd w p r) := by
  have hmm := @run_makeMap Try.prog
  have HR := Lib.hid hr
  have HD := Lib.hid hr.isDet
  have HP := Lib.hid hp
  obtain ⟨ra, hra⟩ : ∃ ra, ra = r.ad := ⟨_, rfl⟩
  rw [← hra]
  have HRA := Lib.hid hra
  obtain ⟨N, hN⟩ : ∃ N, N = 2 * r.size + 1 := ⟨_, rfl⟩
  have HN := Lib.hid hN
  have hNb : N ≤ 3000000 := by omega
  clear hr hp hra hN hsz
  go_enter Try.func42, Try.ntmps42
  go_wp2_with fail
  go_loopg [6, 8] N (fun f v6 v8 wr => OrdRel w p r w.heap.size N f v6 v8 wr)
  case atStart =>
    refine ⟨[], [(r, false)], [], OInv.start p r, by simp [measO]; rw [HN.out]; omega, by simp, ⟨?_, ⟨rfl, .inl ⟨rfl, rfl⟩⟩, ?_, Nat.le_refl _, by simp; omega, ((Below.refl _ _).alloc (Nat.le_refl _) _).alloc (by simp) _⟩, fun q h => by cases h⟩
    · have := World.ownsRow_lit (base := w.heap.size) (e := 117) (size := 2) (w.alloc (.map #[] 0)) #[.pointer (some ra), .bool false] 1 (by simp) (by decide) rfl
      rw [HRA.out] at this ⊢
      simpa [stkC] using this
    · exact (MapIs.new w encA 0).keep (Below.heap_alloc _ _ _ (by simp))
  case round =>
    clear hmm
    obtain ⟨wo, rfl⟩ : ∃ wo : World, wo = wr := ⟨_, rfl⟩
    obtain ⟨s, stk, out, hI, hms, hout, hW, hS⟩ := hrel
    obtain ⟨f, rfl⟩ : ∃ f, gk = f + 1 := ⟨gk - 1, by omega⟩
    have HW := Lib.hid hW
    clear hW
    match stk, hI, hms, HW with
    | [], hI, hms, HW =>
      obtain ⟨A, c, hv8⟩ := own_form HW.out.1
      subst hv8
      simp only [List.length_nil]
      go_wp2_with fail
      go_ret2
      exact OrdEnd.yes hI.out HW.out (by have := HN.out; omega)
    | (x, b) :: rest, hI, hms, HW =>
      have hlen := measO_len rest
      have hxs := x.size_pos
      have hms2 : measO rest + 1 ≤ measO ((x, b) :: rest) := by
        show _ ≤ (if b = true then 1 else 2 * x.size) + measO rest
        split <;> omega
      obtain ⟨g, c, hv8, hnc, hgb, hgl, hcells⟩ := own_at HW.out.1 (by simp)
      subst hv8
      rw [stkC_cons] at hcells
      have y0 : wo.cell? ⟨g, rest.length * 2, none⟩ = some (.pointer (some x.ad)) := hcells _ _ (by rw [List.getElem?_append_right (by rw [stkC_len]; omega), stkC_len]; simp)
      have y1 : wo.cell? ⟨g, rest.length * 2 + 1, none⟩ = some (.bool b) := hcells _ _ (by rw [List.getElem?_append_right (by rw [stkC_len]; omega), stkC_len, show rest.length * 2 + 1 - rest.length * 2 = 1 by omega]; rfl)
      have hcut := own_cut HW.out.1 rest.length (by simp) (by simp)
      rw [stkC_cons, List.take_left' (stkC_len rest)] at hcut
      have HW1 := Lib.hid (show OW w wo w.heap.size s (stkC rest) rest.length out _ _ from ⟨hcut, HW.out.2⟩)
      have hxsub := hI.out.sub _ (List.mem_cons_self ..)
      simp only [List.length_cons] at hnc ⊢
      obtain ⟨m, hm⟩ : ∃ m, m = rest.length := ⟨_, rfl⟩
      rw [← hm] at y0 y1 hnc HW1 hlen ⊢
      obtain ⟨xa, hxa⟩ : ∃ xa, xa = x.ad := ⟨_, rfl⟩
      rw [← hxa] at y0
      have HM := Lib.hid hm
      have HXA := Lib.hid hxa
      clear hcells hcut hm hxa HW
      have hgx : x.ad = xa := HXA.out.symm
      have hkx : plainA wo xa := by rw [HXA.out]; exact plainA_below (w := w) (B := w.heap.size) (LxAt.plain (LxAt.sub hxsub HR.out)) HW1.out.2.2.2.2.2
      have HKX := Lib.hid hkx
      have HKS := Lib.hid (show ∀ q ∈ s, plainA wo q.1 from fun q hq => by
        obtain ⟨z, hz1, hz2⟩ := hS.out q hq
        rw [← hz2]
        exact plainA_below (w := w) (B := w.heap.size) (LxAt.plain (LxAt.sub hz1 HR.out)) HW1.out.2.2.2.2.2)
      have HGX := Lib.hid hgx
      have HXS := Lib.hid hxsub
      clear hgx hkx hxsub
      cases b with
      | true =>
        have HA := Lib.hid (HW1.out.alloc (.cells #[.pointer (some xa), .bool true] 117))
        go_wp2_with (at_mapUpdate; refine wpList_update_law rfl _ _ _ 65 rfl w.heap.size encA s 64 3 (plainA (wo.alloc (.cells #[.pointer (some xa), .bool true] 117))) HA.out.2.2.1 (keyE _) Try.underlying65 (fun q hq => plainA_alloc (HKS.out q hq) _) xa (plainA_alloc HKX.out _) rfl rfl ?_)
        intro w3 hM3 hg3 hs3
        have HU := Lib.hid (HA.out.upd hM3 hg3 (by simpa using hs3))
        have hX3 : Blk w3 wo.heap.size 117 #[.pointer (some xa), .bool true] := Blk.grown (Blk.new wo _ _) hg3 (by have := HW1.out.2.2.2.2.1; intro e; injection e with e; omega)
        have x0 := hX3.cell 0
        simp only [List.getElem?_toArray, List.getElem?_cons_zero] at x0
        have hlt3 : wo.heap.size < w3.heap.size := hX3.lt
        clear hM3 hg3 hs3 hX3 HA
        have ho4 := HU.out.2.1.alloc (.cells #[.pointer (some xa)] 64)
        have hrr := reads1 w3 (.pointer (some xa)) 64
        have hone : ∀ u ∈ ([.pointer (some xa)] : List Value), u.oneCell' = true := by simp [Value.oneCell']
        have hsz3 := HU.out.2.2.2.2.2.size
        obtain ⟨i0, hinf, hz0, hz1, hz2⟩ := info_parts infoPtr
        go_wp2_with (at_builtin; refine wpList_append_any _ rfl (.tmp 34) (.tmp 37) 61 rfl w.heap.size 64 i0 (.pointer none) 1 8 Try.underlying61 hinf hz0 hz1 hz2 rfl (by decide) _ out.length (outC out) rfl ho4 _ _ _ _ [.pointer (some xa)] rfl hrr hone (by unfold maxLen; omega) (by omega) (by simp; omega) ?_)
        intro v5 w5 hown5 hg5 _
        rw [← HGX.out] at hown5
        have HE := Lib.hid ((HU.out.alloc (.cells #[.pointer (some xa)] 64)).emit x hown5 hg5)
        clear hown5 hg5 hinf hz0 hz1 hz2 hrr hone ho4
        go_wp2_with fail
        go_roundg f
        case measure => omega
        case rel =>
          refine ⟨updL s xa (.int .i64 2), rest, out ++ [x], by have := hI.out.left HD.out; rw [HGX.out] at this; exact this, by omega, by simp; omega, by have := HE.out; rw [← HM.out]; exact this, fun q hq => ?_⟩
          rcases mem_upd hq with h1 | h1
          · exact ⟨x, HXS.out, HGX.out.trans h1.symm⟩
          · exact hS.out q h1
      | false =>
        have HA := Lib.hid (HW1.out.alloc (.cells #[.pointer (some xa), .bool false] 117))
        have hvals := hI.out.vals xa
        have hno := hI.out.not_open HD.out
        rw [HGX.out] at hno
        have hms3 : measO rest + 2 * x.size < f + 1 := by
          have : measO ((x, false) :: rest) = 2 * x.size + measO rest := rfl
          omega
        rcases hvals with hv | hv | hv
        · have HLK := Lib.hid (show (lookL s xa).getD (.int .i64 0) = .int .i64 0 from hv)
          have hxat := LxAt.sub HXS.out HR.out
          obtain ⟨xb, xo, A, ca, hxad, hxF, hxl, z0, z1, z2, z3, hxs⟩ := LxAt.cells hxat
          have hal : Below w.heap.size w (wo.alloc (.cells #[.pointer (some xa), .bool false] 117)) := HA.out.2.2.2.2.2
          have HC := Lib.hid (HP.out x (wo.alloc (.cells #[.pointer (some xa), .bool false] 117)) HXS.out (LxAt.keep (fun i hi _ => hal.block i hi) (fun _ h _ => h) x hxat))
          rw [HGX.out] at HC hxad
          have HXAD := Lib.hid hxad
          have HZ3 := Lib.hid z3
          have HAR := Lib.hid hxs
          have HXF := Lib.hid hxF
          clear hno hv hxat z0 z1 z2 z3 hxs hxad hxF hal
          rcases hpx : p x with _ | _
          · rw [hpx] at HC
            have HF := Lib.hid (hI.out.fail hpx)
            clear hpx
            go_wp2_with (at_lookup; refine wpList_lookup_val rfl _ _ 65 rfl w.heap.size encA s 64 3 (plainA (wo.alloc (.cells #[.pointer (some xa), .bool false] 117))) HA.out.2.2.1 (keyE _) Try.underlying65 (fun q hq => plainA_alloc (HKS.out q hq) _) (.int .i64 0) (zeroI _) xa (plainA_alloc HKX.out _) rfl rfl (.int .i64 0) HLK.out ?_)
            go_wp2_with fail
            refine HC.out.mono ?_
            rintro e w' ⟨rfl, rfl⟩
            go_wp2_with fail
            go_ret2
            exact OrdEnd.no HF.out HA.out.2.2.2.2.2
          · rw [hpx] at HC
            have HPX := Lib.hid hpx
            clear hpx
            go_wp2_with (at_lookup; refine wpList_lookup_val rfl _ _ 65 rfl w.heap.size encA s 64 3 (plainA (wo.alloc (.cells #[.pointer (some xa), .bool false] 117))) HA.out.2.2.1 (keyE _) Try.underlying65 (fun q hq => plainA_alloc (HKS.out q hq) _) (.int .i64 0) (zeroI _) xa (plainA_alloc HKX.out _) rfl rfl (.int .i64 0) HLK.out ?_)
            go_wp2_with fail
            refine HC.out.mono ?_
            rintro e w' ⟨rfl, rfl⟩
            go_wp2_with (at_mapUpdate; refine wpList_update_law rfl _ _ _ 65 rfl w.heap.size encA s 64 3 (plainA (wo.alloc (.cells #[.pointer (some xa), .bool false] 117))) HA.out.2.2.1 (keyE _) Try.underlying65 (fun q hq => plainA_alloc (HKS.out q hq) _) xa (plainA_alloc HKX.out _) rfl rfl ?_)
            intro w3 hM3 hg3 hs3
            have HU := Lib.hid (HA.out.upd hM3 hg3 (by simpa using hs3))
            have hX3 : Blk w3 wo.heap.size 117 #[.pointer (some xa), .bool false] := Blk.grown (Blk.new wo _ _) hg3 (by have := HW1.out.2.2.2.2.1; intro e; injection e with e; omega)
            have x0 := hX3.cell 0
            simp only [List.getElem?_toArray, List.getElem?_cons_zero] at x0
            have hlt3 : wo.heap.size < w3.heap.size := hX3.lt
            have HX3 := Lib.hid hX3
            have ho4 := HU.out.1.alloc (.cells #[.pointer (some xa), .bool true] 117)
            have hrr := reads2 w3 (.pointer (some xa)) (.bool true) 117
            have hone : ∀ u ∈ ([.pointer (some xa), .bool true] : List Value), u.oneCell' = true := by simp [Value.oneCell']
            have hsz3 := HU.out.2.2.2.2.2.size
            clear hM3 hg3 hs3 hX3 HA
            obtain ⟨i0, hinf, hz0, hz1, hz2⟩ := info_parts infoStep
            rw [HM.out] at hlen
            go_wp2_with (at_builtin; refine wpList_append_any _ rfl (.tmp 55) (.tmp 59) 118 rfl w.heap.size 117 i0 (.agg #[.pointer none, .bool false]) 2 16 Try.underlying118 hinf hz0 hz1 hz2 rfl (by decide) _ m (stkC rest) rfl ho4 _ _ _ _ [.pointer (some xa), .bool true] rfl hrr hone (by unfold maxLen; have := HM.out; omega) (by have := HM.out; omega) (by simp; omega) ?_)
            intro v5 w5 hown5 hg5 hv5
            have HE := Lib.hid ((HU.out.alloc (.cells #[.pointer (some xa), .bool true] 117)).stk hown5 hg5)
            have hX5 : Blk w5 wo.heap.size 117 #[.pointer (some xa), .bool false] := Blk.grown (HX3.out.alloc _) hg5 (fun e => by have e' : some wo.heap.size = some g := e; injection e' with e'; omega)
            have hw5s : wo.heap.size < w5.heap.size := hX5.lt
            have hv5n : v5.ownBlock ≠ some wo.heap.size := fun e => by
              rcases hv5 with h1 | h1
              · rw [h1] at e
                have e' : some g = some wo.heap.size := e
                injection e' with e'
                omega
              · rw [h1] at e; injection e with e; omega
            have x5 := hX5.cell 0
            simp only [List.getElem?_toArray, List.getElem?_cons_zero] at x5
            have hbl5 : Below w.heap.size w w5 := HE.out.2.2.2.2.2
            obtain rfl := HXAD.out
            have z3 : w5.cell? ⟨xb, xo + 3, none⟩ = some (.slice A x.args.length ca) := (hbl5.cell (p := ⟨xb, xo + 3, none⟩) hxl).trans HZ3.out
            have HX5 := Lib.hid hX5
            have hal := args_len x
            have HE2 := Lib.hid (show OW w w5 w.heap.size (updL s ⟨xb, xo, none⟩ (.int .i64 1)) (stkC ((x.args.take 0).reverse.map (·, false) ++ (x, true) :: rest)) (0 + 1 + rest.length) out _ v5 from by
              have := HE.out
              rw [List.take_zero, List.reverse_nil, List.map_nil, List.nil_append, stkC_cons, HGX.out, ← HM.out, show 0 + 1 + m = m + 1 by omega]
              exact this)
            clear hown5 hg5 hv5 hinf hz0 hz1 hz2 hrr hone ho4 hX5 x0 hbl5 HX3 HE
            obtain ⟨i0, hinf, hz0, hz1, hz2⟩ := info_parts infoStep
            have HI := Lib.hid hinf
            have HI0 := Lib.hid hz0
            have HI1 := Lib.hid hz1
            have HI2 := Lib.hid hz2
            obtain ⟨na, hna⟩ : ∃ na, na = x.args.length := ⟨_, rfl⟩
            have HNA := Lib.hid hna
            rw [← hna] at z3 hal
            clear hinf hz0 hz1 hz2 hna
            go_wp2_with fail
            go_loopg [8, 67] (na + 1) (fun f2 v8 i wr => PsRel w w.heap.size wo.heap.size (updL s ⟨xb, xo, none⟩ (.int .i64 1)) rest x out u6 ⟨xb, xo, none⟩ f2 v8 i wr)
            case atStart => exact ⟨0, Nat.zero_le _, rfl, by have := HNA.out; omega, HE2.out, HX5.out, hv5n⟩
            case round =>
              clear x5 z3
              obtain ⟨k, hk, rfl, hkf, hOW, hXb, hvn⟩ := hrel
              obtain ⟨f2, rfl⟩ : ∃ f2, gk = f2 + 1 := ⟨gk - 1, by omega⟩
              have x0 := hXb.cell 0
              simp only [List.getElem?_toArray, List.getElem?_cons_zero] at x0
              obtain ⟨C, hC⟩ : ∃ C, C = stkC ((x.args.take k).reverse.map (·, false) ++ (x, true) :: rest) := ⟨_, rfl⟩
              rw [← hC] at hOW
              have HCC := Lib.hid hC
              have HOW := Lib.hid hOW
              have HXB := Lib.hid hXb
              have z3 : wr.cell? ⟨xb, xo + 3, none⟩ = some (.slice A na ca) := by
                rw [HNA.out]
                exact (hOW.2.2.2.2.2.cell (p := ⟨xb, xo + 3, none⟩) hxl).trans HZ3.out
              rw [← HNA.out] at hk hkf
              have hwrs : wo.heap.size < wr.heap.size := hXb.lt
              clear hOW hXb hC
              by_cases hlt : k < na
              · obtain ⟨a, ha⟩ : ∃ a, x.args[k]? = some a := ⟨_, List.getElem?_eq_getElem (by rw [← HNA.out]; exact hlt)⟩
                obtain ⟨⟨b', o', hA', had⟩, _⟩ := HAR.out.get k a ha
                subst hA'
                rw [Nat.zero_add] at had
                have HAD := Lib.hid had
                have HTA := Lib.hid ha
                have ho4 := HOW.out.1.alloc (.cells #[.pointer (some ⟨b', o' + k * 4, none⟩), .bool false] 117)
                have hrr := reads2 wr (.pointer (some ⟨b', o' + k * 4, none⟩)) (.bool false) 117
                have hone : ∀ u ∈ ([.pointer (some ⟨b', o' + k * 4, none⟩), .bool false] : List Value), u.oneCell' = true := by simp [Value.oneCell']
                have hszr := HOW.out.2.2.2.2.2.size
                have hinf := HI.out
                have hz0 := HI0.out
                have hz1 := HI1.out
                have hz2 := HI2.out
                clear had ha
                go_wp2_with (at_builtin; refine wpList_append_any _ rfl (.tmp 70) (.tmp 79) 118 rfl w.heap.size 117 i0 (.agg #[.pointer none, .bool false]) 2 16 Try.underlying118 hinf hz0 hz1 hz2 rfl (by decide) _ (k + 1 + rest.length) _ rfl ho4 _ _ _ _ [.pointer (some ⟨b', o' + k * 4, none⟩), .bool false] rfl hrr hone (by unfold maxLen; omega) (by omega) (by simp; omega) ?_)
                intro v7 w7 hown7 hg7 hv7
                have hvo : (wr.alloc (.cells #[.pointer (some ⟨b', o' + k * 4, none⟩), .bool false] 117)).heap.size = wr.heap.size + 1 := by simp
                have hX7 := Blk.grown (HXB.out.alloc (.cells #[.pointer (some ⟨b', o' + k * 4, none⟩), .bool false] 117)) hg7 (fun e => hvn e.symm)
                have hv7n : v7.ownBlock ≠ some wo.heap.size := fun e => by
                  rcases hv7 with h1 | h1
                  · rw [h1] at e; exact hvn e
                  · rw [h1] at e; injection e with e; omega
                have hst := take_push x.args k a HTA.out ((x, true) :: rest)
                have hO7 := (HOW.out.alloc (.cells #[.pointer (some ⟨b', o' + k * 4, none⟩), .bool false] 117)).stk (n' := k + 1 + 1 + rest.length) (cs' := stkC ((x.args.take (k + 1)).reverse.map (·, false) ++ (x, true) :: rest)) (by
                  rw [hst, stkC_cons, HAD.out, ← HCC.out, show k + 1 + 1 + rest.length = k + 1 + rest.length + 1 by omega]
                  exact hown7) hg7
                have HO7 := Lib.hid hO7
                have HX7 := Lib.hid hX7
                clear hown7 hg7 hv7 hinf hz0 hz1 hz2 hrr hone ho4 hX7 hO7 hst hvo
                go_wp2_with fail
                go_roundg f2
                case measure => omega
                case rel => exact ⟨k + 1, by have := HNA.out; omega, rfl, by have := HNA.out; omega, HO7.out, HX7.out, hv7n⟩
              · have hke : k = na := by omega
                subst hke
                go_wp2_with fail
                go_roundg f
                case measure => omega
                case rel =>
                  have hO := HOW.out
                  rw [HCC.out] at hO
                  have htk : x.args.take k = x.args := by rw [HNA.out]; exact List.take_length
                  rw [htk] at hO
                  have hIp := hI.out.push HPX.out (by rw [HGX.out]; exact HLK.out)
                  rw [HGX.out] at hIp
                  have hmp := measO_push x rest
                  refine ⟨_, _, out, hIp, ?_, by omega, ?_, fun q hq => ?_⟩
                  · have : measO ((x, false) :: rest) = 2 * x.size + measO rest := rfl
                    omega
                  · rw [show (x.args.reverse.map (·, false) ++ (x, true) :: rest).length = k + 1 + rest.length by simp; have := HNA.out; omega]
                    exact hO
                  · rcases mem_upd hq with h1 | h1
                    · exact ⟨x, HXS.out, HGX.out.trans h1.symm⟩
                    · exact hS.out q h1
        · exact absurd hv hno
        · have HLK := Lib.hid (show (lookL s xa).getD (.int .i64 0) = .int .i64 2 from hv)
          have HI2 := Lib.hid (hI.out.closed (by rw [HGX.out]; exact hv))
          clear hno hv
          go_wp2_with (at_lookup; refine wpList_lookup_val rfl _ _ 65 rfl w.heap.size encA s 64 3 (plainA (wo.alloc (.cells #[.pointer (some xa), .bool false] 117))) HA.out.2.2.1 (keyE _) Try.underlying65 (fun q hq => plainA_alloc (HKS.out q hq) _) (.int .i64 0) (zeroI _) xa (plainA_alloc HKX.out _) rfl rfl (.int .i64 2) HLK.out ?_)
          go_wp2_with fail
          go_roundg f
          case measure => omega
          case rel => exact ⟨s, rest, out, HI2.out, by omega, by omega, by have := HA.out; rw [← HM.out]; exact this, hS.out⟩
end Go.Proofs.Ytniefnjcimempaa
