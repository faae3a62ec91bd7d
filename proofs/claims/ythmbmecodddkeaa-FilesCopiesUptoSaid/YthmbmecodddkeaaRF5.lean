/- Words for the walks of the reference's calls. -/
import Derived.Test.YthmbmecodddkeaaRF4
namespace Go.Proofs.Ythmbmecodddkeaa
open Go.RowKit Go.WideMaps
theorem rbegin_cases (y : RY) (ok : Bool) : rBegin y ok = (y, 0) ∨ ((rBegin y ok).2 = 13 ∨ (rBegin y ok).2 = 8) := by
  unfold rBegin
  split
  · exact .inr (.inl rfl)
  · split
    · exact .inr (.inr rfl)
    · exact .inl rfl
theorem FsM.keep2 {G : Nat → Prop} {w wa w1 wF : World} {fv : Value} {l : List PF} (h : FsM (LoG G w.heap.size wa.heap.size) w1 fv l) (hk : Kept (fun i => w.heap.size ≤ i ∧ i < wa.heap.size) w1 wF) (hs : w.heap.size ≤ wa.heap.size) : FsM (UpG G w.heap.size) wF fv l :=
  (h.keptF hk fun i _ hi e => by rcases hi with hi | hi <;> omega).mono fun i _ hi => loG_up hi hs
theorem FsM.keep1 {G : Nat → Prop} {w wa w1 wF : World} {fv : Value} {l : List PF} (h : FsM (LoG G w.heap.size wa.heap.size) w1 fv l) (hk : Kept (fun i => w.heap.size ≤ i ∧ i < wa.heap.size) w1 wF) : FsM (LoG G w.heap.size wa.heap.size) wF fv l :=
  h.keptF hk fun i _ hi e => by rcases hi with hi | hi <;> omega
theorem FsM.slice {G : Nat → Prop} {w : World} {fv : Value} {l : List PF} (h : FsM G w fv l) : ∃ A c, fv = .slice A l.length c ∧ l.length ≤ c := by
  obtain ⟨A, c, h, h2, _⟩ := h; exact ⟨A, c, h, h2⟩
theorem FsM.lo {G : Nat → Prop} {w wa wn w1 : World} {fv : Value} {l : List PF} (h : FsM (UpG (LoG G w.heap.size wa.heap.size) wn.heap.size) w1 fv l) (hs : wa.heap.size ≤ wn.heap.size) : FsM (LoG G w.heap.size wa.heap.size) w1 fv l :=
  h.mono fun i _ hi => by
    rcases hi with hi | hi
    · exact hi
    · exact .inr (Nat.le_trans hs hi)
theorem FsM.pay {G : Nat → Prop} {w : World} {fv : Value} {l : List PF} (h : FsM G w fv l) : PsG G w l := by obtain ⟨_, _, _, _, _, _, h⟩ := h; exact h
theorem ris_of {l : List PF} {files : List AF} (hl : l.map Prod.fst = files) (h : RisingG AF.name files) : RisingG pn l := by
  rw [← hl] at h
  unfold RisingG at h ⊢
  rw [List.pairwise_map] at h
  exact h
theorem find_of {l : List PF} {files : List AF} (hl : l.map Prod.fst = files) (s : List UInt8) : findA s files = (l[posG pn s l]?).map Prod.fst := by
  unfold findA
  rw [← hl, findG_map, ← posG_find]
  rfl
theorem put_fst (p : PF) (l : List PF) : (putG pn p l).map Prod.fst = putG AF.name p.1 (l.map Prod.fst) := putG_map Prod.fst AF.name p l
theorem drop_fst (s : List UInt8) (l : List PF) : (dropG pn s l).map Prod.fst = dropG AF.name s (l.map Prod.fst) := dropG_map Prod.fst AF.name s l
theorem putP_len (p : PF) (l : List PF) : (putG pn p l).length ≤ l.length + 1 := len_putG p l
def Bx (w wa : World) : Nat → Prop := fun i => w.heap.size ≤ i ∧ i < wa.heap.size
theorem set3_bx {w wa w1 : World} {g : Nat} (h1 : w.heap.size ≤ g) (h2 : g < wa.heap.size) (b0 b1 b2 : Value) : Kept (fun i => w.heap.size ≤ i ∧ i < wa.heap.size) w1 (set3 w1 g b0 b1 b2) :=
  (set3_kept w1 g b0 b1 b2).mono fun i hi => by have : i = g := hi; omega
/-- The file at a place, in cells. -/
theorem FsM.at_ {G : Nat → Prop} {w : World} {A : Option Addr} {n c : Nat} {l : List PF} (h : FsM G w (.slice A n c) l) {k : Nat} (hk : k < l.length) : ∃ b o, A = some ⟨b, o, none⟩ ∧ b < w.heap.size ∧ w.cell? ⟨b, o + k * 3, none⟩ = some (.string ⟨l[k].1.name.toArray⟩) ∧ w.cell? ⟨b, o + k * 3 + 1, none⟩ = some l[k].2 ∧ w.cell? ⟨b, o + k * 3 + 2, none⟩ = some (.int .i64 (l[k].1.sync : Int)) := by
  obtain ⟨A', c', e, _, hr, _, _⟩ := h
  injection e with e1 e2 e3
  subst e1 e2 e3
  obtain ⟨b, o, rfl, hb, hc⟩ := hr.formN (by omega) (by decide)
  have hcc := cellsP_at l k hk
  have c0 := hc _ _ hcc.1
  have c1 := hc _ _ hcc.2.1
  have c2 := hc _ _ hcc.2.2
  rw [← Nat.add_assoc] at c1 c2
  exact ⟨b, o, rfl, hb, c0, c1, c2⟩
end Go.Proofs.Ythmbmecodddkeaa
