/- A file is written: the system behind it. -/
import Derived.Test.YthmbmecodddkeaaSet
namespace Go.Proofs.Ythmbmecodddkeaa
open Go.RowKit Go.WideMaps
def Touch (sb mb : Nat) (f : FR) : Nat → Prop := fun i => i = f.g ∨ f.v.ownBlock = some i ∨ i = mb ∨ i = sb
theorem file_apart {w : World} {base sb mb n : Nat} {off lim : Bool} {left : Int} {frs : List FR} {f : FR} (h : SysP w base sb mb n off lim left frs) (hm : f ∈ frs) : ∀ r ∈ frs, r.name ≠ f.name → Apart f r := fun r hr hne => by
  have hp := h.2.2.2.2.1
  obtain ⟨i, hi, hri⟩ := List.getElem_of_mem hr
  obtain ⟨j, hj, hfj⟩ := List.getElem_of_mem hm
  have hij : i ≠ j := fun e => by subst e; rw [hri] at hfj; subst hfj; exact hne rfl
  have hpw := List.pairwise_iff_getElem.1 hp
  rcases Nat.lt_or_gt_of_ne hij with h | h
  · have := hpw i j hi hj h
    rw [hri, hfj] at this
    exact this.symm
  · have := hpw j i hj hi h
    rw [hri, hfj] at this
    exact this
section
variable {w w' : World} {base sb mb n n' : Nat} {off lim off' lim' : Bool} {left left' : Int} {frs : List FR} {f f' : FR}
theorem own_ne_blk {f : FR} (hf : FileM w base f) {g : Nat} {t : TypeId} {cs : Array Value} (hb : Blk w g t cs) (ht : 5 ≠ t) : f.v.ownBlock ≠ some g := own_blk_ne hf.2.1 hb ht
theorem sys_write (h : SysP w base sb mb n off lim left frs) (hf : FileM w base f) (hfg : base ≤ f.g) (hap : ∀ r ∈ frs, r.name ≠ f.name → Apart f r) (hn : f'.name = f.name) (hg : f'.g = f.g)
    (hv : f'.v.ownBlock = f.v.ownBlock ∨ f'.v.ownBlock = none ∨ f'.v.ownBlock = some w.heap.size) (hK : Kept (Touch sb mb f) w w') (hf' : FileM w' base f')
    (hmap : w'.ownsMap Try.prog 9 ptrR mb n' (datum (putR f'.row (frs.map FR.row)))) (hsb : Blk w' sb 66 (sysC mb off' lim' left')) :
    SysP w' base sb mb n' off' lim' left' (putG FR.name f' frs) := by
  have hoth : ∀ r ∈ frs, r.name ≠ f.name → FileM w' base r := fun r hr hne => by
    obtain ⟨hr1, hr2⟩ := h.2.2.2.1 r hr
    have ha := hap r hr hne
    refine hr1.kept hK ?_ ?_
    · rintro (e | e | e | e)
      · exact ha.1 e.symm
      · exact own_ne_blk hf hr1.1 (by decide) e
      · exact h.blk_ne_mb hr1.1 e
      · exact Blk.ne_ hr1.1 h.1 (by decide) e
    · rintro g hgo (e | e | e | e)
      · subst e; exact own_ne_blk hr1 hf.1 (by decide) hgo
      · exact ha.2 g e hgo
      · subst e; exact h.row_ne_mb hr1.2.1 hgo
      · subst e; exact own_ne_blk hr1 h.1 (by decide) hgo
  refine ⟨hsb, by rw [put_rows] at hmap; exact hmap, risingG_put _ _ h.2.2.1, fun r hr => ?_, ?_, h.2.2.2.2.2⟩
  · rcases mem_putG f' frs r hr with rfl | ⟨hr, hne⟩
    · exact ⟨hf', by rw [hg]; exact hfg⟩
    · exact ⟨hoth r hr (by rw [← hn]; exact hne h.2.2.1), (h.2.2.2.1 r hr).2⟩
  · refine pairwise_putG (fun a b => Apart.symm a b) f' frs h.2.2.1 h.2.2.2.2.1 fun r hr hne => ?_
    rw [hn] at hne
    have ha := hap r hr hne
    refine ⟨by rw [hg]; exact ha.1, fun g h1 h2 => ?_⟩
    rcases hv with e | e | e
    · rw [e] at h1; exact ha.2 g h1 h2
    · rw [e] at h1; cases h1
    · rw [e] at h1
      injection h1 with h1
      have := ((h.2.2.2.1 r hr).1.own_ge h2).2
      omega
theorem foot_write {F : Nat → Prop} {B : Nat} (hF : ∀ i, Foot sb mb frs i → F i) (hg : F f.g ∨ B ≤ f.g) (hown : ∀ g, f.v.ownBlock = some g → F g ∨ B ≤ g) (e1 : f'.g = f.g) (hv : f'.v.ownBlock = f.v.ownBlock ∨ f'.v.ownBlock = none ∨ f'.v.ownBlock = some w.heap.size) (hB : B ≤ w.heap.size) :
    ∀ i, Foot sb mb (putG FR.name f' frs) i → Grow F B i := by
  intro i hi
  rcases hi with rfl | rfl | ⟨r, hr, hi⟩
  · exact .inl (hF _ (.inl rfl))
  · exact .inl (hF _ (.inr (.inl rfl)))
  · rcases mem_putG f' frs r hr with rfl | ⟨hr, _⟩
    · rcases hi with rfl | hi
      · rw [e1]; exact hg
      · rcases hv with e | e | e
        · rw [e] at hi; exact hown _ hi
        · rw [e] at hi; cases hi
        · rw [e] at hi
          injection hi with hi
          exact .inr (by omega)
    · exact .inl (hF _ (.inr (.inr ⟨r, hr, hi⟩)))
end
end Go.Proofs.Ythmbmecodddkeaa
