/- Part aa of the proof. -/
import Derived.Deep.CutBlock
import Derived.Deep.RegionHeld3
import Derived.Deep.DeepCutAuto
import Derived.StillTailTactics
import Derived.BigQuiet
import Derived.Lib.QuietBelow
import Derived.Deep.AppendLies
import Derived.Test.YtamhdmkolfmmdaaGreatDoorProg
import Derived.WalkSpells
import Derived.WalkLawsBesides
import Derived.Lib.Zigzag
import Derived.Shelf.Small.Strs
import Derived.Shelf.Strings.Shaped
import Derived.Shelf.Strconv.AppendIntPublic10
import Derived.Shelf.Strings.Split
import Derived.Shelf.Slices.Turned
import Derived.Shelf.Slices.Clone
set_option linter.all false
set_option maxHeartbeats 16000000
set_option maxRecDepth 100000
open Go.Proofs.Tryz
open Go.Value renaming int→I,slice→D,bool→V,string→Q,pointer→ab,agg→aa,tuple→ag,nilIface→aj
open Go.IntKind renaming i64→U,u64→Y,u8→ai
open Go.Obj renaming cells→y
open Go.Ending renaming returned→ac
open Option renaming none→Z,some→N
open Bool renaming true→K,false→J
open Go renaming World→O,Value→C,Calls→L,TypeId→ah,Addr→ae
open Go.RowKit renaming Below→H
namespace Go.Proofs.YtamhdmkolfmmdaaGreatDoor
open Go
open Go.RowKit
variable {P:Prop}
instance:Coe O Nat:=⟨fun w=>w.heap.size⟩
def Hz (p:Prop):Prop:=p
def Hz.o {p:Prop} (h:Hz p):p:=h
def Hz.out {p:Prop} (h:Hz p):p:=h
def ua0:=@if_neg
def ua1:=@if_pos
def ua2:=@beq_eq_false_iff_ne
def ua3:=@List.getElem?_eq_getElem
def ua4:=@List.mem_of_getElem?
def ua5:=@decide_eq_false
def ua6:=@List.length_append
def ua7:=@Nat.lt_of_lt_of_le
def ua8:=@List.getElem_cons_succ
def ua9:=@List.getElem_cons_zero
def ub2:=@bodyPost_ret
def ub3:=@decide_eq_true
def ub4:=@List.getElem_toArray
def ub5:=@Below.refl
def ub6:=@List.getD_eq_getElem?_getD
def ub7:=@Int.toNat_natCast
def ub8:=@List.length_take
def ub9:=@List.getElem?_map
def uc2:=@List.append_assoc
def uc3:=@List.length_singleton
def uc4:=@List.getElem?_take
def uc5:=@IntWalk.i64_in
def uc6:=@List.getElem?_eq_none_iff
def uc7:=@List.mem_cons
def uc8:=@List.length_cons
def uc9:=@Nat.le_trans
def ud0:=@List.getElem?_drop
def ud1:=@Nat.zero_le
def ud2:=@List.getElem?_set_self
def ud3:=@Nat.zero_add
def ud4:=@congrArg
def ud5:=@List.getElem?_eq_none
def ud6:=@wp_region_held_drew
def ud7:=@Below.heap_setCell
def ud8:=@List.length_set
def ud9:=@List.length_drop
def ue0:=@List.take_add_one
def ue1:=@List.getElem?_eq_some_iff
def ue2:=@List.getElem?_set_ne
def ue3:=@List.not_mem_nil
def ue4:=@wp_region_noPanic
def ue5:=@Option.map_some
def ue6:=@World.cell?_of_block
def ue7:=@List.drop_eq_getElem_cons
def ue8:=@decide_eq_true_eq
def ue9:=@Array.getElem?_toList
def uf0:=@NoPanic.normal
def uf1:=@Nat.le_refl
def uf2:=@List.take_length
def uf3:=@List.mem_cons_self
def uf4:=@List.getElem?_append_right
def uf5:=@List.map_cons
def uf6:=@List.mem_cons_of_mem
def uf7:=@Nat.min_eq_left
def uf8:=@UInt8.le_iff_toNat_le
def uf9:=@run_underlying
def ug0:=@Option.some.injEq
def ug1:=@Nat.lt_or_ge
def ug2:=@List.append_nil
def ug3:=@List.take_append_drop
def ug4:=@of_decide_eq_true
def ug5:=@List.mem_singleton
def ug6:=@info_parts
def ug7:=@wpAnyH_done
def ug8:=@List.drop_eq_nil_of_le
def ug9:=@Int.le_refl
def uh2:=@List.mem_append
def uh3:=@List.ext_getElem?
def uh4:=@Nat.add_zero
def uh5:=@List.mem_or_eq_of_mem_set
def uh6:=@Sem.run_bind
def uh7:=@List.getElem?_of_mem
def uh8:=@List.mem_map
def uh9:=@of_decide_eq_false
def ui0:=@Nat.le_of_lt
def ui1:=@List.getElem?_append_left
def ui2:=@or_false
def ui3:=@Array.length_toList
def ui4:=@List.cons_append
def ui5:=@cell_regrown
def ui6:=@List.eq_nil_of_length_eq_zero
def ui7:=@List.take_of_length_le
def ui8:=@List.exists_of_findSome?_eq_some
def ui9:=@List.length_map
def uj0:=@Bool.and_eq_true
def uj1:=@Array.getElem?_eq_getElem
def uj2:=@Value.slice.inj
def uj3:=@List.map_append
def uj4:=@List.nil_append
def uj5:=@Array.getElem?_setIfInBounds_self_of_lt
def uj6:=@Array.getElem?_setIfInBounds_ne
def uj7:=@List.length_nil
def uj8:=@List.foldl_cons
def uj9:=@List.length_replicate
def uk0:=@wpList_store_row
def uk1:=@below_regrown
def uk2:=@bne_iff_ne
def uk3:=@List.mem_range
def uk4:=@List.mem_of_mem_take
def uk5:=@Bool.eq_iff_iff
def uk6:=@wpList_load_row
def uk7:=@List.take_succ_cons
def uk8:=@List.map_nil
def uk9:=@Bool.false_or
def ul2:=@decide_eq_decide
def ul3:=@UInt8.lt_iff_toNat_lt
def ul4:=@List.drop_zero
def ul5:=@Nat.eq_zero_or_pos
def ul6:=@not_or
def ul7:=@Bool.or_eq_false_iff
def ul8:=@List.drop_left'
def ul9:=@List.take_append_of_le_length
def um0:=@List.map_congr_left
def um1:=@List.take_zero
def um2:=@beq_self_eq_true
def um3:=@List.drop_of_length_le
def um4:=@Array.getElem?_eq_none
def um5:=@List.length_eq_one_iff
def um6:=@Array.getElem?_eq_some_iff
def um7:=@Int.tdiv_eq_ediv_of_nonneg
def um8:=@Classical.not_not
def um9:=@List.set_eq_take_append_cons_drop
def un0:=@List.map_map
def un1:=@List.all_eq_true
def un2:=@Below.heap_alloc
def un3:=@Array.size_setIfInBounds
def un4:=@Nat.zero_mul
def un5:=@decide_eq_false_iff_not
def un6:=@Nat.add_assoc
def un7:=@List.cons.injEq
def un8:=@u64_or_nat
def un9:=@List.take_left'
def uo0:=@UInt8.toNat_inj
def uo1:=@MapKept.run_getObj_map
def uo2:=@List.dropWhile_sublist
def uo3:=@World.ownsRow_nil
def uo4:=@List.foldl_append
def uo5:=@Int.mul_comm
def uo6:=@Nat.mul_le_mul
def uo7:=@Nat.mul_succ
def uo8:=@Nat.sub_self
def uo9:=@wp_region_quiet_below
def up0:=@World.cell?_alloc_lt
def up1:=@List.length_eraseIdx
def up2:=@List.any_eq_true
def up3:=@List.mem_of_mem_drop
def up4:=@List.findSome?_eq_none_iff
def up5:=@Calls.quiet_of_same
def up6:=@Nat.mul_le_mul_left
def up7:=@List.getLastD_eq_getLast?
def up8:=@List.map_set
def up9:=@Nat.add_sub_cancel
def uq0:=@List.pairwise_cons
def uq1:=@Int.mul_nonneg
def uq2:=@List.length_eq_zero_iff
def uq3:=@List.reverse_cons
def uq4:=@DataW.trod_string
def uq5:=@Nat.mul_one
def uq6:=@Prod.mk.inj
def uq7:=@Bool.or_false
def uq8:=@Prod.mk.injEq
def uq9:=@List.ext_getElem
def ur0:=@Calls.regrown_of
def ur1:=@List.length_filter_le
def ur2:=@Int.le_ediv_of_mul_le
def ur3:=@List.set_append_right
def ur4:=@Bool.or_eq_true
def ur5:=@List.find?_cons
def ur6:=@Nat.mod_lt
def ur7:=@ByteArray.extract_mk
def ur8:=@Nat.pow_le_pow_right
def ur9:=@Int.natCast_mul
def us0:=@List.length_zipWith
def us1:=@List.drop_succ_cons
def us2:=@List.replicate_succ
def us3:=@List.drop_drop
def us4:=@List.take_take
def us5:=@heap_alloc_new
def us6:=@Bool.false_eq_true
def us7:=@Option.toList_some
def us8:=@Nat.lt_trichotomy
def us9:=@IntWalk.wrap64_in
def ut0:=@Value.slice.injEq
def ut1:=@beq_iff_eq
def ut2:=@Int.zero_add
def ut3:=@block_lt_of_cell
def ut4:=@Nat.mul_comm
def ut5:=@IntKind.wrap_u64
def ut6:=@and_true
def ut7:=@Bool.true_or
def ut8:=@Nat.add_comm
def ut9:=@Int.zero_mul
def uu0:=@List.range_succ
def uu1:=@Nat.min_def
def uu2:=@wpQuiet_nil
def uu3:=@AllReadyH.cons
def hD {p:Prop} (h:p):Hz p:=h
def gA {α:Type _} {xs:List α} {i:Nat} :xs.toArray[i]? =xs[i]? :=List.getElem?_toArray
def gB {α:Type _} {a:α} {l:List α} :(a::l)[0]? =N a:=List.getElem?_cons_zero
def gC {α:Type _} {a:α} {i:Nat} {l:List α} :(a::l)[i+1]? =l[i]? :=List.getElem?_cons_succ
def gE {α:Type _} (l:List α) (i:Nat) (a:α):l.toArray.setIfInBounds i a=(l.set i a).toArray:=List.setIfInBounds_toArray l i a
def gF {α:Type _} {x:α} {xs:List α} {a:α} :(x::xs).set 0 a=a::xs:=List.set_cons_zero
def gG {α:Type _} {x:α} {xs:List α} {i:Nat} {a:α} :(x::xs).set (i+1) a=x::xs.set i a:=List.set_cons_succ
def gH {α:Type _} {i:Nat} {a:α} {l:List α} (h:l[i]? =N a):∃ h:i<l.length,l[i]=a:=ue1.1 h
def xG {α:Type _} (l:List α) {k:Nat} (h:k<l.length):∃ x,l[k]? =N x:=by exact ⟨_,ua3 h⟩
def xE {α:Sort _} (a:α):∃ x,x=a:=⟨a,rfl⟩
def nR {n:Nat} :n≤n:=Nat.le.refl
def nN (n:Nat):(0:Int)≤(n:Int):=Int.natCast_nonneg n
def bZ (t:List UInt8):(ByteArray.mk t.toArray).size=t.length:=by unfold ByteArray.size;exact List.size_toArray
def xS (n:Nat) (h:0<n:=by omega):∃ k,n=k+1:=⟨n-1,(Nat.sub_add_cancel h).symm⟩
def bT {w aq aF:O} (h:Hz (H w w aq)) (ao:H aq aq aF):Hz (H w w aF):=h.o.trans (ao.mono h.o.size)
def hd3 {a0 aY bh:Prop} (be:a0) (b8:aY) (cn:bh):Hz a0∧Hz aY∧Hz bh:=⟨be,b8,cn⟩
def hd4 {a0 aY bh a3:Prop} (be:a0) (b8:aY) (cn:bh) (c0:a3):Hz a0∧Hz aY∧Hz bh∧Hz a3:=⟨be,b8,cn,c0⟩
def hd5 {a0 aY bh a3 a4:Prop} (be:a0) (b8:aY) (cn:bh) (c0:a3) (c3:a4):Hz a0∧Hz aY∧Hz bh∧Hz a3∧Hz a4:=⟨be,b8,cn,c0,c3⟩
def hd6 {a0 aY bh a3 a4 a5:Prop} (be:a0) (b8:aY) (cn:bh) (c0:a3) (c3:a4) (jA:a5):Hz a0∧Hz aY∧Hz bh∧Hz a3∧Hz a4∧Hz a5:=⟨be,b8,cn,c0,c3,jA⟩
def hd7 {a0 aY bh a3 a4 a5 uf:Prop} (be:a0) (b8:aY) (cn:bh) (c0:a3) (c3:a4) (jA:a5) (jc:uf):Hz a0∧Hz aY∧Hz bh∧Hz a3∧Hz a4∧Hz a5∧Hz uf:=⟨be,b8,cn,c0,c3,jA,jc⟩
def hd8 {a0 aY bh a3 a4 a5 uf Ax:Prop} (be:a0) (b8:aY) (cn:bh) (c0:a3) (c3:a4) (jA:a5) (jc:uf) (mT:Ax):Hz a0∧Hz aY∧Hz bh∧Hz a3∧Hz a4∧Hz a5∧Hz uf∧Hz Ax:=⟨be,b8,cn,c0,c3,jA,jc,mT⟩
def hd9 {a0 aY bh a3 a4 a5 uf Ax MX:Prop} (be:a0) (b8:aY) (cn:bh) (c0:a3) (c3:a4) (jA:a5) (jc:uf) (mT:Ax) (CR:MX):Hz a0∧Hz aY∧Hz bh∧Hz a3∧Hz a4∧Hz a5∧Hz uf∧Hz Ax∧Hz MX:=⟨be,b8,cn,c0,c3,jA,jc,mT,CR⟩
def oM {p:Prop} (h:p:=by omega):p:=h
def dC {p:Prop} (h:p:=by decide):p:=h
def kR {p:Prop} (h:p:=by kernel_rfl):p:=h
def kx (p:Prop):Prop:=p
def kz {p:Prop} (h:kx p):p:=h
section
variable {P:Program} {cD:Array Oper} {cY:Exit→Act→O→Prop} {ez:Region.Mode} {S:O→Prop}
theorem tk (i:Nat) {hc:Oper} {v:C} {fuel:Nat} {ee l':Array Bool} {a ib:Act} {w:O} (dO:S w)
  (h : wpAnyH P ez cD cY S fuel l' ib w)
  (hi : cD[i]? = N hc := by rfl) (al : Region.noSelect cD = K := by kernel_rfl) (b5 : Region.free ez cD ee i = K := by kernel_rfl) (am : (Region.ready ez cD ee).contains i = K := by kernel_rfl)
  (iD : ∀ c a w, cY (.panic c) (a.put hc.dst v) w → cY (.panic c) a w := by exact fun _ _ _ h => h) (hg : Region.wanted hc (yielded cD a.tmps) = K := by kernel_rfl)
  (bp : ∀ w', S w' → (execOp a.eval hc).run P w' = .ok (.value v) w' := by
   intro w' Hs
   (try dsimp only at Hs)
   go_simp <;> with_reducible rfl)
  (aE : a.put hc.dst v = ib := by
   (try simp only [Act.put, ub4, ua8, ua9, gE, gF, gG])
   exact rfl)
  (az : ee.setIfInBounds i K = l' := by
   (try simp only [gE, gF, gG])
   exact rfl) : wpAnyH P ez cD cY S (fuel + 1) ee a w :=
 wpAnyH_take hi al b5 am iD (Or.inl ⟨hg, bp⟩) dO (by rw [aE, az]; exact h)
theorem ts (i:Nat) {hc:Oper} {fuel:Nat} {ee l':Array Bool} {a ib:Act} {w:O} (dO:S w)
  (h : wpAnyH P ez cD cY S fuel l' ib w)
  (hi : cD[i]? = N hc := by rfl) (al : Region.noSelect cD = K := by kernel_rfl) (b5 : Region.free ez cD ee i = K := by kernel_rfl) (am : (Region.ready ez cD ee).contains i = K := by kernel_rfl)
  (iD : ∀ c a w, cY (.panic c) (a.put hc.dst undef) w → cY (.panic c) a w := by exact fun _ _ _ h => h) (hg : Region.wanted hc (yielded cD a.tmps) = J := by kernel_rfl)
  (aE : a.put hc.dst undef = ib := by
   (try simp only [Act.put, ub4, ua8, ua9, gE, gF, gG])
   exact rfl)
  (az : ee.setIfInBounds i K = l' := by
   (try simp only [gE, gF, gG])
   exact rfl) : wpAnyH P ez cD cY S (fuel + 1) ee a w :=
 wpAnyH_take hi al b5 am iD (Or.inr ⟨hg, rfl⟩) dO (by rw [aE, az]; exact h)
end
end Go.Proofs.YtamhdmkolfmmdaaGreatDoor
namespace Go.Proofs.YtamhdmkolfmmdaaGreatDoor
open Go.RowKit
variable {P:Prop}
def zq7 (h:P:=by injection h with h;injection h with af ao;injection af with af;injection af with af av;omega):=h
def klM (h:P:=by first|guard_hyp E6;injection h with h;injection h with af ao;subst af;exact ⟨krq _,by rw[Rx.one,koB];omega⟩|injection h with h;injection h with af ao;omega):=h
def klI (h:P:=by first|guard_hyp E6;injection h with h;injection h with af ao;subst af;exact ⟨krq _,by rw[koB];omega⟩|injection h with h;injection h with af ao;omega):=h
def kmk (h:P:=by
 unfold kby at h;split at h
 .exact zq7
 split at h
 .exact zq7
 split at h
 .exact zq7
 split at h
 .rename_i ak;have az:=kaj ak;split at h
  .cases h
  rename_i lo k1 aL;have af:=khj oM aL;split at h
  .rename_i cm;have ew:=kaj cm;split at h
   .split at h
    .cases h
    rename_i hi bS bJ;have ao:=khj oM bJ;split at h
    ·(first|guard_hyp Rh;rename_i cb;have:=cb.2|skip);exact zq7
    .cases h
   split at h
   .exact zq7
   .cases h
  split at h
  .exact zq7
  .cases h
 .injection h with h;injection h with af ao;cases af):=h
def kmi (h:P:=by
 unfold kcv at h;split at h
 .cases h
 rename_i b ak;have az:=kaj ak;split at h
 .split at h
  .cases h
  rename_i x k1 aL;have:=khr aL;exact klM
 split at h
 .exact klI
 split at h
 .split at h
  .cases h
  rename_i x k1 aL;have:=kBF aL;exact klI
 split at h
 .split at h
  .cases h
  rename_i x k1 aL;have:=ce _ _ _ oM aL;split at h
  .first|guard_hyp E6;injection h with h;injection h with af ao;subst af;exact ⟨this.1,oM⟩|rename_i an;have:=kaj an;injection h with h;injection h with af ao;omega
  .cases h
 split at h
 .cases h
 .exact klM):=h
def qy0:True:=True.intro
def kkV (a:ae) (n:Nat):(a.add n).block=a.block:=by unfold Addr.add;split <;> rfl
def kCQ (a:ae) (i j:Nat):(a.add i).add j=a.add (i+j):=by unfold Addr.add;by_cases hi:i=0 <;> by_cases aS:j=0 <;> simp[hi,aS,un6]
def Reads (w:O) (B size:Nat) (A:Option ae) (n:Nat) (xs:List C):Prop:=
 xs.length=n*size∧(0<n→∃ ad,A=N ad∧ad.block<B∧∀ j u,xs[j]? =N u→w.cell? (ad.add j)=N u)
section
variable {w w':O} {B MY size n:Nat} {A:Option ae} {xs:List C}
theorem Reads.none_:Reads w B size A 0 []:=⟨by simp,fun h=>absurd h oM⟩
theorem Reads.keep (h:Reads w B size A n xs) (aw:∀ p:ae,p.block<B→w'.cell? p=w.cell? p):Reads w' B size A n xs:=
 ⟨h.1,fun ax=>by obtain ⟨ad,e,ak,an⟩:=h.2 ax;exact ⟨ad,e,ak,fun j u aI=>(aw _ (by rw[kkV];exact ak)).trans (an j u aI)⟩⟩
theorem Reads.more (h:Reads w B size A n xs) (b0:B≤MY):Reads w MY size A n xs:=
 ⟨h.1,fun ax=>by obtain ⟨ad,e,ak,an⟩:=h.2 ax;exact ⟨ad,e,oM,an⟩⟩
theorem Reads.below (h:Reads w B size A n xs) (ak:H B w w'):Reads w' B size A n xs:=h.keep fun _ aO=>ak.cell aO
theorem Reads.drew (h:Reads w B size A n xs):Reads w.drew B size A n xs:=h
theorem Reads.alloc (h:Reads w B size A n xs) (b0:B≤w.heap.size) (o:Obj):Reads (w.alloc o) B size A n xs:=h.keep fun p aO=>up0 w o p oM
theorem Reads.grown (h:Reads w B size A n xs) {row:Option Nat} (hg:w.grownBy w' row) (b0:B≤w.heap.size) (am:∀ g,row=N g→B≤g):Reads w' B size A n xs:=
 h.keep fun p aO=>ue6 (hg.block p.block oM (fun e=>by have:=am _ e.symm;omega))
theorem Reads.cut (h:Reads w B size A n xs) {k cap:Nat} (aw:k≤n) (an:n≤cap):
 Reads w B size (if cap=k then A else A.map (·.add (k*size))) (n-k) (xs.drop (k*size)):=by
 refine ⟨by rw[ud9,h.1,Nat.sub_mul],fun ax=>?_⟩;obtain ⟨ad,rfl,ak,sA⟩:=h.2 oM;rw[ua0 oM];refine ⟨ad.add (k*size),rfl,by rw[kkV];exact ak,fun j u aI=>?_⟩;rw[kCQ];exact sA _ u (by rw[←aI,ud0])
theorem Reads.mb2 {base:Nat} {e:ah} {c:Nat} (h:w.ownsRow base e size (D A n c) n xs):Reads w w size A n xs:=by refine ⟨h.1,fun ax=>?_⟩;obtain ⟨g,cap,au,_,bG⟩:=h.form ax;have d4:A=N ⟨g,0,Z⟩:=(by injection au);subst d4;exact ⟨_,rfl,bG,h.cells (g:=g) rfl⟩
end
def Blk (w:O) (g:Nat) (t:ah) (cs:Array C):Prop:=w.heap[g]? =N (y cs t (0,0))
section
variable {w w':O} {g:Nat} {t:ah} {cs:Array C}
theorem Blk.lt (h:Blk w g t cs):g<w.heap.size:=by
 rcases ug1 g w with bG|j5
 .exact bG
 .unfold Blk at h;rw[um4 j5] at h;cases h
theorem Blk.cell (h:Blk w g t cs) (i:Nat):w.cell? ⟨g,i,Z⟩=cs[i]? :=cell_of_row w g i cs t (0,0) h
theorem Blk.frozen (h:Blk w g t cs) (i:Nat):w.frozen? ⟨g,i,Z⟩=J:=by unfold Blk at h;simp[World.frozen?,h]
theorem Blk.new (w:O) (t:ah) (cs:Array C):Blk (w.alloc (y cs t)) w t cs:=us5 w _
theorem bM {aF aq:O} {t:ah} {cs:Array C} (h:aF=aq.alloc (y cs t)):Blk aF aq t cs:=by rw[h];exact Blk.new _ _ _
theorem bN {aF aq:O} {t:ah} {cs:Array C} (h:aF=aq.alloc (y cs t)):Hz (Blk aF aq t cs):=bM h
theorem bA {aF aq:O} {o:Obj} (h:aF=aq.alloc o):H aq aq aF:=by rw[h];exact (ub5 _ _).alloc (nR) _
theorem bB {aF aq:O} {o:Obj} (h:aF=aq.alloc o):Hz (H aq aq aF):=bA h
theorem wS {aF aq:O} {o:Obj} (h:aF=aq.alloc o):aF.heap.size=aq.heap.size+1:=by rw[h];simp
theorem Blk.drew (h:Blk w g t cs):Blk w.drew g t cs:=h
theorem Blk.drewN (h:Blk w g t cs) (n:Nat):Blk (w.drewN n) g t cs:=h
theorem Blk.alloc (h:Blk w g t cs) (o:Obj):Blk (w.alloc o) g t cs:=(un2 w o g h.lt).trans h
theorem Blk.mac (h:Blk w g t cs) (i:Nat) (u:C):Blk (w.setCell ⟨g,i,Z⟩ u) g t (cs.setIfInBounds i u):=by unfold Blk at h ⊢;simp[World.setCell,Array.getElem?_modify,h]
theorem Blk.far (h:Blk w g t cs) {p:ae} (aO:g≠p.block) (u:C):Blk (w.setCell p u) g t cs:=(ud7 w p u g aO).trans h
theorem Blk.below {B:Nat} (h:Blk w g t cs) (ak:H B w w') (hg:g<B):Blk w' g t cs:=(ak.block g hg).trans h
theorem Blk.grown {row:Option Nat} (h:Blk w g t cs) (ak:w.grownBy w' row) (hg:N g≠row):Blk w' g t cs:=(ak.block g h.lt hg).trans h
theorem Blk.ne_ {mH:Nat} {t':ah} {eo:Array C} (h:Blk w g t cs) (fg:Blk w mH t' eo) (ch:t≠t'):g≠mH:=by rintro rfl;unfold Blk at h fg;rw[h] at fg;injection fg with fg;injection fg with _ aB;exact ch aB
theorem ka5 {base:Nat} {e:ah} {size n:Nat} {v:C} {xs:List C} (h:w.ownsRow base e size v n xs) (hg:Blk w g t cs) (ch:e≠t):v.ownBlock≠N g:=by
 rcases h.2 with ⟨rfl,_⟩|⟨mH,cap,cur,rfl,_,dq,_⟩
 .simp[Value.ownBlock]
 .intro aG;have:mH=g:=(by simpa[Value.ownBlock] using aG);subst this;exact Blk.ne_ (t:=e) dq hg ch rfl
end
section
variable {P:Program} (w:O)
theorem kvf (base:Nat) (t ty e:ah) (i:TypeInfo) (size:Nat) (aB:P.underlying t=N (.slice e)) (hi:P.info? e=N i)
 (v:C) (n:Nat) (xs:List C) (lL:w.ownsRow base e size v n xs) (c:Nat):(Builtin.append_ #[t,t] ty #[v,D Z 0 c]).run P w= .ok v w:=by
 rcases lL.2 with ⟨rfl,rfl⟩|⟨g,cap,cur,rfl,_,_,qk,_⟩
 .simp[Builtin.append_,uf9 aB,sizeOf,typeInfo,hi,Builtin.lenOf,Builtin.firstCells]
 .simp[Builtin.append_,uf9 aB,sizeOf,typeInfo,hi,Builtin.lenOf,Builtin.firstCells,qk,storeCells]
theorem kvg (base:Nat) (t ty e:ah) (i:TypeInfo) (z:C) (size bytes:Nat) (aB:P.underlying t=N (.slice e)) (hi:P.info? e=N i) (bd:i.zero=N z)
 (p0:i.size=size) (vP:i.bytes=bytes) (pR:z.cells.size=size) (dN:0<size)
 (v:C) (n:Nat) (xs:List C) (lL:w.ownsRow base e size v n xs)
 (B:Nat) (A:Option ae) (m c:Nat) (iK:List C) (am:Reads w B size A m iK) (af:∀ u∈iK,u.oneCell'=K)
 (iE:n+m≤maxLen) (ug:(n+m)*bytes≤140737488355328) (f5:base≤w.heap.size):
 ∃ cH w',(Builtin.append_ #[t,t] ty #[v,D A m c]).run P w= .ok cH w'∧w'.ownsRow base e size cH (n+m) (xs++iK)∧w.grownBy w' v.ownBlock∧
 (cH.ownBlock=v.ownBlock∨cH.ownBlock=N w.heap.size):=by
 rcases A with _|ad
 .have bg:m=0:=by
   rcases ul5 m with aD|aD
   .exact aD
   .obtain ⟨ad,h,_⟩:=am.2 aD;cases h
  subst bg;have ax:iK=[]:=ui6 (by simpa using am.1);subst ax;exact ⟨v,w,kvf w base t ty e i size aB hi v n xs lL c,by simpa using lL,World.grownBy.refl w _, .inl rfl⟩
 .have Nl:∀ j u,iK[j]? =N u→w.cell? (ad.add j)=N u:=by
   intro j u aI;rcases ul5 m with aD|aD
   .subst aD;have ax:iK=[]:=ui6 (by simpa using am.1);subst ax;simp at aI
   .obtain ⟨HK,h,_,an⟩:=am.2 aD;injection h with h;subst h;exact an j u aI
  obtain ⟨cH,w',mN,ao,av,_,cb⟩:=run_append_own_at (P:=P) w base t ty e i z size bytes aB hi bd p0 vP pR dN v n xs lL ad m c iK am.1 Nl af iE ug f5;exact ⟨cH,w',mN,ao,av,cb⟩
theorem knJ {o:Oper} {a:Act} {aR:Act→O→Prop} {cY:Exit→Act→O→Prop} (s x:Operand) (t:ah)
 (bf:o.op= .call { callee:= .builtin .append,args:= #[s,x],argTypes:= #[t,t] })
 (base:Nat) (e:ah) (i:TypeInfo) (z:C) (size bytes:Nat) (aB:P.underlying t=N (.slice e)) (hi:P.info? e=N i) (bd:i.zero=N z)
 (p0:i.size=size) (vP:i.bytes=bytes) (pR:z.cells.size=size) (dN:0<size)
 (v:C) (n:Nat) (xs:List C) (al:a.eval s=v) (lL:w.ownsRow base e size v n xs)
 (B:Nat) (A:Option ae) (m c:Nat) (iK:List C) (aA:a.eval x=D A m c) (am:Reads w B size A m iK) (af:∀ u∈iK,u.oneCell'=K)
 (iE:n+m≤maxLen) (ug:(n+m)*bytes≤140737488355328) (f5:base≤w.heap.size)
 (h:∀ cH w',w'.ownsRow base e size cH (n+m) (xs++iK)→w.grownBy w' v.ownBlock→(cH.ownBlock=v.ownBlock∨cH.ownBlock=N w.heap.size)→aR (a.put o.dst cH) w'):o.wp P a w aR cY:=by
 obtain ⟨cH,w',mN,ao,av,bk⟩:=kvg (P:=P) w base t o.type e i z size bytes aB hi bd p0 vP pR dN v n xs lL B A m c iK am af iE ug f5;unfold Oper.wp execOp;simp only[bf,resolve,invoke,builtin,uh6,Sem.run_pure,Result.andThen_ok,List.map_toArray,uf5,uk8,al,aA,mN];exact h cH w' ao av bk
theorem kbs {cD:Array Oper} {rest:List Oper} {o:Oper} {a:Act} {cY:Exit→Act→O→Prop} (ii:o.guard=Z) (s x:Operand) (t:ah)
  (bf : o.op = .call { callee := .builtin .append, args := #[s, x], argTypes := #[t, t] })
  (base : Nat) (e : ah) (i : TypeInfo) (z : C) (size bytes : Nat) (aB : P.underlying t = N (.slice e)) (hi : P.info? e = N i) (bd : i.zero = N z)
  (p0 : i.size = size) (vP : i.bytes = bytes) (pR : z.cells.size = size) (dN : 0 < size)
  (v : C) (n : Nat) (xs : List C) (al : a.eval s = v) (lL : w.ownsRow base e size v n xs)
  (B : Nat) (A : Option ae) (m c : Nat) (iK : List C) (aA : a.eval x = D A m c) (am : Reads w B size A m iK) (af : ∀ u ∈ iK, u.oneCell' = K)
  (iE : n + m ≤ maxLen) (ug : (n + m) * bytes ≤ 140737488355328) (f5 : base ≤ w.heap.size)
  (h : ∀ cH w', w'.ownsRow base e size cH (n + m) (xs ++ iK) → w.grownBy w' v.ownBlock → (cH.ownBlock = v.ownBlock ∨ cH.ownBlock = N w.heap.size) → wpList P cD cY rest (a.put o.dst cH) w') : wpList P cD cY (o :: rest) a w :=
 wpList_plain ii fun _ aJ => knJ w s x t bf base e i z size bytes aB hi bd p0 vP pR dN v n xs al lL B A m c iK aA am af iE ug f5 fun cH w' ao av bk => aJ _ _ (h cH w' ao av bk)
theorem kfE {cD:Array Oper} {o:Oper} {a:Act} {aR:Act→O→Prop} {cY:Exit→Act→O→Prop} {E:Prop} (ii:o.guard=Z) (s x:Operand) (t:ah)
 (bf:o.op= .call { callee:= .builtin .append,args:= #[s,x],argTypes:= #[t,t] })
 (base:Nat) (e:ah) (i:TypeInfo) (z:C) (size bytes:Nat) (aB:P.underlying t=N (.slice e)) (hi:P.info? e=N i) (bd:i.zero=N z)
 (p0:i.size=size) (vP:i.bytes=bytes) (pR:z.cells.size=size) (dN:0<size)
 (v:C) (n:Nat) (xs:List C) (al:a.eval s=v) (lL:w.ownsRow base e size v n xs)
 (B:Nat) (A:Option ae) (m c:Nat) (iK:List C) (aA:a.eval x=D A m c) (am:Reads w B size A m iK) (af:∀ u∈iK,u.oneCell'=K)
 (iE:n+m≤maxLen) (ug:(n+m)*bytes≤140737488355328) (f5:base≤w.heap.size)
 (h:∀ cH w',w'.ownsRow base e size cH (n+m) (xs++iK)→w.grownBy w' v.ownBlock→(cH.ownBlock=v.ownBlock∨cH.ownBlock=N w.heap.size)→aR (a.put o.dst cH) w'):
 if Region.wanted o (yielded cD a.tmps)=K then Oper.wp P o a w aR cY else E:=by
 have fn:Region.wanted o (yielded cD a.tmps)=K:=(by simp[Region.wanted,ii]);rw[ua1 fn];exact knJ w s x t bf base e i z size bytes aB hi bd p0 vP pR dN v n xs al lL B A m c iK aA am af iE ug f5 h
end
def kbm {B:Nat} {a w:O} (h:H B a w) (n:Nat):H B a (w.drewN n):=⟨h.os,h.tape,h.output,h.size,h.block⟩
def kbR {a w:O} (h:H a a w) (row:Option Nat):a.grownBy w row:=⟨h.os,h.tape,h.output,h.size,fun i hi _=>h.block i hi⟩
def kb8 (b o j:Nat):(⟨b,o,Z⟩:ae).add j=⟨b,o+j,Z⟩:=by unfold Addr.add;split <;> simp_all
def kcI (w:O) (cs:Array C) (t:ah):∀(j:Nat) (u:C),cs.toList[j]? =N u→(w.alloc (y cs t)).cell? ((⟨w,0,Z⟩:ae).add j)=N u:=by intro j u h;rw[kb8,ud3,World.cell?_alloc_at _ _ _ _ rfl];simpa using h
def Reads.form {w:O} {B n:Nat} {A:Option ae} {xs:List C} (h:Reads w B 1 A n xs) (ax:0<n):
 ∃ b o,A=N ⟨b,o,Z⟩∧b<B∧∀ k u,xs[k]? =N u→w.cell? ⟨b,o+k,Z⟩=N u:=by
 obtain ⟨ad,rfl,ak,an⟩:=h.2 ax;obtain ⟨b,o,um⟩:=ad;have az:0<xs.length:=(by have:=h.1;omega);have xT:um=Z:=(by simpa[Addr.add] using World.cell?_spot (an 0 _ (ua3 az)));subst xT;exact ⟨b,o,rfl,ak,fun k u aI=>by rw[←kb8];exact an k u aI⟩
def Reads.mb7 (w:O) (cs:Array C) (t:ah) {B n:Nat} (b0:w.heap.size<B) (ax:cs.size=n):Reads (w.alloc (y cs t)) B 1 (N ⟨w,0,Z⟩) n cs.toList:=
 ⟨by simp[ax],fun _=>⟨_,rfl,b0,kcI w cs t⟩⟩
def kaI {w w':O} {base e size n:Nat} {v:C} {xs:List C} (h:w.ownsRow base e size v n xs) (ak:H w w w'):w'.ownsRow base e size v n xs:=
 h.kept (kbR ak Z) (by
  by_cases dq:v.ownBlock=Z
  .exact .inl dq
  .exact .inr dq)
def kB6 {w aq aF:O} {base e size n B:Nat} {v:C} {xs:List C} (ak:H B w aq) (b0:B≤aq.heap.size) (dZ:B≤base) (h:aq.ownsRow base e size v n xs) (hg:aq.grownBy aF v.ownBlock):H B w aF:=
 ak.grown hg b0 (by rintro g rS;have:=(h.lt g rS).1;omega)
def kaA {w:O} {base e size n:Nat} {v:C} {xs:List C} (h:w.ownsRow base e size v n xs):∃ A c,v=D A n c:=by
 obtain ⟨az,h⟩:=h;rcases h with ⟨rfl,rfl⟩|⟨mH,cap,cur,rfl,_⟩
 .exact ⟨_,_,rfl⟩
 .exact ⟨_,_,rfl⟩
end Go.Proofs.YtamhdmkolfmmdaaGreatDoor
namespace Go.Proofs.YtamhdmkolfmmdaaGreatDoor
variable {P:Prop}
abbrev LS:=Nat→Bool
def wdN (S:LS) (i:Nat):Nat→Nat
 |0=>0
 |n+1=>wdN S i n+(if S (64*i+n) then 2^n else 0)
def wd (S:LS) (i:Nat):Nat:=wdN S i 64
inductive Rx where
 |node (kind:Nat) (he aq aF a6:Nat) (lo hi:Int) (rA:List Rx)
def Rx.plain (kind:Nat) (rA:List Rx):Rx:= .node kind 0 0 0 0 0 0 rA
def Rx.set (S:LS):Rx:= .node 2 (wd S 0) (wd S 1) (wd S 2) (wd S 3) 0 0 []
def Rx.rep (lo hi:Int) (r:Rx):Rx:= .node 5 0 0 0 0 lo hi [r]
def Rx.empty:Rx:=Rx.plain 1 []
def kaa (b:Nat):LS:=fun n=>n==b
def Rx.one (b:UInt8):Rx:=Rx.set (kaa b.toNat)
def kah (S:LS):LS:=fun n=>!S n
def orS (S R:LS):LS:=fun n=>S n||R n
def kbg (a b:Nat):LS:=fun n=>decide (a≤n)&&decide (n≤b)
def kad:LS:=fun _=>J
def ka2:LS:=kah (kaa 10)
def Rx.seq:List Rx→Rx
 |[]=>Rx.empty
 |[r]=>r
 |l=>Rx.plain 3 l
def Rx.alt:List Rx→Rx
 |[r]=>r
 |l=>Rx.plain 4 l
def kcj (b:UInt8):Bool:=(33≤b&&b≤47)||(58≤b&&b≤64)||(91≤b&&b≤96)||(123≤b&&b≤126)
def specials:List UInt8:=[92,46,91,93,40,41,123,125,124,42,43,63]
def ka6 (b:UInt8):Option Nat:=
 if 48≤b∧b≤57 then N (b.toNat-48) else if 97≤b∧b≤102 then N (b.toNat-87) else if 65≤b∧b≤70 then N (b.toNat-55) else Z
def kaG (T:List UInt8) (k:Nat):Option (Nat×Nat):=match T[k]? with
 |none=>none
 | some b => match ka6 b with
  | none => none
  | some d => some (d, k + 1)
def kaO (T:List UInt8) (k:Nat):Option (UInt8×Nat):=match T[k]? with
 |none=>none
 | some b =>
  if b = 110 then N (10, k + 1)
  else if b = 116 then N (9, k + 1)
  else if b = 114 then N (13, k + 1)
  else if b = 120 then match kaG T (k + 1) with
   | none => none
   | some (h, k1) => match kaG T k1 with
    | none => none
    | some (l, bS) => some (UInt8.ofNat (16 * h + l), bS)
  else if kcj b then N (b, k + 1) else Z
def kaU (t:List UInt8):Option (UInt8×Nat):=match t with
 |[]=>Z
 | b :: t => if b = 93 ∨ b = 45 then Z
  else if b ≠ 92 then N (b, 1)
  else match kaO t 0 with
   | none => none
   | some (x, k) => some (x, k + 1)
def lsP:Nat→List UInt8→LS→Option LS
 |0,_,_=>Z
 | f + 1, t, S => match t with
  | [] => N S
  | _ :: _ => match kaU t with
   | none => none
   | some (lo, u) => match t.drop u with
    | 45 :: t' => match kaU t' with
     | none => none
     | some (hi, lD) => if hi < lo then none else lsP f (t'.drop lD) (orS S (kbg lo.toNat hi.toNat))
    | t' => lsP f t' (orS S (kbg lo.toNat lo.toNat))
def ka7 (T:List UInt8):Nat→Nat→Option Nat
 |0,_=>Z
 | f + 1, k => match T[k]? with
  | none => none
  | some b => if b = 93 then some (k + 1) else if b = 92 then (match T[k + 1]? with
    | none => none
    | some _ => ka7 T f (k + 2))
   else ka7 T f (k + 1)
def kcA (T:List UInt8) (k:Nat):Option (LS×Nat):=
 let mO:=if T[k]? =N 94 then k+1 else k
 match ka7 T (T.length+1) mO with
 |none=>none
 | some e => match lsP (e - 1 - mO + 1) ((T.drop mO).take (e - 1 - mO)) kad with
  | none => none
  | some S => some (if T[k]? = some 94 then kah S else S, e)
def mas (T:List UInt8):Nat→Nat→Nat→Option (Nat×Nat)
 |0,_,_=>Z
 | f + 1, k, n => match T[k]? with
  | none => some (n, k)
  | some b => if 48 ≤ b ∧ b ≤ 57 then (if 64 < n * 10 + (b.toNat - 48) then none else mas T f (k + 1) (n * 10 + (b.toNat - 48))) else some (n, k)
def kaW (T:List UInt8) (k:Nat):Option (Nat×Nat):=match mas T (T.length+1) k 0 with
 |none=>none
 |some (n,e)=>if e=k∨(T[k]? =some 48∧k+1<e) then none else some (n,e)
def kby (T:List UInt8) (k:Nat):Option (Option (Int×Int)×Nat):=
 if T[k]? =N 42 then N (N (0, -1),k+1)
 else if T[k]? =N 43 then N (N (1, -1),k+1)
 else if T[k]? =N 63 then N (N (0,1),k+1)
 else if T[k]? = N 123 then match kaW T (k + 1) with
  | none => none
  | some (lo, k1) =>
   if T[k1]? = N 44 then
    (if k1 + 1 < T.length ∧ T[k1 + 1]? ≠ N 125 then match kaW T (k1 + 1) with
     | none => none
     | some (hi, bS) => if T[bS]? = some 125 ∧ lo ≤ hi then some (some ((lo : Int), (hi : Int)), bS + 1) else none
    else if T[k1 + 1]? = N 125 then N (N ((lo : Int), -1), k1 + 2) else Z)
   else if T[k1]? = N 125 then N (N ((lo : Int), (lo : Int)), k1 + 1) else Z
 else N (Z,k)
def kcv (T:List UInt8) (E:Nat→Option (Rx×Nat)) (k:Nat):Option (Rx×Nat):=match T[k]? with
 |none=>none
 | some b =>
  if b = 92 then match kaO T (k + 1) with
   | none => none
   | some (x, k') => some (Rx.one x, k')
  else if b = 46 then N (Rx.set ka2, k + 1)
  else if b = 91 then match kcA T (k + 1) with
   | none => none
   | some (S, k') => some (Rx.set S, k')
  else if b = 40 then match E (k + 1) with
   | none => none
   | some (r, k') => if T[k']? = some 41 then some (r, k' + 1) else none
  else if specials.contains b then Z
  else N (Rx.one b, k + 1)
def kbH (T:List UInt8):Nat→Rx→Nat→Option (Rx×Nat)
 |0,_,_=>Z
 | f + 1, r, k => match kby T k with
  | none => none
  | some (none, k') => some (r, k')
  | some (some (lo, hi), k') => kbH T f (Rx.rep lo hi r) k'
def kbu (T:List UInt8) (k:Nat):Bool:=decide (T.length≤k)||T[k]? ==N 124||T[k]? ==N 41
def kbQ (T:List UInt8) (E:Nat→Option (Rx×Nat)):Nat→List Rx→Nat→Option (List Rx×Nat)
 |0,_,_=>Z
 | f + 1, l, k => if kbu T k then N (l, k) else match kcv T E k with
  | none => none
  | some (r, k1) => match kbH T (T.length + 1) r k1 with
   | none => none
   | some (hb, bS) => kbQ T E f (l ++ [hb]) bS
def kbL (T:List UInt8) (E:Nat→Option (Rx×Nat)) (k:Nat):Option (Rx×Nat):=match kbQ T E (T.length+1) [] k with
 |none=>none
 |some (l,k')=>some (Rx.seq l,k')
def kcf (T:List UInt8) (E:Nat→Option (Rx×Nat)):Nat→List Rx→Nat→Option (List Rx×Nat)
 |0,_,_=>Z
 | f + 1, l, k => if T[k]? = N 124 then match kbL T E (k + 1) with
   | none => none
   | some (r, k') => kcf T E f (l ++ [r]) k'
  else N (l, k)
def kbG (T:List UInt8):Nat→Nat→Option (Rx×Nat)
 |0,_=>Z
 | n + 1, k => match kbL T (kbG T n) k with
  | none => none
  | some (r, k1) => match kcf T (kbG T n) (T.length + 1) [r] k1 with
   | none => none
   | some (l, bS) => some (Rx.alt l, bS)
def khZ (h:P:=by rename_i ak;have:=kaj ak;injection h with h;injection h with af ao;omega):=h
def klb (h:P:=by
 split at h
 .rename_i an;have:=kaj an;injection h with h;injection h with af ao;omega
 .cases h):=h
variable {T:List UInt8}
theorem kaj {k:Nat} {b:UInt8} (h:T[k]? =N b):k<T.length:=by
 rcases ug1 k T.length with af|af
 .exact af
 .rw[ud5 af] at h;cases h
theorem kkK {k d k':Nat} (h:kaG T k=N (d,k')):k'=k+1∧k<T.length:=by
 unfold kaG at h;split at h
 .cases h
 .rename_i b ak;split at h
  .cases h
  .injection h with h;injection h with af ao;exact ⟨ao.symm,kaj ak⟩
theorem khr {k k':Nat} {x:UInt8} (h:kaO T k=N (x,k')):k<k'∧k'≤T.length:=by
 unfold kaO at h;split at h
 .cases h
 rename_i b ak;have az:=kaj ak;split at h
 .injection h with h;injection h with af ao;omega
 split at h
 .injection h with h;injection h with af ao;omega
 split at h
 .injection h with h;injection h with af ao;omega
 split at h
 .split at h
  .cases h
  rename_i af k1 aL;split at h
  .cases h
  rename_i ao bS bJ;have:=kkK aL;have:=kkK bJ;injection h with h;injection h with af ao;omega
 split at h
 .injection h with h;injection h with af ao;omega
 .cases h
theorem khs:∀(f k e:Nat),ka7 T f k=N e→k<e∧e≤T.length
 |0,_,_,h=>by cases h
 |f+1,k,e,h=>by
  unfold ka7 at h;split at h
  .cases h
  rename_i b ak;have az:=kaj ak;split at h
  .injection h with h;omega
  split at h
  .split at h
   .cases h
   .have:=khs f _ _ h;omega
  .have:=khs f _ _ h;omega
theorem kBF {k k':Nat} {S:LS} (h:kcA T k=N (S,k')):k<k'∧k'≤T.length:=by
 unfold kcA at h;simp only at h;split at h
 .cases h
 rename_i e aG;split at h
 .cases h
 injection h with h;injection h with af ao;have:=khs _ _ _ aG;split at this <;> omega
theorem kpV:∀(f k n m e:Nat),k≤T.length→mas T f k n=N (m,e)→k≤e∧e≤T.length
 |0,_,_,_,_,_,h=>by cases h
 |f+1,k,n,m,e,aw,h=>by
  unfold mas at h;split at h
  .injection h with h;injection h with af ao;omega
  rename_i b ak;have az:=kaj ak;split at h
  .split at h
   .cases h
   .have:=kpV f _ _ _ _ oM h;omega
  .injection h with h;injection h with af ao;omega
theorem kpX:∀(f k n m e:Nat),n≤64→mas T f k n=N (m,e)→m≤64
 |0,_,_,_,_,_,h=>by cases h
 |f+1,k,n,m,e,aw,h=>by
  unfold mas at h;split at h
  .injection h with h;injection h with af ao;omega
  split at h
  .split at h
   .cases h
   .exact kpX f _ _ _ _ oM h
  .injection h with h;injection h with af ao;omega
theorem khj {k n e:Nat} (aw:k≤T.length) (h:kaW T k=N (n,e)):k<e∧e≤T.length∧n≤64:=by
 unfold kaW at h;split at h
 .cases h
 rename_i m ek aG;split at h
 .cases h
 rename_i ch;injection h with h;injection h with af ao;subst af ao;have af:=kpV _ _ _ _ _ aw aG;have ao:=kpX _ _ _ _ _ oM aG;simp only[ul6] at ch;omega
theorem ke9 {k k':Nat} {c:Option (Int×Int)} (aw:k≤T.length) (h:kby T k=N (c,k')):k≤k'∧k'≤T.length∧(c≠Z→k<k'):=by
 unfold kby at h;split at h
 .exact khZ
 split at h
 .exact khZ
 split at h
 .exact khZ
 split at h
 .rename_i ak;have az:=kaj ak;split at h
  .cases h
  rename_i lo k1 aL;have af:=khj oM aL;split at h
  .rename_i cm;have ew:=kaj cm;split at h
   .split at h
    .cases h
    rename_i hi bS bJ;have ao:=khj oM bJ;split at h
    .rename_i an;have:=kaj an.1;injection h with h;injection h with af ao;omega
    .cases h
   exact klb
  exact klb
 .injection h with h;injection h with af ao;exact ⟨oM,oM,fun an=>absurd af.symm an⟩
theorem kgX {E:Nat→Option (Rx×Nat)} {k k':Nat} {r:Rx} (ce:∀ k k' r,k≤T.length→E k=N (r,k')→k≤k'∧k'≤T.length) (h:kcv T E k=N (r,k')):k<k'∧k'≤T.length:=by exact kmi
theorem khz:∀(f k k':Nat) (r hb:Rx),k≤T.length→kbH T f r k=N (hb,k')→k≤k'∧k'≤T.length
 |0,_,_,_,_,_,h=>by cases h
 |f+1,k,k',r,hb,aw,h=>by
  unfold kbH at h;split at h
  .cases h
  .rename_i k1 aL;have:=ke9 aw aL;injection h with h;injection h with af ao;omega
  .rename_i lo hi k1 aL;have:=ke9 aw aL;have:=khz f _ _ _ _ oM h;omega
theorem kn6 {E:Nat→Option (Rx×Nat)} (ce:∀ k k' r,k≤T.length→E k=N (r,k')→k≤k'∧k'≤T.length):∀(f k k':Nat) (l l':List Rx),k≤T.length→kbQ T E f l k=N (l',k')→k≤k'∧k'≤T.length
 |0,_,_,_,_,_,h=>by cases h
 |f+1,k,k',l,l',aw,h=>by
  unfold kbQ at h;split at h
  .injection h with h;injection h with af ao;omega
  split at h
  .cases h
  rename_i d5 k1 aL;have af:=kgX ce aL;split at h
  .cases h
  rename_i fM bS bJ;have ao:=khz _ _ _ _ _ oM bJ;have:=kn6 ce f _ _ _ _ oM h;omega
theorem kdO {E:Nat→Option (Rx×Nat)} {k k':Nat} {r:Rx} (ce:∀ k k' r,k≤T.length→E k=N (r,k')→k≤k'∧k'≤T.length) (aw:k≤T.length) (h:kbL T E k=N (r,k')):k≤k'∧k'≤T.length:=by
 unfold kbL at h;split at h
 .cases h
 rename_i l k1 aL;have:=kn6 ce _ _ _ _ _ aw aL;injection h with h;injection h with af ao;omega
theorem kr7 {E:Nat→Option (Rx×Nat)} (ce:∀ k k' r,k≤T.length→E k=N (r,k')→k≤k'∧k'≤T.length):∀(f k k':Nat) (l l':List Rx),k≤T.length→kcf T E f l k=N (l',k')→k≤k'∧k'≤T.length
 |0,_,_,_,_,_,h=>by cases h
 |f+1,k,k',l,l',aw,h=>by
  unfold kcf at h;split at h
  .rename_i ak;have az:=kaj ak;split at h
   .cases h
   rename_i d5 k1 aL;have af:=kdO ce oM aL;have:=kr7 ce f _ _ _ _ oM h;omega
  .injection h with h;injection h with af ao;omega
theorem ke7:∀(n k k':Nat) (r:Rx),k≤T.length→kbG T n k=N (r,k')→k≤k'∧k'≤T.length
 |0,_,_,_,_,h=>by cases h
 |n+1,k,k',r,aw,h=>by
  have bQ:=ke7 n;unfold kbG at h;split at h
  .cases h
  rename_i d5 k1 aL;have af:=kdO bQ aw aL;split at h
  .cases h
  rename_i l bS bJ;have ao:=kr7 bQ _ _ _ _ _ oM bJ;injection h with h;injection h with af ao;omega
theorem kwh {f k n:Nat} {b:UInt8} (ak:T[k]? =N b):mas T (f+1) k n=if 48≤b∧b≤57 then (if 64<n*10+(b.toNat-48) then Z else mas T f (k+1) (n*10+(b.toNat-48))) else N (n,k):=by rw[mas,ak]
end Go.Proofs.YtamhdmkolfmmdaaGreatDoor
namespace Go.Proofs.YtamhdmkolfmmdaaGreatDoor
open Go.RowKit
variable {P:Prop}
structure Kept (F:Nat→Prop) (w w':O):Prop where
 os:w'.os=w.os
 tape:w'.tape=w.tape
 output:w'.output=w.output
 size:w.heap.size≤w'.heap.size
 block:∀ i,i<w.heap.size→¬F i→w'.heap[i]? =w.heap[i]?
def khO (F:Nat→Prop) (n:Nat):Nat→Prop:=fun i=>F i∨n≤i
def isG (g:Nat):Nat→Prop:=fun i=>i=g
def Kept.refl (F:Nat→Prop) (w:O):Kept F w w:=⟨rfl,rfl,rfl,nR,fun _ _ _=>rfl⟩
def Kept.trans {F:Nat→Prop} {a b c:O} (h:Kept F a b) (k:Kept (khO F a) b c):Kept F a c:=
 ⟨k.os.trans h.os, k.tape.trans h.tape, k.output.trans h.output, uc9 h.size k.size, fun i hi hF =>
  (k.block i (ua7 hi h.size) (by rintro (af | af); exact hF af; omega)).trans (h.block i hi hF)⟩
def Kept.mono {F G:Nat→Prop} {a b:O} (h:Kept F a b) (Ya:∀ i,F i→G i):Kept G a b:=
 ⟨h.os,h.tape,h.output,h.size,fun i hi el=>h.block i hi fun hF=>el (Ya i hF)⟩
def Kept.maa {F:Nat→Prop} {a b c:O} (h:Kept F a b) (k:Kept F b c):Kept F a c:=h.trans (k.mono fun _ hi=> .inl hi)
def Kept.mbH {F:Nat→Prop} {a b:O} {row:Option Nat} (h:a.grownBy b row) (hF:∀ g,row=N g→F g):Kept F a b:=
 ⟨h.os,h.tape,h.output,h.size,fun i hi ch=>h.block i hi fun e=>ch (hF i e.symm)⟩
def Kept.of_below {F:Nat→Prop} {a b:O} (h:H a a b):Kept F a b:=Kept.mbH (kbR h Z) (fun _ e=>by cases e)
def Kept.cell {F:Nat→Prop} {a b:O} (h:Kept F a b) {p:ae} (aO:p.block<a.heap.size) (hF:¬F p.block):b.cell? p=a.cell? p:=ue6 (h.block _ aO hF)
def Kept.below {F:Nat→Prop} {B:Nat} {a b c:O} (h:Kept F b c) (ak:H B a b) (b0:B≤b.heap.size) (hF:∀ i,F i→B≤i):H B a c:=
 ⟨h.os.trans ak.os,h.tape.trans ak.tape,h.output.trans ak.output,uc9 ak.size h.size,fun k aw=>(h.block k oM fun b5=>by have:=hF k b5;omega).trans (ak.block k aw)⟩
def Kept.setCell {F:Nat→Prop} {a b:O} (h:Kept F a b) {p:ae} (aO:F p.block∨a.heap.size≤p.block) (u:C):Kept F a (b.setCell p u):=
 h.trans ⟨rfl,rfl,rfl,by simp[World.setCell],fun i _ hF=>ud7 _ _ _ _ fun e=>by subst e;exact hF aO⟩
def Kept.alloc {F:Nat→Prop} {a b:O} (h:Kept F a b) (o:Obj):Kept F a (b.alloc o):=
 h.trans ⟨rfl,rfl,rfl,by simp,fun i hi _=>un2 _ _ _ hi⟩
def Kept.drew {F:Nat→Prop} {a b:O} (h:Kept F a b):Kept F a b.drew:=⟨h.os,h.tape,h.output,h.size,h.block⟩
def Kept.drewN {F:Nat→Prop} {a b:O} (h:Kept F a b) (n:Nat):Kept F a (b.drewN n):=⟨h.os,h.tape,h.output,h.size,h.block⟩
def Blk.kept {F:Nat→Prop} {w w':O} {g:Nat} {t:ah} {cs:Array C} (h:Blk w g t cs) (k:Kept F w w') (hg:¬F g):Blk w' g t cs:=(k.block g h.lt hg).trans h
def RdF (w:O) (F:Nat→Prop) (size:Nat) (A:Option ae) (n:Nat) (xs:List C):Prop:=
 xs.length=n*size∧(0<n→∃ b o,A=N ⟨b,o,Z⟩∧F b∧b<w.heap.size∧∀ j u,xs[j]? =N u→w.cell? ⟨b,o+j,Z⟩=N u)
def RdF.keep {w w':O} {F G:Nat→Prop} {size n:Nat} {A:Option ae} {xs:List C} (h:RdF w F size A n xs) (aw:∀ i,F i→i<w.heap.size→w'.heap[i]? =w.heap[i]?) (al:w.heap.size≤w'.heap.size) (el:∀ i,F i→i<w.heap.size→G i):RdF w' G size A n xs:=
 ⟨h.1,fun ax=>by obtain ⟨b,o,e,hF,ak,an⟩:=h.2 ax;exact ⟨b,o,e,el b hF ak,oM,fun j u aI=>(ue6 (aw b hF ak)).trans (an j u aI)⟩⟩
def RdF.reads {w:O} {F:Nat→Prop} {size n:Nat} {A:Option ae} {xs:List C} (h:RdF w F size A n xs):Reads w w size A n xs:=
 ⟨h.1,fun ax=>by obtain ⟨b,o,e,_,ak,an⟩:=h.2 ax;exact ⟨_,e,ak,fun j u aI=>by rw[kb8];exact an j u aI⟩⟩
mutual
def RxV (w:O) (F:Nat→Prop):Rx→List C→Prop
 | .node kind he aq aF a6 lo hi rA, cs => ∃ A c bV, cs = [I .i64 kind, I Y he, I Y aq, I Y aF, I Y a6, I U lo, I U hi, D A rA.length c] ∧
   RdF w F 8 A rA.length bV ∧ RxVs w F rA bV
def RxVs (w:O) (F:Nat→Prop):List Rx→List C→Prop
 |[],bV=>bV=[]
 |r::e7,bV=>∃ cs lG,bV=cs++lG∧RxV w F r cs∧RxVs w F e7 lG
end
mutual
theorem RxV.keep {w w':O} {F G:Nat→Prop} (aw:∀ i,F i→i<w.heap.size→w'.heap[i]? =w.heap[i]?) (al:w.heap.size≤w'.heap.size) (el:∀ i,F i→i<w.heap.size→G i):∀(r:Rx) (cs:List C),RxV w F r cs→RxV w' G r cs
 | .node _ _ _ _ _ _ _ rA,_,h=>by unfold RxV at h ⊢;obtain ⟨A,c,bV,af,ao,av⟩:=h;exact ⟨A,c,bV,af,ao.keep aw al el,RxVs.keep aw al el rA bV av⟩
theorem RxVs.keep {w w':O} {F G:Nat→Prop} (aw:∀ i,F i→i<w.heap.size→w'.heap[i]? =w.heap[i]?) (al:w.heap.size≤w'.heap.size) (el:∀ i,F i→i<w.heap.size→G i):∀(l:List Rx) (cs:List C),RxVs w F l cs→RxVs w' G l cs
 |[],_,h=>by unfold RxVs at h ⊢;exact h
 |r::e7,_,h=>by unfold RxVs at h ⊢;obtain ⟨cs,lG,af,ao,av⟩:=h;exact ⟨cs,lG,af,RxV.keep aw al el r cs ao,RxVs.keep aw al el e7 lG av⟩
end
def RxV.len {w:O} {F:Nat→Prop} {r:Rx} {cs:List C} (h:RxV w F r cs):cs.length=8:=by cases r;unfold RxV at h;obtain ⟨A,c,bV,rfl,_⟩:=h;rfl
theorem RxVs.append {w:O} {F:Nat→Prop} :∀ {l l':List Rx} {cs eo:List C},RxVs w F l cs→RxVs w F l' eo→RxVs w F (l++l') (cs++eo)
 |[],_,_,_,h,fg=>by unfold RxVs at h;subst h;exact fg
 |r::e7,_,_,_,h,fg=>by unfold RxVs at h;obtain ⟨cs,lG,rfl,ao,av⟩:=h;rw[ui4,uc2];unfold RxVs;exact ⟨_,_,rfl,ao,av.append fg⟩
def RxVs.one {w:O} {F:Nat→Prop} {r:Rx} {cs:List C} (h:RxV w F r cs):RxVs w F [r] cs:=by unfold RxVs RxVs;exact ⟨cs,[],by simp,h,rfl⟩
theorem RxVs.get {w:O} {F:Nat→Prop} :∀ {l:List Rx} {bV:List C},RxVs w F l bV→∀(i:Nat) (r:Rx),l[i]? =N r→∃ cs,RxV w F r cs∧∀ j u,cs[j]? =N u→bV[i*8+j]? =N u
 |[],_,_,i,r,am=>by simp at am
 |r0::e7,_,h,i,r,am=>by
  unfold RxVs at h;obtain ⟨cs,lG,rfl,ao,av⟩:=h
  cases i with
  |zero=>
   simp only[gB,ug0] at am;subst am
   exact ⟨cs,ao,fun j u aI=>by
    have:j<cs.length:=by
     rcases ug1 j cs.length with af|af
     .exact af
     .rw[ud5 af] at aI;cases aI
    rw[un4,ud3,ui1 this];exact aI⟩
  |succ i=>simp only[gC] at am;obtain ⟨eo,bk,cb⟩:=av.get i r am;exact ⟨eo,bk,fun j u aI=>by rw[uf4 (by rw[ao.len];omega),ao.len,show (i+1)*8+j-8=i*8+j by omega];exact cb j u aI⟩
def kcG (w:O) (r:Nat) (o:Obj):O:= { w with heap:=w.heap.setIfInBounds r o }
def kpj {w:O} {r:Nat} {o:Obj} (h:r<w.heap.size):(kcG w r o).heap[r]? =N o:=by simp[kcG,h]
def kpk {w:O} {r k:Nat} {o:Obj} (h:k≠r):(kcG w r o).heap[k]? =w.heap[k]? :=by simp[kcG,uj6 (Ne.symm h)]
section
variable {κ:Type} [DecidableEq κ]
def kbU (l:List (κ×C)) (k:κ):Option C:=match l with
 |[]=>Z
 |p::l=>if p.1=k then N p.2 else kbU l k
def kcb (l:List (κ×C)) (k:κ) (v:C):List (κ×C):=match l with
 |[]=>[(k,v)]
 |p::l=>if p.1=k then (k,v)::l else p::kcb l k v
theorem kxF (l:List (κ×C)) (k:κ) (v:C) (j:κ):kbU (kcb l k v) j=if k=j then N v else kbU l j:=by
 induction l with
 |nil=>simp[kcb,kbU]
 |cons p l bQ=>
  unfold kcb;by_cases h:p.1=k
  .rw[ua1 h];by_cases aS:k=j
   .simp[kbU,aS]
   .simp[kbU,aS,h]
  .rw[ua0 h];by_cases aO:p.1=j
   .have:k≠j:=fun e=>h (aO.trans e.symm);simp[kbU,aO,this]
   .simp only[kbU,ua0 aO,bQ]
end
section
variable {κ:Type} [DecidableEq κ] {P:Program}
def MapIs (w:O) (g:Nat) (fC:κ→C) (l:List (κ×C)):Prop:=
 ∃ hL sB,w.heap[g]? =N (.map hL sB)∧hL.toList.map (fun e=>(e.key,e.val))=l.map (fun p=>(fC p.1,p.2))
structure KeyEq (P:Program) (mJ:ah) (fC:κ→C) (w:O) (ok:κ→Prop):Prop where
 check:∀ k em,ok k→(Instr.checkKey em 10000 mJ (fC k)).run P w= .ok () w
 find:∀ k hL,ok k→(Instr.findKey mJ (fC k) hL).run P w=(Instr.findAsking mJ (fC k) hL).run P w
 eq:∀ a b,ok a→ok b→(Op.equal mJ (fC a) (fC b)).run P w= .ok (decide (a=b)) w
 bits:∀ k,ok k→Instr.sameBits 10000 (fC k) (fC k)=K
theorem kkB {mJ:ah} {fC:κ→C} {w:O} {ok:κ→Prop} (aR:KeyEq P mJ fC w ok) (k:κ) (aw:ok k):∀(hL:List MapEntry) (l:List (κ×C)) (i:Nat),
 (∀ p∈l,ok p.1)→hL.map (fun e=>(e.key,e.val))=l.map (fun p=>(fC p.1,p.2))→
 (kbU l k=Z∧(Instr.findAsking mJ (fC k) hL i).run P w= .ok Z w∧kcb l k undef=l++[(k,undef)]∧∀ v,kcb l k v=l++[(k,v)])∨
 (∃ j v e,kbU l k=N v∧(Instr.findAsking mJ (fC k) hL i).run P w= .ok (N (i+j,v)) w∧hL[j]? =N e∧e.key=fC k∧∀ u,kcb l k u=l.set j (k,u))
 |[],[],i,_,_=> .inl ⟨rfl,rfl,rfl,fun _=>rfl⟩
 |[],p::l,i,_,h=>by simp at h
 |e::hL,[],i,_,h=>by simp at h
 |e::hL,p::l,i,i8,h=>by
  simp only[uf5,un7,uq8] at h;obtain ⟨⟨af,ao⟩,av⟩:=h;have aG:=aR.eq k p.1 aw (i8 p (uf3 ..));by_cases lC:p.1=k
  .refine .inr ⟨0,p.2,e,by simp[kbU,lC],?_,rfl,by rw[af,lC],fun u=>by simp[kcb,lC]⟩;unfold Instr.findAsking;rw[af];rw[lC] at aG;simp[uh6,lC,aG,Result.andThen,ao]
  .have ch:decide (k=p.1)=J:=(by simpa using fun e=>lC e.symm);rcases kkB aR k aw hL l (i+1) (fun q bj=>i8 q (uf6 _ bj)) av with ⟨aY,bh,a3,a4⟩|⟨j,v,ek,aY,bh,a3,a4,a5⟩
   .refine .inl ⟨by simp[kbU,lC,aY],?_,by simp[kcb,lC,a3],fun v=>by simp[kcb,lC,a4]⟩;unfold Instr.findAsking;rw[af];simp[uh6,aG,ch,Result.andThen,bh]
   .refine .inr ⟨j+1,v,ek,by simp[kbU,lC,aY],?_,by simpa using a3,a4,fun u=>by simp[kcb,lC,a5]⟩;unfold Instr.findAsking;rw[af];simp[uh6,aG,ch,Result.andThen,bh];omega
theorem MapIs.lookup {w:O} {g:Nat} {fC:κ→C} {l:List (κ×C)} {mJ xK T:ah} {ok:κ→Prop} (h:MapIs w g fC l) (aR:KeyEq P mJ fC w ok) (dr:P.underlying T=N (.map mJ xK)) (az:∀ p∈l,ok p.1)
 {z:C} (bd:(zeroValue xK).run P w= .ok z w) (k:κ) (aw:ok k) (c:Bool):
 (Instr.lookup T (.map (N g)) (fC k) c).run P w= .ok (if c then ag #[(kbU l k).getD z,V (kbU l k).isSome] else (kbU l k).getD z) w:=by
 obtain ⟨hL,sB,ak,aG⟩:=h;have af:=aR.check k hL.isEmpty aw;have ao:=aR.find k hL.toList aw;rcases kkB aR k aw hL.toList l 0 az aG with ⟨aY,bh,_⟩|⟨j,v,e,aY,bh,_⟩
 .rw[bh] at ao;unfold Instr.lookup;cases c <;> simp[uh6,uf9 dr,uo1 ak,af,ao,bd,aY,Result.andThen]
 .rw[bh] at ao;unfold Instr.lookup;cases c <;> simp[uh6,uf9 dr,uo1 ak,af,ao,aY,Result.andThen]
theorem MapIs.update {w:O} {g:Nat} {fC:κ→C} {l:List (κ×C)} {mJ xK T:ah} {ok:κ→Prop} (h:MapIs w g fC l) (aR:KeyEq P mJ fC w ok) (dr:P.underlying T=N (.map mJ xK)) (az:∀ p∈l,ok p.1)
 (k:κ) (aw:ok k) (v:C):∃ w',(Instr.mapUpdate T (.map (N g)) (fC k) v).run P w= .ok () w'∧MapIs w' g fC (kcb l k v)∧w.grownBy w' (N g)∧w'.heap.size=w.heap.size:=by
 obtain ⟨hL,sB,ak,aG⟩:=h
 have hg:g<w.heap.size:=by
  rcases ug1 g w with h|h
  .exact h
  .rw[um4 h] at ak;cases ak
 have af:=aR.check k J aw;have ao:=aR.find k hL.toList aw;rcases kkB aR k aw hL.toList l 0 az aG with ⟨aY,bh,_,a4⟩|⟨j,cH,e,aY,bh,a3,a4,a5⟩
 .rw[bh] at ao;refine ⟨kcG w g (.map (hL.push { key:=fC k,val:=v,born:=sB }) (sB+1)),?_,⟨_,_,kpj hg,?_⟩,⟨rfl,rfl,rfl,by simp[kcG],fun i _ hi=>kpk fun e=>hi (by rw[e])⟩,by simp[kcG]⟩
  .unfold Instr.mapUpdate;simp[uh6,uf9 dr,uo1 ak,af,ao,Result.andThen,MapKept.run_setObj_map _ ak,kcG]
  .rw[a4,Array.toList_push,uj3,aG,uj3];rfl
 .rw[ud3] at bh;rw[bh] at ao;have Nm:(hL[j]?).map (·.key)=N (fC k):=(by rw[←ue9,a3];simp[a4]);have Nn:=aR.bits k aw;refine ⟨kcG w g (.map (hL.modify j fun e=> { e with key:=fC k,val:=v }) sB),?_,⟨_,_,kpj hg,?_⟩,⟨rfl,rfl,rfl,by simp[kcG],fun i _ hi=>kpk fun e=>hi (by rw[e])⟩,by simp[kcG]⟩
  .unfold Instr.mapUpdate;simp only[uh6,uf9 dr,uo1 ak,af,ao,Result.andThen];simp[Nm,Instr.keyThatStays,Nn,MapKept.run_setObj_map _ ak,kcG]
  .rw[a5];apply uh3;intro i;have HL:∀ i:Nat,(hL[i]?).map (fun e=>(e.key,e.val))=(l[i]?).map (fun p=>(fC p.1,p.2)):=fun i=>by have:=ud4 (fun q=>q[i]?) aG;simpa using this
   have aS:j<l.length:=by
    have:=HL j;rw[←ue9,a3] at this;rcases ug1 j l.length with h|h
    .exact h
    .rw[ud5 h] at this;cases this
   by_cases jf:j=i
   .subst jf
    have Dr:j<hL.size:=by
     rcases ug1 j hL.size with h|h
     .exact h
     .rw[ud5 (by simpa using h)] at a3;cases a3
    simp[aS,Dr]
   .simp[jf,HL i]
end
section
variable {κ:Type} [DecidableEq κ] {P:Program}
theorem ksE {w:O} {cD:Array Oper} {rest:List Oper} {o:Oper} {a:Act} {cY:Exit→Act→O→Prop} (hg:o.guard=Z) (m x v:Operand) (T:ah) (ba:o.op=Op.mapUpdate T m x v)
 (g:Nat) (fC:κ→C) (l:List (κ×C)) (mJ xK:ah) (ok:κ→Prop) (h:MapIs w g fC l) (aR:KeyEq P mJ fC w ok) (dr:P.underlying T=N (.map mJ xK)) (az:∀ p∈l,ok p.1)
 (k:κ) (aw:ok k) (bg:a.eval m= .map (N g)) (aA:a.eval x=fC k)
 (aJ:∀ w',MapIs w' g fC (kcb l k (a.eval v))→w.grownBy w' (N g)→w'.heap.size=w.heap.size→wpList P cD cY rest (a.put o.dst undef) w'):wpList P cD cY (o::rest) a w:=by
 refine wpList_plain hg fun hH X0=>?_;obtain ⟨w',mN,af,ao,av⟩:=h.update aR dr az k aw (a.eval v);unfold Oper.wp;simp[execOp,ba,bg,aA,mN,Result.andThen];exact X0 _ _ (aJ w' af ao av)
end
def MapIs.keep {κ:Type} {w w':O} {g:Nat} {fC:κ→C} {l:List (κ×C)} (h:MapIs w g fC l) (aw:w'.heap[g]? =w.heap[g]?):MapIs w' g fC l:=by obtain ⟨hL,sB,ak,aG⟩:=h;exact ⟨hL,sB,aw.trans ak,aG⟩
def MapIs.new {κ:Type} (w:O) (fC:κ→C) (c:Nat):MapIs (w.alloc (.map #[] c)) w fC []:=⟨#[],c,us5 w _,rfl⟩
end Go.Proofs.YtamhdmkolfmmdaaGreatDoor
namespace Go.Proofs.YtamhdmkolfmmdaaGreatDoor
variable {P:Prop}
inductive Lx where
 |node (ad:ae) (kind:Int) (text:List UInt8) (num:Int) (args:List Lx)
def Lx.ad:Lx→ae| .node a _ _ _ _=>a
def Lx.kind:Lx→Int| .node _ k _ _ _=>k
def Lx.text:Lx→List UInt8| .node _ _ t _ _=>t
def Lx.num:Lx→Int| .node _ _ _ n _=>n
def Lx.args:Lx→List Lx| .node _ _ _ _ l=>l
mutual
def Lx.size:Lx→Nat
 | .node _ _ _ _ l=>1+kfG l
def kfG:List Lx→Nat
 |[]=>0
 |x::l=>x.size+kfG l
end
mutual
def Lx.all (p:Lx→Bool):Lx→Bool
 | .node a k t n l=>p (.node a k t n l)&&kgm p l
def kgm (p:Lx→Bool):List Lx→Bool
 |[]=>K
 |x::l=>x.all p&&kgm p l
end
theorem koC:∀ {l:List Lx} {x:Lx},x∈l→x.size≤kfG l
 |aC::l,x,h=>by
  unfold kfG;rcases uc7.1 h with rfl|h
  .omega
  .have:=koC h;omega
def Lx.mcj {x a:Lx} (h:a∈x.args):a.size<x.size:=by obtain ⟨ad,k,t,n,l⟩:=x;have:=koC (show a∈l from h);show a.size<1+kfG l;omega
def Lx.size_pos (x:Lx):1≤x.size:=by cases x;unfold Lx.size;omega
theorem ksk (p:Lx→Bool):∀ l:List Lx,kgm p l=K↔∀ a∈l,a.all p=K
 |[]=>by simp[kgm]
 |x::l=>by simp[kgm,ksk p l]
def Lx.mcq (p:Lx→Bool) (x:Lx):x.all p=K↔p x=K∧∀ a∈x.args,a.all p=K:=by obtain ⟨ad,k,t,n,l⟩:=x;rw[Lx.all,uj0,ksk];rfl
inductive Sub:Lx→Lx→Prop where
 |refl (r:Lx):Sub r r
 |arg {x aC r:Lx} :x∈aC.args→Sub aC r→Sub x r
theorem Sub.all {p:Lx→Bool} {x r:Lx} (h:Sub x r) (am:r.all p=K):x.all p=K:=by
 induction h with
 |refl r=>exact am
 |arg af _ bQ=>exact ((Lx.mcq p _).1 (bQ am)).2 _ af
theorem Sub.size {x r:Lx} (h:Sub x r):x.size≤r.size:=by
 induction h with
 |refl r=>exact nR
 |arg af _ bQ=>have:=Lx.mcj af;omega
section
variable {p:Lx→Bool} {r:Lx} {s:List (ae×C)} {stk:List (Lx×Bool)} {out:List Lx}
end
end Go.Proofs.YtamhdmkolfmmdaaGreatDoor
namespace Go.Proofs.YtamhdmkolfmmdaaGreatDoor
open Go.RowKit
variable {P:Prop}
def kb3 {w:O} {base e size n:Nat} {v:C} {xs:List C} (h:w.ownsRow base e size v n xs) (ax:0<n):∃ g c,v=D (N ⟨g,0,Z⟩) n c∧n≤c∧base≤g∧g<w.heap.size∧∀ j u,xs[j]? =N u→w.cell? ⟨g,j,Z⟩=N u:=by
 obtain ⟨af,ao⟩:=h;rcases ao with ⟨_,rfl⟩|⟨g,cap,cur,au,av,bk,cb,dE,fi,hv⟩
 .omega
 .refine ⟨g,cap,au,cb,av,Blk.lt bk,fun j u aI=>?_⟩;rw[cell_of_row w g j cur e (0,0) bk];rw[←hv,uc4] at aI;split at aI
  .simpa using aI
  .cases aI
section
variable {w wr w':O} {HG n:Nat} {s s':List (ae×C)} {cs:List C} {out:List Lx} {fw MO v:C}
end
def kvx (w:O) (v:C) (t:ah):Reads (w.alloc (y #[v] t)) (w.heap.size+1) 1 (N ⟨w,0,Z⟩) 1 [v]:=
 ⟨rfl,fun _=>⟨_,rfl,by simp,fun j u aI=>kcI w #[v] t j u aI⟩⟩
end Go.Proofs.YtamhdmkolfmmdaaGreatDoor
namespace Go.Proofs.YtamhdmkolfmmdaaGreatDoor
variable {P:Prop}
def kaY (lo hi:Int):Nat:=if hi= -1 then max lo.toNat 1 else hi.toNat
mutual
def Rx.size:Rx→Nat
 | .node _ _ _ _ _ _ _ ps=>1+kam ps
def kam:List Rx→Nat
 |[]=>0
 |r::e7=>r.size+kam e7
end
mutual
def Rx.depth:Rx→Nat
 | .node _ _ _ _ _ _ _ ps=>1+ka3 ps
def ka3:List Rx→Nat
 |[]=>0
 |r::e7=>max r.depth (ka3 e7)
end
def kaM (kind:Nat):Nat:=if kind=2 then 1 else 0
def kaz (kind:Nat) (lo hi:Int) (n:Nat):Nat:=if kind=5 then n*kaY lo hi else n
mutual
def Rx.pos:Rx→Nat
 | .node kind _ _ _ _ lo hi ps=>kaz kind lo hi (kaM kind+kaE ps)
def kaE:List Rx→Nat
 |[]=>0
 |r::e7=>r.pos+kaE e7
end
mutual
def Rx.wri:Rx→Nat
 | .node kind _ _ _ _ lo hi ps=>kaz kind lo hi (kgP ps)+1
def kgP:List Rx→Nat
 |[]=>0
 |r::e7=>r.wri+kgP e7
end
def Rx.fits (r:Rx):Bool:=decide (r.size≤256)&&decide (r.depth≤32)&&decide (r.pos≤64)&&decide (r.wri≤4096)
mutual
def Rx.mat:Rx→Prop
 | .node kind he aq aF a6 lo hi ps=>kind≤5∧he<2^64∧aq<2^64∧aF<2^64∧a6<2^64∧0≤lo∧lo≤64∧ -1≤hi∧hi≤64∧kar ps
def kar:List Rx→Prop
 |[]=>True
 |r::e7=>r.mat∧kar e7
end
theorem kgY:∀ {l l':List Rx},kar l→kar l'→kar (l++l')
 |[],_,_,h=>h
 |r::e7,l',h,fg=>by unfold kar at h;rw[ui4];unfold kar;exact ⟨h.1,kgY h.2 fg⟩
theorem kcW:∀ {l:List Rx} {i:Nat} {r:Rx},kar l→l[i]? =N r→r.mat
 |[],i,r,_,am=>by simp at am
 |r0::e7,i,r,h,am=>by
  unfold kar at h
  cases i with
  |zero=>simp only[gB,ug0] at am;subst am;exact h.1
  |succ i=>exact kcW h.2 (by simpa using am)
def Rx.size_pos (r:Rx):1≤r.size:=by cases r;unfold Rx.size;omega
theorem ki9:∀(l l':List Rx),kam (l++l')=kam l+kam l'
 |[],_=>by simp[kam]
 |r::e7,l'=>by rw[ui4,kam,kam,ki9 e7 l'];omega
def kfH (l:List Rx) (i:Nat) (r:Rx) (h:l[i]? =N r):kam (l.take (i+1))=kam (l.take i)+r.size:=by rw[ue0,h,ki9];simp[kam]
def kg3 (l:List Rx) (i:Nat):kam (l.take i)≤kam l:=by
 conv=>rhs;rw[←ug3 i l,ki9]
 omega
theorem khv:∀(l l':List Rx),ka3 (l++l')=max (ka3 l) (ka3 l')
 |[],_=>by simp[ka3]
 |r::e7,l'=>by rw[ui4,ka3,ka3,khv e7 l'];omega
def kAT {l:List Rx} {i:Nat} {r:Rx} (h:l[i]? =N r):r.depth≤ka3 l:=by have:l=l.take i++r::l.drop (i+1):=(by obtain ⟨hi,rfl⟩:=ue1.1 h;rw[List.getElem_cons_drop,ug3]);rw[this,khv,ka3];omega
theorem kkM {l:List Rx} {n:Nat} (h:∀(i:Nat) (r:Rx),l[i]? =N r→r.depth≤n):ka3 l≤n:=by
 induction l with
 |nil=>simp[ka3]
 |cons r e7 bQ=>rw[ka3];have aD:=h 0 r rfl;have:=bQ fun i hb am=>h (i+1) hb (by simpa using am);omega
def kbO:Nat:=1048576
def Rx.mbu (r:Rx):Nat:=min r.pos kbO
def Rx.mbv (r:Rx):Nat:=min r.wri kbO
def kav (f:Rx→Nat):List Rx→Nat
 |[]=>0
 |r::e7=>f r+kav f e7
theorem kol (f:Rx→Nat):∀(l l':List Rx),kav f (l++l')=kav f l+kav f l'
 |[],_=>by simp[kav]
 |r::e7,l'=>by rw[ui4,kav,kav,kol f e7 l'];omega
def kgZ (f:Rx→Nat) (l:List Rx) (i:Nat) (r:Rx) (h:l[i]? =N r):kav f (l.take (i+1))=kav f (l.take i)+f r:=by rw[ue0,h,kol];simp[kav]
theorem kok (f:Rx→Nat) (M:Nat) (b5:∀ r,f r≤M):∀ l:List Rx,kav f l≤l.length*M
 |[]=>by simp[kav]
 |r::e7=>by rw[kav,uc8,Nat.add_mul];have:=b5 r;have:=kok f M b5 e7;omega
def kp5 (a b c M:Nat) (h:min a M=min b M):min (a*c) M=min (b*c) M:=by
 rcases ul5 c with aD|aD
 .subst aD;simp
 .by_cases aE:a<M
  .have:a=b:=oM;rw[this]
  .have:M≤b:=oM;have aL:M≤a*c:=uc9 oM (Nat.le_mul_of_pos_right a aD);have bJ:M≤b*c:=uc9 this (Nat.le_mul_of_pos_right b aD);omega
def kp3 {kind:Nat} {lo hi:Int} {a b M:Nat} (h:min a M=min b M):min (kaz kind lo hi a) M=min (kaz kind lo hi b) M:=by
 unfold kaz;split
 .exact kp5 _ _ _ _ h
 .exact h
theorem kpp (M:Nat):∀ l:List Rx,min (kav (fun r=>min r.pos M) l) M=min (kaE l) M
 |[]=>rfl
 |r::e7=>by rw[kav,kaE];have:=kpp M e7;omega
theorem knG (M:Nat):∀ l:List Rx,min (kav (fun r=>min r.wri M) l) M=min (kgP l) M
 |[]=>rfl
 |r::e7=>by rw[kav,kgP];have:=knG M e7;omega
def kjy (kind he aq aF a6:Nat) (lo hi:Int) (ps:List Rx) (M:Nat):min (kaz kind lo hi (kaM kind+kav (fun r=>min r.pos M) ps)) M=min (Rx.pos (.node kind he aq aF a6 lo hi ps)) M:=by rw[Rx.pos];apply kp3;have:=kpp M ps;omega
def kiL (kind he aq aF a6:Nat) (lo hi:Int) (ps:List Rx) (M:Nat):min (kaz kind lo hi (kav (fun r=>min r.wri M) ps)+1) M=min (Rx.wri (.node kind he aq aF a6 lo hi ps)) M:=by rw[Rx.wri];have:=kp3 (kind:=kind) (lo:=lo) (hi:=hi) (knG M ps);omega
theorem kgQ (S:LS) (i:Nat):∀ n,wdN S i n<2^n
 |0=>by simp[wdN]
 |n+1=>by have:=kgQ S i n;rw[wdN,Nat.pow_succ];split <;> omega
theorem knM (S:LS) (i:Nat):∀ n j,(wdN S i n).testBit j=(decide (j<n)&&S (64*i+j))
 |0,j=>by simp[wdN]
 |n+1,j=>by
  have bQ:=knM S i n;have bG:=kgQ S i n;rw[wdN];by_cases dO:S (64*i+n)=K
  .rw[ua1 dO,ut8];rcases us8 j n with h|h|h
   .rw[Nat.testBit_two_pow_add_gt h,bQ];simp[h,Nat.lt_succ_of_lt h]
   .subst h;rw[Nat.testBit_two_pow_add_eq,bQ];simp[dO]
   .rw[Nat.testBit_lt_two_pow (ua7 (by omega:2^n+wdN S i n<2^(n+1)) (ur8 oM oM))];simp;omega
  .rw[ua0 dO,uh4,bQ];rcases us8 j n with h|h|h
   .simp[h,Nat.lt_succ_of_lt h]
   .subst h;simp[dO]
   .rw[ua5 oM,ua5 oM]
def kc3 (S:LS) (i:Nat):wd S i<2^64:=kgQ S i 64
def keE (S:LS) (i j:Nat):(wd S i).testBit j=(decide (j<64)&&S (64*i+j)):=knM S i 64 j
def keD {S:LS} {i x:Nat} (h:∀ j,x.testBit j=(decide (j<64)&&S (64*i+j))):x=wd S i:=
 Nat.eq_of_testBit_eq fun j=>by rw[h,keE]
def kc4 {S R:LS} {i:Nat} (h:∀ j,j<64→S (64*i+j)=R (64*i+j)):wd S i=wd R i:=
 keD fun j=>by
  rw[keE];by_cases aS:j<64
  .rw[h j aS]
  .simp[aS]
def kbJ (i:Nat):wd kad i=0:=(keD fun j=>by simp[kad]).symm
def kfx (S R:LS) (i:Nat):wd (orS S R) i=wd S i|||wd R i:=(keD fun j=>by rw[Nat.testBit_or,keE,keE];cases decide (j<64) <;> simp[orS]).symm
def ksO (b:Nat):wd (kaa b) (b / 64)=2^(b % 64):=(keD fun j=>by rw[Nat.testBit_two_pow];unfold kaa;rw[uk5];simp;omega).symm
def ksN {b i:Nat} (h:i≠b / 64):wd (kaa b) i=0:=(keD fun j=>by unfold kaa;simp;intro aS;omega).symm
def ksP (S:LS) (i:Nat):wd (kah S) i=2^64-1-wd S i:=(keD fun j=>by have:=kc3 S i;rw[show 2^64-1-wd S i=2^64-(wd S i+1) by omega,Nat.testBit_two_pow_sub_succ this,keE];unfold kah;cases h:decide (j<64) <;> simp).symm
def wds (S:LS):List Nat:=[wd S 0,wd S 1,wd S 2,wd S 3]
theorem ksL (S:LS) {i:Nat} (h:i<4):(wds S)[i]? =N (wd S i):=by
 match i,h with
 |0,_=>rfl
 |1,_=>rfl
 |2,_=>rfl
 |3,_=>rfl
theorem ksK (S:LS) (b:Nat) (ak:b<256):wds (orS S (kaa b))=(wds S).set (b / 64) (wd S (b / 64)|||2^(b % 64)):=by
 have h:b / 64<4:=oM;have e:=ksO b;have o:=fun i (hi:i≠b / 64)=>ksN (b:=b) hi;unfold wds;rw[kfx,kfx,kfx,kfx];generalize b / 64=q at*
 match q,h with
 |0,_=>rw[e,o 1 oM,o 2 oM,o 3 oM];simp
 |1,_=>rw[e,o 0 oM,o 2 oM,o 3 oM];simp
 |2,_=>rw[e,o 0 oM,o 1 oM,o 3 oM];simp
 |3,_=>rw[e,o 0 oM,o 1 oM,o 2 oM];simp
def kdK {S R:LS} (h:∀ n,n<256→S n=R n):wds S=wds R:=by unfold wds;rw[kc4 (S:=S) (R:=R) (i:=0) fun j aS=>h _ oM,kc4 (S:=S) (R:=R) (i:=1) fun j aS=>h _ oM,kc4 (S:=S) (R:=R) (i:=2) fun j aS=>h _ oM,kc4 (S:=S) (R:=R) (i:=3) fun j aS=>h _ oM]
def kgr (h:P:=by injection h with h;injection h with af ao;subst af;exact Rx.mcm _):=h
def klz (h:P:=by
 match l,h with
 |[],h=>exact Rx.mbS oM h
 |[r],h=>unfold kar at h;exact h.1
 |r::q::l,h=>exact Rx.mbS oM h):=h
variable {T:List UInt8}
theorem Rx.mcm (S:LS):(Rx.set S).mat:=by unfold Rx.set Rx.mat kar;exact ⟨oM,kc3 _ _,kc3 _ _,kc3 _ _,kc3 _ _,oM,oM,oM,oM,trivial⟩
theorem Rx.mbS {kind:Nat} {l:List Rx} (aw:kind≤5) (h:kar l):(Rx.plain kind l).mat:=by unfold Rx.plain Rx.mat;exact ⟨aw,dC,dC,dC,dC,oM,oM,oM,oM,h⟩
theorem Rx.mck {lo hi:Int} {r:Rx} (h:r.mat) (af:0≤lo) (ao:lo≤64) (av: -1≤hi) (bk:hi≤64):(Rx.rep lo hi r).mat:=by unfold Rx.rep Rx.mat kar kar;exact ⟨oM,dC,dC,dC,dC,af,ao,av,bk,h,trivial⟩
theorem Rx.mcl {l:List Rx} (h:kar l):(Rx.seq l).mat:=by exact klz
theorem Rx.mcn {l:List Rx} (h:kar l):(Rx.alt l).mat:=by exact klz
theorem kBw {k k':Nat} {lo hi:Int} (h:kby T k=N (N (lo,hi),k')):0≤lo∧lo≤64∧ -1≤hi∧hi≤64:=by exact kmk
theorem ktF {E:Nat→Option (Rx×Nat)} {k k':Nat} {r:Rx} (ce:∀ k k' r,k≤T.length→E k=N (r,k')→r.mat) (h:kcv T E k=N (r,k')):r.mat:=by
 unfold kcv at h;split at h
 .cases h
 rename_i b ak;have az:=kaj ak;split at h
 .split at h
  .cases h
  exact kgr
 split at h
 .exact kgr
 split at h
 .split at h
  .cases h
  exact kgr
 split at h
 .split at h
  .cases h
  rename_i x k1 aL;have:=ce _ _ _ oM aL;split at h
  .injection h with h;injection h with af ao;subst af;exact this
  .cases h
 split at h
 .cases h
 .exact kgr
theorem krR:∀(f k k':Nat) (r hb:Rx),k≤T.length→r.mat→kbH T f r k=N (hb,k')→hb.mat
 |0,_,_,_,_,_,_,h=>by cases h
 |f+1,k,k',r,hb,aw,am,h=>by
  unfold kbH at h;split at h
  .cases h
  .injection h with h;injection h with af ao;subst af;exact am
  .rename_i lo hi k1 aL;have af:=ke9 aw aL;have ao:=kBw aL;exact krR f _ _ _ _ oM (Rx.mck am ao.1 ao.2.1 ao.2.2.1 ao.2.2.2) h
theorem kn4 {E:Nat→Option (Rx×Nat)} (aO:∀ k k' r,k≤T.length→E k=N (r,k')→k≤k'∧k'≤T.length) (ce:∀ k k' r,k≤T.length→E k=N (r,k')→r.mat):∀(f k k':Nat) (l l':List Rx),k≤T.length→kar l→kbQ T E f l k=N (l',k')→kar l'
 |0,_,_,_,_,_,_,h=>by cases h
 |f+1,k,k',l,l',aw,az,h=>by
  unfold kbQ at h;split at h
  .injection h with h;injection h with af ao;subst af;exact az
  split at h
  .cases h
  rename_i d5 k1 aL;have af:=kgX aO aL;have bb:=ktF ce aL;split at h
  .cases h
  rename_i fM bS bJ;have ao:=khz _ _ _ _ _ oM bJ;have db:=krR _ _ _ _ _ oM bb bJ;exact kn4 aO ce f _ _ _ _ oM (kgY az (by unfold kar kar;exact ⟨db,trivial⟩)) h
theorem kn2 {E:Nat→Option (Rx×Nat)} {k k':Nat} {r:Rx} (aO:∀ k k' r,k≤T.length→E k=N (r,k')→k≤k'∧k'≤T.length) (ce:∀ k k' r,k≤T.length→E k=N (r,k')→r.mat) (aw:k≤T.length) (h:kbL T E k=N (r,k')):r.mat:=by
 unfold kbL at h;split at h
 .cases h
 rename_i l k1 aL;have:=kn4 aO ce _ _ _ _ _ aw (by unfold kar;trivial) aL;injection h with h;injection h with af ao;subst af;exact Rx.mcl this
theorem kr6 {E:Nat→Option (Rx×Nat)} (aO:∀ k k' r,k≤T.length→E k=N (r,k')→k≤k'∧k'≤T.length) (ce:∀ k k' r,k≤T.length→E k=N (r,k')→r.mat):∀(f k k':Nat) (l l':List Rx),k≤T.length→kar l→kcf T E f l k=N (l',k')→kar l'
 |0,_,_,_,_,_,_,h=>by cases h
 |f+1,k,k',l,l',aw,az,h=>by
  unfold kcf at h;split at h
  .rename_i ak;have dR:=kaj ak;split at h
   .cases h
   rename_i d5 k1 aL;have af:=kdO aO oM aL;have bb:=kn2 aO ce oM aL;exact kr6 aO ce f _ _ _ _ oM (kgY az (by unfold kar kar;exact ⟨bb,trivial⟩)) h
  .injection h with h;injection h with af ao;subst af;exact az
theorem khq:∀(n k k':Nat) (r:Rx),k≤T.length→kbG T n k=N (r,k')→r.mat
 |0,_,_,_,_,h=>by cases h
 |n+1,k,k',r,aw,h=>by
  have bQ:=khq n;have aO:=ke7 (T:=T) n;unfold kbG at h;split at h
  .cases h
  rename_i d5 k1 aL;have af:=kdO aO aw aL;have bb:=kn2 aO bQ aw aL;split at h
  .cases h
  rename_i l bS bJ;have db:=kr6 aO bQ _ _ _ _ _ oM (by unfold kar kar;exact ⟨bb,trivial⟩) bJ;injection h with h;injection h with af ao;subst af;exact Rx.mcn db
def kbw (T:List UInt8):Option Rx:=match kbG T (T.length+1) 0 with
 |some (r,k)=>if k=T.length then some r else none
 |none=>none
end Go.Proofs.YtamhdmkolfmmdaaGreatDoor
namespace Go.Proofs.YtamhdmkolfmmdaaGreatDoor
open Go.RowKit
variable {P:Prop}
def klx (h:P:=by go_enter func138,ntmps138;go_wp2_with fail;go_quiet (fail);go_wp2_with fail;go_ret;exact ⟨rfl,eR.o.drewN _,(Kept.refl _ _).drewN _⟩):=h
def kmf (h:P:=by obtain ⟨aN,aM,bE⟩:=h.cells;have az:=kaj ak;have g4:=kaX (P:=prog) underlying9 ak;have dN:=bZ T;(first|guard_hyp HM;have ch:((k:Int)==(T.length:Int))=J:=by simp;omega|have ch:decide ((k:Int)<(T.length:Int))=K:=by simp;omega);have dr:=h.2.2;have eR:=hD h;have aV:=hD ak;clear h ak;(first|guard_hyp HM;go_enter func202,ntmps202;go_wp2_with fail;go_quiet (fail)|go_enter func138,ntmps138);go_wp2_with fail;go_quiet (fail);go_wp2_with fail;go_ret;exact ⟨rfl,eR.o.moved _ oM rfl⟩):=h
def u8b (b:UInt8):0≤(b.toNat:Int)∧(b.toNat:Int)≤255:=by have:=b.toNat_lt;omega
def PS (T:List UInt8) (w:O) (g k:Nat):Prop:=Blk w g 150 #[Q ⟨T.toArray⟩,I U k]∧k≤T.length∧T.length≤262144
def kAd:List PanicEntry:=[{ v:= .iface 153 (aa #[]),recovered:=J }]
def kbf (T:List UInt8) (w:O) (g:Nat) (v:C) (k':Nat) (e:Ending) (w':O):Prop:=e=ac v∧PS T w' g k'∧Kept (isG g) w w'
def kbb (T:List UInt8) (w:O) (g:Nat) (e:Ending) (w':O):Prop:=e= .panicked kAd∧(∃ k',PS T w' g k')∧Kept (isG g) w w'
section
variable {T:List UInt8} {w:O} {g k:Nat}
theorem PS.cells (h:PS T w g k):w.cell? ⟨g,0,Z⟩=N (Q ⟨T.toArray⟩)∧w.cell? ⟨g,1,Z⟩=N (I U k)∧w.frozen? ⟨g,1,Z⟩=J:=by have aD:=h.1.cell 0;have af:=h.1.cell 1;have ao:=h.1.frozen 1;simp only[gA,gB,gC] at aD af;exact ⟨aD,af,ao⟩
theorem PS.drewN (h:PS T w g k) (n:Nat):PS T (w.drewN n) g k:=h
theorem PS.drew (h:PS T w g k):PS T w.drew g k:=h
theorem PS.go (h:PS T w g k) {k':Nat} (aw:k'≤T.length):PS T (w.setCell ⟨g,1,Z⟩ (I U k')) g k':=⟨h.1.mac 1 _,aw,h.2.2⟩
theorem PS.kept {F:Nat→Prop} {w':O} (h:PS T w g k) (aw:Kept F w w') (hg:¬F g):PS T w' g k:=⟨h.1.kept aw hg,h.2⟩
theorem PS.alloc (h:PS T w g k) (o:Obj):PS T (w.alloc o) g k:=⟨h.1.alloc o,h.2⟩
theorem PS.lt (h:PS T w g k):g<w.heap.size:=h.1.lt
theorem kaX {P:Program} {t:ah} (aB:P.underlying t=N .string) {b:UInt8} (ak:T[k]? =N b) (w:O):(Instr.index t (Q ⟨T.toArray⟩) (I U k)).run P w= .ok (I ai b.toNat) w:=by rw[run_index_string _ _ _ _ _ aB];have az:=kaj ak;have al:=bZ T;rw[dif_pos ⟨oM,oM⟩];congr 2;have:T[k]=b:=(by rw[ua3 az] at ak;injection ak);subst this;rfl
end
def PS.moved {T:List UInt8} {w:O} {g k:Nat} (h:PS T w g k) (n:Nat) {k':Nat} (aw:k'≤T.length) {x:Int} (aA:x=k'):
 PS T ((w.drewN n).setCell ⟨g,1,Z⟩ (I U x)) g k'∧Kept (isG g) w ((w.drewN n).setCell ⟨g,1,Z⟩ (I U x)):=by
 subst aA;exact ⟨(h.drewN n).go aw,((Kept.refl (isG g) w).drewN n).setCell (p:=⟨g,1,Z⟩) (.inl rfl) _⟩
def kc7 {T:List UInt8} {g k:Nat} {b:UInt8} (w:O) (h:PS T w g k) (ak:T[k]? =N b):L prog 202 #[ab (N ⟨g,0,Z⟩)] w (kbf T w g (I ai b.toNat) (k+1)):=by have HM:=();exact kmf
def kfW {T:List UInt8} {g k:Nat} (w:O) (h:PS T w g k) (ak:T[k]? =Z):L prog 202 #[ab (N ⟨g,0,Z⟩)] w (kbb T w g):=by obtain ⟨aN,aM,bE⟩:=h.cells;have az:k=T.length:=(by have:=uc6.1 ak;have:=h.2.1;omega);have dN:=bZ T;have dr:=h.2.2;subst az;have eR:=hD h;clear h ak;go_enter func202,ntmps202;go_wp2_with fail;go_quiet (fail);go_wp2_with fail;exact ⟨rfl,rfl,⟨_,eR.o.drewN _⟩,(Kept.refl _ _).drewN _⟩
def koy {T:List UInt8} {g k:Nat} {b:UInt8} (w:O) (h:PS T w g k) (ak:T[k]? =N b):L prog 138 #[ab (N ⟨g,0,Z⟩),I ai b.toNat] w (kbf T w g (V K) (k+1)):=by exact kmf
def koz {T:List UInt8} {g k:Nat} {b:UInt8} (w:O) (h:PS T w g k) (ak:T[k]? ≠N b):L prog 138 #[ab (N ⟨g,0,Z⟩),I ai b.toNat] w (kbf T w g (V J) k):=by
 obtain ⟨aN,aM,bE⟩:=h.cells;have dN:=bZ T;have dr:=h.2.2;have eR:=hD h;have aw:=h.2.1;rcases an:T[k]? with _|c
 .have az:k=T.length:=(by have:=uc6.1 an;omega);clear h ak an aw;subst az;exact klx
 .have az:=kaj an;have g4:=kaX (P:=prog) underlying9 an;have ch:decide ((k:Int)<(T.length:Int))=K:=(by simp;omega);have ej:((c.toNat:Int)==(b.toNat:Int))=J:=(by simp;intro e;exact ak (by rw[an,uo0.1 (show c.toNat=b.toNat by omega)]));clear h ak an aw;exact klx
def kh7 (h:P:=by
 split at hd
 .injection hd with hd;omega
 split at hd
 .injection hd with hd;omega
 split at hd
 .injection hd with hd;omega
 .cases hd):=h
def kiE (h:P:=by intro q bj;have l9:=hD bj;clear bj;rcases an with af|⟨af,ao⟩|⟨af,ao⟩|⟨af,ao⟩|⟨af,ao⟩|⟨af,ao⟩|⟨af,ao⟩|⟨af,ao⟩|af;first|guard_hyp No;(all_goals go_enter func222,ntmps222;go_wp2_with fail;go_ret;refine ⟨?_,rfl⟩;rw[←l9.o];refine ud4 (fun z=>ac (V z)) ?_;show _=(_:Bool);rw[uk5];simp;try omega)|guard_hyp Np;(all_goals go_enter func248,ntmps248;go_wp2_with fail;go_ret;refine ⟨?_,rfl⟩;rw[←l9.o];refine ud4 (fun z=>ac (V z)) ?_;show _=(_:Bool);rw[uk5];simp;try omega)|(all_goals go_enter func245,ntmps245;go_wp2_with fail;go_ret;refine ⟨?_,rfl⟩;rw[←l9.o];refine ud4 (fun z=>ac (V z)) ?_;show _=(_:Bool);rw[uk5];simp;try omega)):=h
def kim (h:P:=by obtain ⟨kH,nz⟩:=knV b;have aO:kcj b=((decide (33≤(b.toNat:Int))&&decide ((b.toNat:Int)≤47))||(decide (58≤(b.toNat:Int))&&decide ((b.toNat:Int)≤64))||(decide (91≤(b.toNat:Int))&&decide ((b.toNat:Int)≤96))||(decide (123≤(b.toNat:Int))&&decide ((b.toNat:Int)≤126))):=(by unfold kcj;rw[uk5];simp[uf8];omega);rw[aO];clear aO;generalize (b.toNat:Int)=x at*;have an:x<33∨(33≤x∧x≤47)∨(47<x∧x<58)∨(58≤x∧x≤64)∨(64<x∧x<91)∨(91≤x∧x≤96)∨(96<x∧x<123)∨(123≤x∧x≤126)∨126<x:=oM;(first|guard_hyp Nq;have am:∀ q:Bool,((decide (33≤x)&&decide (x≤47))||(decide (58≤x)&&decide (x≤64))||(decide (91≤x)&&decide (x≤96))||(decide (123≤x)&&decide (x≤126)))=q→(L prog 222 #[I .u8 x] w fun e w'=>e=ac (V q)∧w=w'):=by have No:=();exact kiE|guard_hyp PW;have am:∀ q:Bool,((decide (33≤x)&&decide (x≤47))||(decide (58≤x)&&decide (x≤64))||(decide (91≤x)&&decide (x≤96))||(decide (123≤x)&&decide (x≤126)))=q→(L prog 248 #[I .u8 x] w fun e w'=>e=ac (V q)∧w=w'):=by have Np:=();exact kiE|have am:∀ q:Bool,((decide (33≤x)&&decide (x≤47))||(decide (58≤x)&&decide (x≤64))||(decide (91≤x)&&decide (x≤96))||(decide (123≤x)&&decide (x≤126)))=q→(L prog 245 #[I .u8 x] w fun e w'=>e=ac (V q)∧w=w'):=by exact kiE);exact am _ rfl):=h
def kml (h:P:=by
 have ax:=kc7 w h ak;obtain ⟨kH,nz⟩:=knV b;have bF:=hD ax;clear ax h ak;unfold ka6 at hd;simp only[uf8] at hd;rw[show (48:UInt8).toNat=48 from rfl,show (57:UInt8).toNat=57 from rfl,show (97:UInt8).toNat=97 from rfl,show (102:UInt8).toNat=102 from rfl,show (65:UInt8).toNat=65 from rfl,show (70:UInt8).toNat=70 from rfl] at hd
 first
 |guard_hyp HN;have an:(48≤(b.toNat:Int)∧(b.toNat:Int)≤57∧(d:Int)=b.toNat-48)∨(97≤(b.toNat:Int)∧(b.toNat:Int)≤102∧(d:Int)=b.toNat-97+10)∨(65≤(b.toNat:Int)∧(b.toNat:Int)≤70∧(d:Int)=b.toNat-65+10):=by exact kh7
 |have an:(b.toNat:Int)<48∨(57<(b.toNat:Int)∧(b.toNat:Int)<65)∨(70<(b.toNat:Int)∧(b.toNat:Int)<97)∨102<(b.toNat:Int):=by
   split at hd
   .cases hd
   split at hd
   .cases hd
   split at hd
   .cases hd
   .omega
 clear hd;generalize (b.toNat:Int)=x at*;first|guard_hyp HN;generalize (d:Int)=aC at*;rcases an with ⟨af,ao,rfl⟩|⟨af,ao,rfl⟩|⟨af,ao,rfl⟩;(all_goals go_enter func221,ntmps221;go_wp2_with fail;refine bF.o.mono ?_;rintro e aq ⟨rfl,aO,aw⟩;go_wp2_with fail;go_ret;exact ⟨rfl,aO,aw⟩)|rcases an with af|⟨af,ao⟩|⟨af,ao⟩|af;(all_goals go_enter func221,ntmps221;go_wp2_with fail;refine bF.o.mono ?_;rintro e aq ⟨rfl,aO,aw⟩;go_wp2_with fail;exact ⟨rfl,rfl,⟨_,aO⟩,aw⟩)):=h
def kfh (T:List UInt8) (w:O) (g:Nat) (r:Option (C×Nat)) (e:Ending) (w':O):Prop:=match r with
 |some (v,k')=>kbf T w g v k' e w'
 |none=>kbb T w g e w'
def kAO {T:List UInt8} {g k:Nat} (w:O) (h:PS T w g k) (ak:T[k]? =Z):L prog 221 #[ab (N ⟨g,0,Z⟩)] w (kbb T w g):=by have eR:=hD h;have aV:=hD ak;clear h ak;go_enter func221,ntmps221;go_wp2_with fail;refine (kfW _ eR.o aV.o).mono ?_;rintro e aq ⟨rfl,⟨k1,af⟩,aw⟩;go_wp2_with fail;exact ⟨rfl,rfl,⟨k1,af⟩,aw⟩
def knV (b:UInt8):0≤(b.toNat:Int)∧(b.toNat:Int)≤255:=by have:=b.toNat_lt;omega
def kAP {T:List UInt8} {g k d:Nat} {b:UInt8} (w:O) (h:PS T w g k) (ak:T[k]? =N b) (hd:ka6 b=N d):L prog 221 #[ab (N ⟨g,0,Z⟩)] w (kbf T w g (I ai d) (k+1)):=by have HN:=();exact kml
def kAN {T:List UInt8} {g k:Nat} {b:UInt8} (w:O) (h:PS T w g k) (ak:T[k]? =N b) (hd:ka6 b=Z):L prog 221 #[ab (N ⟨g,0,Z⟩)] w (kbb T w g):=by exact kml
def dV (r:Option (Nat×Nat)):Option (C×Nat):=r.map fun p=>(I ai p.1,p.2)
def kkJ {T:List UInt8} {g k:Nat} (w:O) (h:PS T w g k):L prog 221 #[ab (N ⟨g,0,Z⟩)] w (kfh T w g (dV (kaG T k))):=by
 unfold kaG;rcases ak:T[k]? with _|b
 .exact kAO w h ak
 .simp only;rcases hd:ka6 b with _|d
  .exact kAN w h ak hd
  .exact kAP w h ak hd
def kvD (b:UInt8) (w:O):L prog 222 #[I .u8 b.toNat] w fun e w'=>e=ac (V (kcj b))∧w=w':=by have Nq:=();exact kim
def kij (h:P:=by have bF:=hD (kc7 w h ak);rw[show ((120:UInt8).toNat:Int)=120 from rfl] at bF;(first|guard_hyp HO;have af:=kkL hd;have ao:=kkL kK|skip);have cW:=hD hd;(first|guard_hyp Nt;clear h ak hd|have lH:=hD kK;clear h ak hd kK);go_enter func204,ntmps204;go_wp2_with fail;refine bF.o.mono ?_;rintro e aq ⟨rfl,aO,aw⟩;go_wp2_with fail;have an:=kkJ aq aO;rw[cW.o] at an;refine an.mono ?_;clear an;rintro e aF ⟨rfl,en,cu⟩;go_wp2_with fail;first|guard_hyp HO;have an:=kkJ aF en;rw[lH.o] at an;refine an.mono ?_;clear an;rintro e a6 ⟨rfl,h0,fd⟩;go_wp2_with fail;go_ret;exact ⟨kvp (kvS aW bc af ao),h0,(aw.maa cu).maa fd⟩|guard_hyp Nu;have an:=kkJ aF en;rw[lH.o] at an;refine an.mono ?_;clear an;rintro e a6 ⟨rfl,h0,fd⟩;go_wp2_with fail;exact ⟨rfl,rfl,h0,(aw.maa cu).maa fd⟩|exact ⟨rfl,rfl,en,aw.maa cu⟩):=h
def kmg (h:P:=by have bF:=hD (kc7 w h ak);have aL:((b.toNat:Int)==110)=J:=kbj af;have bJ:((b.toNat:Int)==116)=J:=kbj ao;have dn:((b.toNat:Int)==114)=J:=kbj av;have h6:((b.toNat:Int)==120)=J:=kbj bk;have a8:=hD fun w=>kvD b w;rw[aO] at a8;clear h ak af ao av bk aO;go_enter func204,ntmps204;go_wp2_with fail;refine bF.o.mono ?_;rintro e aq ⟨rfl,aO,aw⟩;go_wp2_with fail;refine (a8.o aq).mono ?_;rintro e w' ⟨rfl,rfl⟩;go_wp2_with fail;first|guard_hyp Nv;exact ⟨rfl,rfl,⟨_,aO⟩,aw⟩|go_ret;exact ⟨rfl,aO,aw⟩):=h
def kig (h:P:=by have bF:=hD (kc7 w h ak);(first|guard_hyp Nr;rw[show ((110:UInt8).toNat:Int)=110 from rfl] at bF|guard_hyp Ns;rw[show ((114:UInt8).toNat:Int)=114 from rfl] at bF|rw[show ((116:UInt8).toNat:Int)=116 from rfl] at bF);clear h ak;go_enter func204,ntmps204;go_wp2_with fail;refine bF.o.mono ?_;rintro e aq ⟨rfl,aO,aw⟩;go_wp2_with fail;go_ret;exact ⟨rfl,aO,aw⟩):=h
def eV (r:Option (UInt8×Nat)):Option (C×Nat):=r.map fun p=>(I ai p.1.toNat,p.2)
def kbj {b c:UInt8} (h:b≠c):((b.toNat:Int)==(c.toNat:Int))=J:=by simp;intro e;exact h (uo0.1 oM)
def kkL {T:List UInt8} {k d k':Nat} (h:kaG T k=N (d,k')):d<16:=by
 unfold kaG ka6 at h;simp only[uf8] at h;rw[show (48:UInt8).toNat=48 from rfl,show (57:UInt8).toNat=57 from rfl,show (97:UInt8).toNat=97 from rfl,show (102:UInt8).toNat=102 from rfl,show (65:UInt8).toNat=65 from rfl,show (70:UInt8).toNat=70 from rfl] at h;split at h
 .cases h
 split at h
 .cases h
 rename_i d' hd;injection h with h;injection h with af ao;exact kh7
def kvR:∀ a:Fin 16,∀ b:Fin 16,bits BinOp.or IntKind.u8 ((a.val:Int)*16) (b.val:Int)=((UInt8.ofNat (16*a.val+b.val)).toNat:Int):=by decide+kernel
def kvS (a b:Nat) (aE:a<16) (ak:b<16):bits BinOp.or IntKind.u8 ((a:Int)*16) (b:Int)=((UInt8.ofNat (16*a+b)).toNat:Int):=kvR ⟨a,aE⟩ ⟨b,ak⟩
def kvp {a b:Int} (h:a=b):ac (I ai a)=ac (I ai b):=by rw[h]
def kAp {T:List UInt8} {g k:Nat} (w:O) (h:PS T w g k) (ak:T[k]? =Z):L prog 204 #[ab (N ⟨g,0,Z⟩)] w (kbb T w g):=by have bF:=hD (kfW w h ak);clear h ak;go_enter func204,ntmps204;go_wp2_with fail;refine bF.o.mono ?_;rintro e aq ⟨rfl,aO,aw⟩;go_wp2_with fail;exact ⟨rfl,rfl,aO,aw⟩
def kAr {T:List UInt8} {g k:Nat} (w:O) (h:PS T w g k) (ak:T[k]? =N 110):L prog 204 #[ab (N ⟨g,0,Z⟩)] w (kbf T w g (I ai 10) (k+1)):=by have Nr:=();exact kig
def kAl {T:List UInt8} {g k:Nat} (w:O) (h:PS T w g k) (ak:T[k]? =N 116):L prog 204 #[ab (N ⟨g,0,Z⟩)] w (kbf T w g (I ai 9) (k+1)):=by exact kig
def kAm {T:List UInt8} {g k:Nat} (w:O) (h:PS T w g k) (ak:T[k]? =N 114):L prog 204 #[ab (N ⟨g,0,Z⟩)] w (kbf T w g (I ai 13) (k+1)):=by have Ns:=();exact kig
def kAk {T:List UInt8} {g k:Nat} (w:O) (h:PS T w g k) (ak:T[k]? =N 120) (hd:kaG T (k+1)=Z):L prog 204 #[ab (N ⟨g,0,Z⟩)] w (kbb T w g):=by have Nt:=();exact kij
def kAj {T:List UInt8} {g k aW k1:Nat} (w:O) (h:PS T w g k) (ak:T[k]? =N 120) (hd:kaG T (k+1)=N (aW,k1)) (kK:kaG T k1=Z):L prog 204 #[ab (N ⟨g,0,Z⟩)] w (kbb T w g):=by have Nu:=();exact kij
def kAi {T:List UInt8} {g k aW k1 bc bS:Nat} (w:O) (h:PS T w g k) (ak:T[k]? =N 120) (hd:kaG T (k+1)=N (aW,k1)) (kK:kaG T k1=N (bc,bS)):L prog 204 #[ab (N ⟨g,0,Z⟩)] w (kbf T w g (I ai (UInt8.ofNat (16*aW+bc)).toNat) bS):=by have HO:=();exact kij
def kAo {T:List UInt8} {g k:Nat} {b:UInt8} (w:O) (h:PS T w g k) (ak:T[k]? =N b) (af:b≠110) (ao:b≠116) (av:b≠114) (bk:b≠120) (aO:kcj b=K):L prog 204 #[ab (N ⟨g,0,Z⟩)] w (kbf T w g (I ai b.toNat) (k+1)):=by exact kmg
def kAn {T:List UInt8} {g k:Nat} {b:UInt8} (w:O) (h:PS T w g k) (ak:T[k]? =N b) (af:b≠110) (ao:b≠116) (av:b≠114) (bk:b≠120) (aO:kcj b=J):L prog 204 #[ab (N ⟨g,0,Z⟩)] w (kbb T w g):=by have Nv:=();exact kmg
def kry {T:List UInt8} {g k:Nat} (w:O) (h:PS T w g k):L prog 204 #[ab (N ⟨g,0,Z⟩)] w (kfh T w g (eV (kaO T k))):=by
 unfold kaO;rcases ak:T[k]? with _|b
 .exact kAp w h ak
 simp only;by_cases af:b=110
 .rw[ua1 af];subst af;exact kAr w h ak
 rw[ua0 af];by_cases ao:b=116
 .rw[ua1 ao];subst ao;exact kAl w h ak
 rw[ua0 ao];by_cases av:b=114
 .rw[ua1 av];subst av;exact kAm w h ak
 rw[ua0 av];by_cases bk:b=120
 .rw[ua1 bk];subst bk;rcases hd:kaG T (k+1) with _|⟨aW,k1⟩
  .exact kAk w h ak hd
  .simp only;rcases kK:kaG T k1 with _|⟨bc,bS⟩
   .exact kAj w h ak hd kK
   .exact kAi w h ak hd kK
 rw[ua0 bk];rcases aO:kcj b with _|_
 .exact kAn w h ak af ao av bk aO
 .exact kAo w h ak af ao av bk aO
def zq5 (h:P:=by
 go_enter func231,ntmps231;go_wp2_with fail;go_ret2
 exact ⟨rfl,rfl⟩):=h
def kmp (h:P:=by
 obtain ⟨kH,nz⟩:=u8b b
 have an : (48 ≤ (b.toNat : Int) ∧ (b.toNat : Int) ≤ 57 ∧ kaN b = b.toNat - 48) ∨ (97 ≤ (b.toNat : Int) ∧ (b.toNat : Int) ≤ 102 ∧ kaN b = b.toNat - 97 + 10) ∨ (65 ≤ (b.toNat : Int) ∧ (b.toNat : Int) ≤ 70 ∧ kaN b = b.toNat - 65 + 10) ∨
   ((b.toNat : Int) < 48 ∧ kaN b = -1) ∨ (57 < (b.toNat : Int) ∧ (b.toNat : Int) < 65 ∧ kaN b = -1) ∨ (70 < (b.toNat : Int) ∧ (b.toNat : Int) < 97 ∧ kaN b = -1) ∨ (102 < (b.toNat : Int) ∧ kaN b = -1) := by
  have hd : ∀ r, ka6 b = r → _ := fun r h => h
  unfold ka6 at hd
  simp only [uf8] at hd
  rw [show (48 : UInt8).toNat = 48 from rfl, show (57 : UInt8).toNat = 57 from rfl, show (97 : UInt8).toNat = 97 from rfl, show (102 : UInt8).toNat = 102 from rfl, show (65 : UInt8).toNat = 65 from rfl, show (70 : UInt8).toNat = 70 from rfl] at hd
  rcases am : ka6 b with _ | d
  ·
   have e : kaN b = -1 := by unfold kaN; rw [am]
   rw [e]
   have hd := hd Z (by simpa [ka6, uf8] using am)
   split at hd
   ·
    cases hd
   split at hd
   ·
    cases hd
   split at hd
   ·
    cases hd
   omega
  ·
   have e : kaN b = d := by unfold kaN; rw [am]
   rw [e]
   have hd := hd (N d) (by simpa [ka6, uf8] using am)
   exact kh7
 generalize (b.toNat:Int)=x at*;generalize kaN b=aC at*;rcases an with ⟨af,ao,rfl⟩|⟨af,ao,rfl⟩|⟨af,ao,rfl⟩|⟨af,rfl⟩|⟨af,ao,rfl⟩|⟨af,ao,rfl⟩|⟨af,rfl⟩;first|guard_hyp Nw;(all_goals go_enter func244,ntmps244;go_wp2_with fail;go_ret;exact ⟨rfl,rfl⟩)|(all_goals go_enter func247,ntmps247;go_wp2_with fail;go_ret;exact ⟨rfl,rfl⟩)):=h
def kaN (b:UInt8):Int:=match ka6 b with
 |some d=>d
 |none=> -1
def kx8 (b:UInt8) (w:O):L prog 244 #[I .u8 b.toNat] w fun e w'=>e=ac (I U (kaN b))∧w=w':=by have Nw:=();exact kmp
def kxE (b:UInt8) (w:O):L prog 245 #[I .u8 b.toNat] w fun e w'=>e=ac (V (kcj b))∧w=w':=by exact kim
def elV (r:Option (UInt8×Nat)):C:=match r with
 |some (b,n)=>ag #[I .u8 b.toNat,I U n]
 |none=>ag #[I .u8 0,I U 0]
def ElEnd (w:O) (r:Option (UInt8×Nat)) (e:Ending) (w':O):Prop:=e=ac (elV r)∧w=w'
def kAD (w:O):L prog 231 #[Q ⟨([]:List UInt8).toArray⟩] w (ElEnd w Z):=by exact zq5
section
variable {l:List UInt8} {b:UInt8} (w:O)
theorem ix0 (h:l[0]? =N b):∀ w,(Instr.index 9 (Q ⟨l.toArray⟩) (I U 0)).run prog w= .ok (I ai b.toNat) w:=kaX underlying9 h
theorem ix1 (h:l[1]? =N b):∀ w,(Instr.index 9 (Q ⟨l.toArray⟩) (I U 1)).run prog w= .ok (I ai b.toNat) w:=kaX underlying9 h
theorem ix2 (h:l[2]? =N b):∀ w,(Instr.index 9 (Q ⟨l.toArray⟩) (I U 2)).run prog w= .ok (I ai b.toNat) w:=kaX underlying9 h
theorem ix3 (h:l[3]? =N b):∀ w,(Instr.index 9 (Q ⟨l.toArray⟩) (I U 3)).run prog w= .ok (I ai b.toNat) w:=kaX underlying9 h
theorem keP (h:l[0]? =N b):(l== [])=J:=by cases l <;> simp_all
theorem kAA (h:l[0]? =N b) (ak:b=93∨b=45):L prog 231 #[Q ⟨l.toArray⟩] w (ElEnd w Z):=by
 have aA:=ix0 h;have ax:=keP h;clear h;rcases ak with rfl|rfl
 .rw[show ((93:UInt8).toNat:Int)=93 from rfl] at aA;exact zq5
 .rw[show ((45:UInt8).toNat:Int)=45 from rfl] at aA;exact zq5
theorem kAB (h:l[0]? =N b) (af:b≠93) (ao:b≠45) (av:b≠92):L prog 231 #[Q ⟨l.toArray⟩] w (ElEnd w (N (b,1))):=by have aA:=ix0 h;have ax:=keP h;have aL:((b.toNat:Int)==93)=J:=kbj af;have bJ:((b.toNat:Int)==45)=J:=kbj ao;have dn:((b.toNat:Int)==92)=J:=kbj av;have h6:((b.toNat:Int) != 92)=K:=(by simpa using dn);clear h af ao av;exact zq5
theorem kAC (h:l[0]? =N 92) (af:l[1]? =Z):L prog 231 #[Q ⟨l.toArray⟩] w (ElEnd w Z):=by have aA:=ix0 h;have ax:=keP h;rw[show ((92:UInt8).toNat:Int)=92 from rfl] at aA;have az:l.length=1:=(by have:=kaj h;have:=uc6.1 af;omega);have hd:decide ((l.length:Int)<2)=K:=(by simp;omega);clear h af az;exact zq5
theorem kAE (c:UInt8) (h:l[0]? =N 92) (af:l[1]? =N c) (an:c≠120):L prog 231 #[Q ⟨l.toArray⟩] w (ElEnd w ((kaO l 1).map fun p=>(p.1,2))):=by
 have aA:=ix0 h;have bp:=ix1 af;have ax:=keP h;rw[show ((92:UInt8).toNat:Int)=92 from rfl] at aA;have az:=kaj af;have hd:decide ((l.length:Int)<2)=J:=(by simp;omega);unfold kaO;rw[af];simp only;clear h af az;by_cases af:c=110
 .rw[ua1 af];subst af;rw[show ((110:UInt8).toNat:Int)=110 from rfl] at bp;exact zq5
 rw[ua0 af];by_cases ao:c=116
 .rw[ua1 ao];subst ao;rw[show ((116:UInt8).toNat:Int)=116 from rfl] at bp;clear af;exact zq5
 rw[ua0 ao];by_cases av:c=114
 .rw[ua1 av];subst av;rw[show ((114:UInt8).toNat:Int)=114 from rfl] at bp;clear af ao;exact zq5
 rw[ua0 av,ua0 an];have aL:((c.toNat:Int)==110)=J:=kbj af;have bJ:((c.toNat:Int)==116)=J:=kbj ao;have dn:((c.toNat:Int)==114)=J:=kbj av;have h6:((c.toNat:Int)==120)=J:=kbj an;have cp:=hD (kxE c w);clear af ao av an;rcases aO:kcj c with _|_
 all_goals
  rw[aO] at cp;clear aO;go_enter func231,ntmps231;go_wp2_with fail;refine cp.o.mono ?_;rintro e w' ⟨rfl,rfl⟩;go_wp2_with fail;go_ret2
  exact ⟨rfl,rfl⟩
theorem kAz (h:l[0]? =N 92) (af:l[1]? =N 120) (az:l.length<4):L prog 231 #[Q ⟨l.toArray⟩] w (ElEnd w Z):=by have aA:=ix0 h;have bp:=ix1 af;have ax:=keP h;rw[show ((92:UInt8).toNat:Int)=92 from rfl] at aA;rw[show ((120:UInt8).toNat:Int)=120 from rfl] at bp;have kI:=kaj af;have hd:decide ((l.length:Int)<2)=J:=(by simp;omega);have hd4:decide ((l.length:Int)<4)=K:=(by simp;omega);clear h af az kI;exact zq5
end
def kiI (h:P:=by
 go_enter func231,ntmps231;go_wp2_with fail;go_quiet (first|(with_reducible exact up5 (aZ _))|(with_reducible exact up5 (bC _)))
 go_wp2_with fail;go_ret2
 exact ⟨rfl,_,rfl⟩):=h
section
variable {l:List UInt8} (w:O)
theorem kqc (b:UInt8) (x:Int) (aA:kaN b=x) (w:O):L prog 244 #[I .u8 b.toNat] w fun e w'=>e=ac (I U x)∧w'=w:=by subst aA;exact (kx8 b w).mono fun _ _ h=>⟨h.1,h.2.symm⟩
theorem kkI (fH g6:UInt8) (x aC:Int) (h:l[0]? =N 92) (af:l[1]? =N 120) (ao:l[2]? =N fH) (av:l[3]? =N g6) (BR:kaN fH=x) (BS:kaN g6=aC) (am:(x<0∨aC<0)∨(0≤x∧0≤aC∧x<16∧aC<16)):
 L prog 231 #[Q ⟨l.toArray⟩] w fun e w'=>e=ac (if x<0∨aC<0 then elV Z else ag #[I .u8 (x*16+aC),I U 4])∧∃ n,w'=w.drewN n:=by
 have aA:=ix0 h;have bp:=ix1 af;have bd:=ix2 ao;have aI:=ix3 av;have ax:=keP h;rw[show ((92:UInt8).toNat:Int)=92 from rfl] at aA;rw[show ((120:UInt8).toNat:Int)=120 from rfl] at bp;have kI:=kaj af;have kJ:=kaj av;have hd:decide ((l.length:Int)<2)=J:=(by simp;omega);have hd4:decide ((l.length:Int)<4)=J:=(by simp;omega);have aZ:=kqc fH x BR;have bC:=kqc g6 aC BS;clear h af ao av kI kJ BR BS;rcases am with am|am
 .have a1:=hD am;rw[ua1 am];by_cases bE:x<0
  .have Nx:decide (x<0)=K:=(by simpa using bE);clear am;exact kiI
  .have Nx:decide (x<0)=J:=(by simpa using bE);have c2:decide (aC<0)=K:=(by simp;omega);clear am;exact kiI
 .obtain ⟨eS,il,ma,un⟩:=am;rw[ua0 oM];have bE:decide (x<0)=J:=(by simp;omega);have c2:decide (aC<0)=J:=(by simp;omega);exact kiI
end
def ksx (w:O) (r:Option (UInt8×Nat)) (e:Ending) (w':O):Prop:=e=ac (elV r)∧∃ n,w'=w.drewN n
def ElEnd.res {w w':O} {r:Option (UInt8×Nat)} {e:Ending} (h:ElEnd w r e w'):ksx w r e w':=⟨h.1,0,h.2.symm⟩
def kkc {b:UInt8} {d:Nat} (h:ka6 b=N d):d<16:=kkL (T:=[b]) (k:=0) (k':=1) (by unfold kaG;simp[h])
theorem kkH (b:UInt8) (t:List UInt8):kaU (b::t)=if b=93∨b=45 then Z else if b≠92 then N (b,1) else match kaO (b::t) 1 with
 |none=>none
 |some (x,k)=>some (x,k):=by
 have h:∀ k,(b::t)[k+1]? =t[k]? :=fun k=>by simp
 have hd:∀ k,kaG (b::t) (k+1)=(kaG t k).map fun p=>(p.1,p.2+1):=fun k=>by
  unfold kaG;rw[h];rcases t[k]? with _|c
  .rfl
  .simp only;rcases ka6 c with _|d <;> rfl
 have aG:kaO (b::t) 1=(kaO t 0).map fun p=>(p.1,p.2+1):=by
  unfold kaO;rw[h 0];rcases t[0]? with _|c
  .rfl
  .simp only;split
   .rfl
   split
   .rfl
   split
   .rfl
   split
   .rw[hd];rcases kaG t (0+1) with _|⟨d,k⟩
    .rfl
    .simp only[ue5];rw[hd];rcases kaG t k with _|⟨d,k⟩ <;> rfl
   split <;> rfl
 rw [show kaU (b :: t) = (if b = 93 ∨ b = 45 then Z else if b ≠ 92 then N (b, 1) else match kaO t 0 with
  | none => none
  | some (x, k) => some (x, k + 1)) from rfl]
 rw[aG];split
 .rfl
 split
 .rfl
 rcases kaO t 0 with _|⟨x,k⟩ <;> rfl
theorem krE (l:List UInt8) (w:O):L prog 231 #[Q ⟨l.toArray⟩] w (ksx w (kaU l)):=by
 rcases l with _|⟨b,t⟩
 .exact (kAD w).mono fun _ _ h=>h.res
 have aD:(b::t)[0]? =N b:=rfl;rw[kkH];by_cases af:b=93∨b=45
 .rw[ua1 af];exact (kAA w aD af).mono fun _ _ h=>h.res
 rw[ua0 af];by_cases ao:b=92
 .rw[ua0 (by simpa using ao)];subst ao;generalize az:(92::t:List UInt8)=l at*;clear af;rcases an:l[1]? with _|c
  .have:kaO l 1=Z:=(by unfold kaO;rw[an]);rw[this];exact (kAC w aD an).mono fun _ _ h=>h.res
  .by_cases aA:c=120
   .subst aA
    have aG : kaO l 1 = match kaG l 2 with
      | none => none
      | some (h, k1) => match kaG l k1 with
       | none => none
       | some (l, bS) => some (UInt8.ofNat (16 * h + l), bS) := by
     unfold kaO
     rw [an]
     rfl
    rw[aG];by_cases bk:l.length<4
    .have : (match kaG l 2 with
      | none => none
      | some (h, k1) => match kaG l k1 with
       | none => none
       | some (l, bS) => some (UInt8.ofNat (16 * h + l), bS)) = none := by
      rcases hd : kaG l 2 with _ | ⟨d, k⟩
      ·
       rfl
      ·
       have := kkK hd
       obtain ⟨rfl, _⟩ := this
       simp only
       have : kaG l (2 + 1) = Z := by
        unfold kaG
        rw [ud5 (by omega)]
       rw [this]
     rw[this];exact (kAz w aD an bk).mono fun _ _ h=>h.res
    .have eN:l[2]? =N l[2]:=ua3 oM;have gV:l[3]? =N l[3]:=ua3 oM;generalize l[2]=fH at*;generalize l[3]=g6 at*;have bJ:kaG l 2=(ka6 fH).map fun d=>(d,3):=by unfold kaG;rw[eN];simp only;rcases ka6 fH with _|d <;> rfl
     have dn:kaG l 3=(ka6 g6).map fun d=>(d,4):=by unfold kaG;rw[gV];simp only;rcases ka6 g6 with _|d <;> rfl
     rw[bJ];rcases bS:ka6 fH with _|bc
     .refine (kkI w fH g6 (-1) (kaN g6) aD an eN gV (by unfold kaN;rw[bS]) rfl (.inl (.inl oM))).mono ?_;rintro e w' ⟨rfl,fn⟩;exact ⟨by rw[ua1 (.inl oM)];try rfl,fn⟩
     .simp only[ue5];rw[dn];rcases fp:ka6 g6 with _|br
      .refine (kkI w fH g6 bc (-1) aD an eN gV (by unfold kaN;rw[bS]) (by unfold kaN;rw[fp]) (.inl (.inr oM))).mono ?_;rintro e w' ⟨rfl,fn⟩;exact ⟨by rw[ua1 (.inr oM)];try rfl,fn⟩
      .have et:=kkc bS;have lf:=kkc fp;refine (kkI w fH g6 bc br aD an eN gV (by unfold kaN;rw[bS]) (by unfold kaN;rw[fp]) (.inr oM)).mono ?_;rintro e w' ⟨rfl,fn⟩;refine ⟨?_,fn⟩;rw[ua0 oM];simp only[ue5,elV];have Ny:(UInt8.ofNat (16*bc+br)).toNat=16*bc+br:=(by rw[UInt8.toNat_ofNat'];omega);have:((16*bc+br:Nat):Int)=(bc:Int)*16+br:=oM;rw[Ny,this];try rfl
   .have : (match kaO l 1 with
      | none => none
      | some (x, k) => some (x, k)) = (kaO l 1).map fun p => (p.1, 2) := by
     unfold kaO
     rw [an]
     simp only
     by_cases aM : c = 110
     ·
      simp [aM]
     by_cases aZ : c = 116
     ·
      simp [aZ]
     by_cases bC : c = 114
     ·
      simp [bC]
     cases kcj c <;> simp [aM, aZ, bC, aA]
    rw[this];exact (kAE w c aD an aA).mono fun _ _ h=>h.res
 .rw[ua1 ao];exact (kAB w aD (fun e=>af (.inl e)) (fun e=>af (.inr e)) ao).mono fun _ _ h=>h.res
def lsC (S:LS):List C:=(wds S).map fun n:Nat=>I Y (n:Int)
def lsV (S:LS):C:=aa (lsC S).toArray
def kfj (w:O) (S:LS) (e:Ending) (w':O):Prop:=e=ac (lsV S)∧H w w w'
def kxD (S:LS) {i:Nat} (h:i<4):(lsC S)[i]? =N (I Y (wd S i)):=by unfold lsC;rw[ub9,ksL S h];rfl
def LBlk (w:O) (g:Nat) (S:LS):Prop:=Blk w g 102 (lsC S).toArray
def LBlk.at_ {w:O} {g:Nat} {S:LS} (h:LBlk w g S) {i:Nat} (hi:i<4):w.cell? ⟨g,i,Z⟩=N (I Y (wd S i)):=by rw[Blk.cell h];simpa using kxD S hi
def kxC:lsC kad=[I .u64 0,I Y 0,I Y 0,I Y 0]:=by simp[lsC,wds,kbJ]
def LBlk.new (w:O):LBlk (w.alloc (y #[I .u64 0,I Y 0,I Y 0,I Y 0] 102)) w kad:=by unfold LBlk;rw[kxC];exact Blk.new _ _ _
def LBlk.put {w:O} {g:Nat} {S:LS} (h:LBlk w g S) (b:Nat) (ak:b<256) {x:Int} (aA:x=((wd S (b / 64)|||2^(b % 64):Nat):Int)):LBlk (w.setCell ⟨g,b / 64,Z⟩ (I Y x)) g (orS S (kaa b)):=by subst aA;unfold LBlk lsC at*;rw[ksK S b ak];have:=Blk.mac h (b / 64) (I Y ((wd S (b / 64)|||2^(b % 64):Nat):Int));rw[gE,←up8] at this;exact this
def kpE (S:LS) (i j:Nat) (aS:j<64):bits BinOp.or IntKind.u64 (wd S i:Int) (IntKind.u64.wrap (2^j))=((wd S i|||2^j:Nat):Int):=by have af:(2:Nat)^j<2^64:=Nat.pow_lt_pow_right oM aS;have ao:=kc3 S i;have e:IntKind.u64.wrap (2^j)=((2^j:Nat):Int):=(by rw[ut5];have bw:((2^j:Nat):Int)=2^j:=(by simp);rw[←bw];generalize 2^j=z at*;omega);rw[e];exact un8 _ _ ao af
def LBlk.far {w:O} {g:Nat} {S:LS} (h:LBlk w g S) {p:ae} (aO:g≠p.block) (u:C):LBlk (w.setCell p u) g S:=Blk.far h aO u
def LBlk.all {w:O} {g:Nat} {S:LS} (h:LBlk w g S) (R:LS):LBlk ((((w.setCell ⟨g,0,Z⟩ (I Y (wd R 0))).setCell ⟨g,1,Z⟩ (I Y (wd R 1))).setCell ⟨g,2,Z⟩ (I Y (wd R 2))).setCell ⟨g,3,Z⟩ (I Y (wd R 3))) g R:=
 Blk.mac (Blk.mac (Blk.mac (Blk.mac h 0 _) 1 _) 2 _) 3 _
def LBlk.cells {w:O} {g:Nat} {S:LS} (h:LBlk w g S):(w.cell? ⟨g,0,Z⟩=N (I Y (wd S 0))∧w.cell? ⟨g,1,Z⟩=N (I Y (wd S 1)))∧(w.cell? ⟨g,2,Z⟩=N (I Y (wd S 2))∧w.cell? ⟨g,3,Z⟩=N (I Y (wd S 3))):=
 ⟨⟨h.at_ oM,h.at_ oM⟩,h.at_ oM,h.at_ oM⟩
def LBlk.free {w:O} {g:Nat} {S:LS} (h:LBlk w g S):(w.frozen? ⟨g,0,Z⟩=J∧w.frozen? ⟨g,1,Z⟩=J)∧(w.frozen? ⟨g,2,Z⟩=J∧w.frozen? ⟨g,3,Z⟩=J):=
 ⟨⟨Blk.frozen h _,Blk.frozen h _⟩,Blk.frozen h _,Blk.frozen h _⟩
def kC3 (w:O) (b:UInt8) (i:C) (wr:O):Prop:=∃ k:Nat,k≤1∧i=I U k∧LBlk wr (w.heap.size+1) (if k=0 then kad else kaa b.toNat)∧LBlk wr w kad∧H w w wr
def kpN (b:UInt8) (g:Nat) (w:O) (hg:g<w.heap.size) (an:w.cell? ⟨g,0,Z⟩=N (I ai b.toNat)):L prog 220 #[D (N ⟨g,0,Z⟩) 1 1] w (kfj w (kaa b.toNat)):=by
 obtain ⟨kH,nz⟩:=u8b b;have fh:=hD hg;have a8:=hD an;clear hg an;go_enter func220,ntmps220;go_wp2_with fail;go_loopw [5,8] (fun _ i wr=>kC3 w b i wr) (fun _ i _=>1-(intOf i).toNat)
 case atStart=>
  refine ⟨0,oM,rfl,?_,?_,?_⟩
  .have:=LBlk.new (w.alloc (y #[I .u64 0,I Y 0,I Y 0,I Y 0] 102));simpa using this
  .exact (LBlk.new w).alloc _
  .exact ((ub5 _ _).alloc (nR) _).alloc (by simp) _
 case round=>
  obtain ⟨k,aw,rfl,b0,aH,ak⟩:=hrel;by_cases aD:k=0
  .subst aD;rw[ua1 rfl] at b0;have bw:=(ak.cell (p:=⟨g,0,Z⟩) fh.o).trans a8.o;have bj:b.toNat / 64<4:=(by have:=b.toNat_lt;omega);have aL:=b0.at_ bj;have bJ:wr.frozen? ⟨w.heap.size+1,b.toNat / 64,Z⟩=J:=Blk.frozen b0 _;have cj:=b0.put b.toNat (by have:=b.toNat_lt;omega) (kpE kad (b.toNat / 64) (b.toNat % 64) (ur6 _ oM));have lI:=aH.far (p:=⟨w.heap.size+1,b.toNat / 64,Z⟩) (by simp) (I Y (bits BinOp.or IntKind.u64 (wd kad (b.toNat / 64):Int) (IntKind.u64.wrap (2^(b.toNat % 64)))));have pn:=ak.setCell (p:=⟨w.heap.size+1,b.toNat / 64,Z⟩) (by simp) (I Y (bits BinOp.or IntKind.u64 (wd kad (b.toNat / 64):Int) (IntKind.u64.wrap (2^(b.toNat % 64)))));have dn:wds (orS kad (kaa b.toNat))=wds (kaa b.toNat):=kdK fun n _=>by simp[orS,kad]
   unfold LBlk lsC at cj;rw[dn] at cj;obtain ⟨bF,jv,nY⟩:=hd3 cj lI pn;clear cj lI pn dn b0 aH ak;go_wp2_with fail;exact ⟨⟨1,oM,rfl,by rw[ua0 oM];exact bF.o,jv.o,nY.o⟩,by simp[intOf]⟩
  .have:k=1:=oM;subst this;rw[ua0 aD] at b0;obtain ⟨⟨aN,aM⟩,aZ,bC⟩:=b0.cells;obtain ⟨⟨f0,b2⟩,cB,dS⟩:=aH.free;obtain ⟨⟨r0,d5⟩,fM,jM⟩:=aH.cells;have hF:=aH.all (kaa b.toNat);have p6:=(((ak.setCell (p:=⟨w,0,Z⟩) (by simp) (I Y (wd (kaa b.toNat) 0))).setCell (p:=⟨w,1,Z⟩) (by simp) (I Y (wd (kaa b.toNat) 1))).setCell (p:=⟨w,2,Z⟩) (by simp) (I Y (wd (kaa b.toNat) 2))).setCell (p:=⟨w,3,Z⟩) (by simp) (I Y (wd (kaa b.toNat) 3));have b4:=hD hF;have iL:=hD p6;clear hF p6 b0 aH ak;go_wp2_with fail;obtain ⟨⟨bi,aW⟩,bc,br⟩:=b4.o.cells;refine ub2 (v:=lsV (kaa b.toNat)) (by simp[results,results220,go_sem,bi,aW,bc,br,lsV,lsC,wds]) rfl ?_;exact ⟨rfl,iL.o⟩
def upS (a k:Nat):LS:=fun n=>decide (a≤n)&&decide (n<k)
def ksZ (a:Nat):wds (upS a a)=wds kad:=kdK fun n _=>by simp[upS,kad]
def ksY {a k:Nat} (h:a≤k):wds (orS (upS a k) (kaa k))=wds (upS a (k+1)):=kdK fun n _=>by unfold orS upS kaa;rw[uk5];simp;omega
def ks0 (a b:Nat):wds (upS a (b+1))=wds (kbg a b):=kdK fun n _=>by unfold upS kbg;rw[uk5];simp;omega
theorem koN (f g:Nat→Nat) (x:Nat):∀ k,k<4→f k=x→(∀ i,i≠k→f i=g i)→ [f 0,f 1,f 2,f 3]=[g 0,g 1,g 2,g 3].set k x
 |0,_,ao,af=>by rw[ao,af 1 oM,af 2 oM,af 3 oM];rfl
 |1,_,ao,af=>by rw[ao,af 0 oM,af 2 oM,af 3 oM];rfl
 |2,_,ao,af=>by rw[ao,af 0 oM,af 1 oM,af 3 oM];rfl
 |3,_,ao,af=>by rw[ao,af 0 oM,af 1 oM,af 2 oM];rfl
def LBlk.congr {w:O} {g:Nat} {S R:LS} (h:LBlk w g S) (e:wds S=wds R):LBlk w g R:=by unfold LBlk lsC at*;rw[←e];exact h
def LBlk.alloc {w:O} {g:Nat} {S:LS} (h:LBlk w g S) (o:Obj):LBlk (w.alloc o) g S:=Blk.alloc h o
def LBlk.mk (w:O) (S:LS) (g:Nat) (hg:g=w.heap.size):LBlk (w.alloc (y (lsC S).toArray 102)) g S:=by subst hg;exact Blk.new _ _ _
def LBlk.mk0 (w:O) (g:Nat) (hg:g=w.heap.size):LBlk (w.alloc (y #[I .u64 0,I Y 0,I Y 0,I Y 0] 102)) g kad:=by subst hg;exact LBlk.new _
def ke8 (x:Nat):Nat:=2^64-1-x
def ksQ (S:LS) (i:Nat):wd (kah S) i=ke8 (wd S i):=ksP S i
def kAX {x:Nat} (aA:x<2^64):bits BinOp.xor IntKind.u64 (if IntKind.u64.signed=K then-1 else IntKind.u64.max) (x:Int)=((ke8 x:Nat):Int):=by rw[ua0 dC,show IntKind.u64.max=((2^64-1:Nat):Int) by decide,u64_xor_nat _ _ dC aA,Lib.xor_ones64 _ aA];rfl
def kDq (w:O) (a b:Nat) (i:C) (wr:O):Prop:=∃ k:Nat,a≤k∧k≤b+1∧i=I U k∧LBlk wr (w.heap.size+1) (upS a k)∧LBlk wr w kad∧H w w wr
def kr5 (a b:Nat) (w:O) (hz:a≤b) (ak:b≤255):L prog 233 #[I .u8 a,I ai b] w (kfj w (kbg a b)):=by
 go_enter func233,ntmps233;go_wp2_with fail;go_loopw [6] (fun i wr=>kDq w a b i wr) (fun i _=>256-(intOf i).toNat)
 case atStart=>refine ⟨a,oM,oM,rfl,?_,(LBlk.new w).alloc _,((ub5 _ _).alloc (nR) _).alloc (by simp) _⟩;have:=LBlk.new (w.alloc (y #[I .u64 0,I Y 0,I Y 0,I Y 0] 102));refine LBlk.congr ?_ (ksZ a).symm;simpa using this
 case round=>
  obtain ⟨k,af,ao,rfl,b0,aH,dR⟩:=hrel;by_cases aw:k≤b
  .have bj:k / 64<4:=oM;have aL:=b0.at_ bj;have bJ:wr.frozen? ⟨w.heap.size+1,k / 64,Z⟩=J:=Blk.frozen b0 _;have cj:=(b0.put k oM (kpE (upS a k) (k / 64) (k % 64) (ur6 _ oM))).congr (ksY af);have lI:=aH.far (p:=⟨w.heap.size+1,k / 64,Z⟩) (by simp) (I Y (bits BinOp.or IntKind.u64 (wd (upS a k) (k / 64):Int) (IntKind.u64.wrap (2^(k % 64)))));have pn:=dR.setCell (p:=⟨w.heap.size+1,k / 64,Z⟩) (by simp) (I Y (bits BinOp.or IntKind.u64 (wd (upS a k) (k / 64):Int) (IntKind.u64.wrap (2^(k % 64)))));obtain ⟨bF,jv,nY⟩:=hd3 cj lI pn;clear cj lI pn b0 aH dR;go_wp2_with fail;go_region
   go_wp2_with fail;exact ⟨⟨k+1,oM,oM,rfl,bF.o,jv.o,nY.o.drew⟩,by simp[intOf];omega⟩
  .have:k=b+1:=oM;subst this;have b0:=b0.congr (ks0 a b);obtain ⟨⟨aN,aM⟩,aZ,bC⟩:=b0.cells;obtain ⟨⟨f0,b2⟩,cB,dS⟩:=aH.free;obtain ⟨⟨r0,d5⟩,fM,jM⟩:=aH.cells;have hF:=aH.all (kbg a b);have p6:=(((dR.setCell (p:=⟨w,0,Z⟩) (by simp) (I Y (wd (kbg a b) 0))).setCell (p:=⟨w,1,Z⟩) (by simp) (I Y (wd (kbg a b) 1))).setCell (p:=⟨w,2,Z⟩) (by simp) (I Y (wd (kbg a b) 2))).setCell (p:=⟨w,3,Z⟩) (by simp) (I Y (wd (kbg a b) 3));have b4:=hD hF;have iL:=hD p6;clear hF p6 b0 aH dR;go_wp2_with fail;obtain ⟨⟨bi,aW⟩,bc,br⟩:=b4.o.cells;refine ub2 (v:=lsV (kbg a b)) (by simp[results,results233,go_sem,bi,aW,bc,br,lsV,lsC,wds]) rfl ?_;exact ⟨rfl,iL.o⟩
def kb9 (S R:LS) (k:Nat):LS:=fun n=>S n||(R n&&decide (n<64*k))
def ks9 (S R:LS) (k:Nat):wd (kb9 S R k) k=wd S k:=kc4 fun j aS=>by unfold kb9;rw[ua5 oM];simp
def kB5 {x aC:Nat} (aA:x<2^64) (bp:aC<2^64):bits BinOp.or IntKind.u64 (x:Int) (aC:Int)=((x|||aC:Nat):Int):=un8 _ _ aA bp
def ks7 (S R:LS) (k:Nat) (aw:k<4):wds (kb9 S R (k+1))=(wds (kb9 S R k)).set k (wd S k|||wd R k):=by
 have af:∀ i,i≠k→wd (kb9 S R (k+1)) i=wd (kb9 S R k) i:=fun i hi=>kc4 fun j aS=>by
  unfold kb9;rcases ug1 i k with h|h
  .rw[ub3 oM,ub3 oM]
  .rw[ua5 oM,ua5 oM]
 have ao:wd (kb9 S R (k+1)) k=wd S k|||wd R k:=(by rw[←kfx];exact kc4 fun j aS=>by unfold kb9 orS;rw[ub3 oM];simp);exact koN (wd (kb9 S R (k+1))) (wd (kb9 S R k)) _ k aw ao af
def ks8 (S R:LS):wds S=wds (kb9 S R 0):=kdK fun n _=>by simp[kb9]
def kta (S R:LS):wds (kb9 S R 4)=wds (orS S R):=kdK fun n ax=>by unfold kb9 orS;rw[ub3 oM];simp
def LBlk.step {w:O} {g:Nat} {S R:LS} {k:Nat} (h:LBlk w g S) (x:Nat) (e:wds R=(wds S).set k x):LBlk (w.setCell ⟨g,k,Z⟩ (I Y x)) g R:=by unfold LBlk lsC at*;rw[e,up8];have:=Blk.mac h k (I Y (x:Int));rw[gE] at this;exact this
def kdT (S:LS):lsV S=aa #[I .u64 (wd S 0),I Y (wd S 1),I Y (wd S 2),I Y (wd S 3)]:=rfl
def kCS (w:O) (S R:LS) (i:C) (wr:O):Prop:=∃ k:Nat,k≤4∧i=I U k∧LBlk wr w (kb9 S R k)∧LBlk wr (w.heap.size+1) R∧LBlk wr (w.heap.size+1+1) kad∧H w w wr
def knU (S R:LS) (w:O):L prog 232 #[lsV S,lsV R] w (kfj w (orS S R)):=by
 rw[kdT,kdT];go_enter func232,ntmps232;go_wp2_with fail;go_loopw [5,6] (fun _ i wr=>kCS w S R i wr) (fun _ i _=>4-(intOf i).toNat)
 case atStart=>exact ⟨0,oM,rfl,(((LBlk.mk w S _ rfl).alloc _).alloc _).congr (ks8 S R),(LBlk.mk _ R _ (by simp)).alloc _,LBlk.mk0 _ _ (by simp),(((ub5 _ _).alloc (nR) _).alloc (by simp) _).alloc (by simp;omega) _⟩
 case round=>
  obtain ⟨k,af,rfl,dO,aH,dr,dR⟩:=hrel;by_cases aw:k<4
  .have aL:=dO.at_ aw;rw[ks9] at aL;have bJ:=aH.at_ aw;have dn:wr.frozen? ⟨w,k,Z⟩=J:=Blk.frozen dO _;have eT:=kB5 (kc3 S k) (kc3 R k);have cj:=dO.step _ (ks7 S R k aw);have HP:=aH.far (p:=⟨w,k,Z⟩) (by simp) (I Y ((wd S k|||wd R k:Nat):Int));have lI:=dr.far (p:=⟨w,k,Z⟩) (by simp;omega) (I Y ((wd S k|||wd R k:Nat):Int));have pn:=dR.setCell (p:=⟨w,k,Z⟩) (by simp) (I Y ((wd S k|||wd R k:Nat):Int));obtain ⟨bF,iw,jv,nY⟩:=hd4 cj HP lI pn;clear cj HP lI pn dO aH dr dR;go_wp2_with fail;go_region
   go_wp2_with fail;exact ⟨⟨k+1,oM,rfl,bF.o,iw.o,jv.o,nY.o.drew⟩,by simp[intOf];omega⟩
  .have:k=4:=oM;subst this;have b0:=dO.congr (kta S R);obtain ⟨⟨aN,aM⟩,aZ,bC⟩:=b0.cells;obtain ⟨⟨f0,b2⟩,cB,dS⟩:=dr.free;obtain ⟨⟨r0,d5⟩,fM,jM⟩:=dr.cells;have hF:=dr.all (orS S R);have p6:=(((dR.setCell (p:=⟨w.heap.size+1+1,0,Z⟩) (by simp;omega) (I Y (wd (orS S R) 0))).setCell (p:=⟨w.heap.size+1+1,1,Z⟩) (by simp;omega) (I Y (wd (orS S R) 1))).setCell (p:=⟨w.heap.size+1+1,2,Z⟩) (by simp;omega) (I Y (wd (orS S R) 2))).setCell (p:=⟨w.heap.size+1+1,3,Z⟩) (by simp;omega) (I Y (wd (orS S R) 3));have b4:=hD hF;have iL:=hD p6;clear hF p6 b0 dO aH dr dR;go_wp2_with fail;obtain ⟨⟨bi,aW⟩,bc,br⟩:=b4.o.cells;refine ub2 (v:=lsV (orS S R)) (by simp[results,results232,go_sem,bi,aW,bc,br,lsV,lsC,wds]) rfl ?_;exact ⟨rfl,iL.o⟩
def kca (S:LS) (k:Nat):LS:=fun n=>if n<64*k then !S n else S n
def kwn (S:LS) (k:Nat):wd (kca S k) k=wd S k:=kc4 fun j aS=>by unfold kca;rw[ua0 oM]
def kwl (S:LS) (k:Nat) (aw:k<4):wds (kca S (k+1))=(wds (kca S k)).set k (ke8 (wd S k)):=by
 have af:∀ i,i≠k→wd (kca S (k+1)) i=wd (kca S k) i:=fun i hi=>kc4 fun j aS=>by
  unfold kca;rcases ug1 i k with h|h
  .rw[ua1 oM,ua1 oM]
  .rw[ua0 oM,ua0 oM]
 have ao:wd (kca S (k+1)) k=ke8 (wd S k):=(by rw[←ksQ];exact kc4 fun j aS=>by unfold kca kah;rw[ua1 oM]);exact koN (wd (kca S (k+1))) (wd (kca S k)) _ k aw ao af
def kwm (S:LS):wds S=wds (kca S 0):=kdK fun n _=>by simp[kca]
def kwo (S:LS):wds (kca S 4)=wds (kah S):=kdK fun n ax=>by unfold kca kah;rw[ua1 oM]
def kC7 (w:O) (S:LS) (i:C) (wr:O):Prop:=∃ k:Nat,k≤4∧i=I U k∧LBlk wr w (kca S k)∧LBlk wr (w.heap.size+1) kad∧H w w wr
def kpZ (S:LS) (w:O):L prog 223 #[lsV S] w (kfj w (kah S)):=by
 rw[kdT];go_enter func223,ntmps223;go_wp2_with fail;go_loopw [3,4] (fun _ i wr=>kC7 w S i wr) (fun _ i _=>4-(intOf i).toNat)
 case atStart=>exact ⟨0,oM,rfl,((LBlk.mk w S _ rfl).alloc _).congr (kwm S),LBlk.mk0 _ _ (by simp),((ub5 _ _).alloc (nR) _).alloc (by simp) _⟩
 case round=>
  obtain ⟨k,af,rfl,dO,dr,dR⟩:=hrel;by_cases aw:k<4
  .have aL:=dO.at_ aw;rw[kwn] at aL;have dn:wr.frozen? ⟨w,k,Z⟩=J:=Blk.frozen dO _;have bG:=kc3 S k;have cj:=dO.step _ (kwl S k aw);have lI:=dr.far (p:=⟨w,k,Z⟩) (by simp) (I Y ((ke8 (wd S k):Nat):Int));have pn:=dR.setCell (p:=⟨w,k,Z⟩) (by simp) (I Y ((ke8 (wd S k):Nat):Int));have HQ:=kAX bG;rw[←HQ] at cj lI pn;obtain ⟨bF,jv,nY⟩:=hd3 cj lI pn;clear HQ cj lI pn dO dr dR;go_wp2_with fail;exact ⟨⟨k+1,oM,rfl,bF.o,jv.o,nY.o⟩,by simp[intOf];omega⟩
  .have:k=4:=oM;subst this;have b0:=dO.congr (kwo S);obtain ⟨⟨aN,aM⟩,aZ,bC⟩:=b0.cells;obtain ⟨⟨f0,b2⟩,cB,dS⟩:=dr.free;obtain ⟨⟨r0,d5⟩,fM,jM⟩:=dr.cells;have hF:=dr.all (kah S);have p6:=(((dR.setCell (p:=⟨w.heap.size+1,0,Z⟩) (by simp) (I Y (wd (kah S) 0))).setCell (p:=⟨w.heap.size+1,1,Z⟩) (by simp) (I Y (wd (kah S) 1))).setCell (p:=⟨w.heap.size+1,2,Z⟩) (by simp) (I Y (wd (kah S) 2))).setCell (p:=⟨w.heap.size+1,3,Z⟩) (by simp) (I Y (wd (kah S) 3));have b4:=hD hF;have iL:=hD p6;clear hF p6 b0 dO dr dR;go_wp2_with fail;obtain ⟨⟨bi,aW⟩,bc,br⟩:=b4.o.cells;refine ub2 (v:=lsV (kah S)) (by simp[results,results223,go_sem,bi,aW,bc,br,lsV,lsC,wds]) rfl ?_;exact ⟨rfl,iL.o⟩
def krF {l:List UInt8} {b:UInt8} {u:Nat} (h:kaU l=N (b,u)):1≤u∧u≤l.length:=by
 rcases l with _|⟨c,t⟩
 .cases h
 rw[kkH] at h;split at h
 .cases h
 split at h
 .injection h with h;injection h with af ao;subst ao;simp
 split at h
 .cases h
 .rename_i x k e;have:=khr e;injection h with h;injection h with af ao;omega
theorem kxA (t:List UInt8) (f k:Nat) (S:LS) (aw:k<t.length):lsP (f+1) (t.drop k) S=match kaU (t.drop k) with
 |none=>none
 |some (lo,u)=>if t[k+u]? =some 45 then (match kaU (t.drop (k+u+1)) with
 |none=>none
 |some (hi,lD)=>if hi<lo then none else lsP f (t.drop (k+u+1+lD)) (orS S (kbg lo.toNat hi.toNat)))
 else lsP f (t.drop (k+u)) (orS S (kbg lo.toNat lo.toNat)):=by
 have hd:t.drop k=t[k]::t.drop (k+1):=by rw[ue7 aw]
 have aD : lsP (f + 1) (t.drop k) S = match kaU (t.drop k) with
   | none => none
   | some (lo, u) => match (t.drop k).drop u with
    | 45 :: t' => match kaU t' with
     | none => none
     | some (hi, lD) => if hi < lo then none else lsP f (t'.drop lD) (orS S (kbg lo.toNat hi.toNat))
    | t' => lsP f t' (orS S (kbg lo.toNat lo.toNat)) := by
  rw [hd]
  rfl
 rw[aD];rcases kaU (t.drop k) with _|⟨lo,u⟩
 .rfl
 simp only;rw[us3];rcases an:t[k+u]? with _|c
 .have:t.drop (k+u)=[]:=(by have:=uc6.1 an;rw[List.drop_eq_nil_iff];omega);rw[this];rw[ua0 (by simp)]
 .have az:=kaj an;have hg:t[k+u]=c:=(by rw[ua3 az] at an;injection an);have kK:t.drop (k+u)=c::t.drop (k+u+1):=(by rw[ue7 az,hg]);by_cases gJ:c=45
  .subst gJ;rw[ua1 rfl,kK];simp only;rcases kaU (t.drop (k+u+1)) with _|⟨hi,lD⟩
   .rfl
   simp only[us3]
  .rw[ua0 (by simpa using gJ),kK];split
   .rename_i t' aG;injection aG with aG _;exact absurd aG gJ
   .rfl
def kxB (t:List UInt8) (f k:Nat) (S:LS) (aw:t.length≤k):lsP (f+1) (t.drop k) S=N S:=by rw[List.drop_eq_nil_iff.2 aw];rfl
def kov (t:List UInt8) (k:Nat) (aw:k≤t.length) (w:O):(Instr.slice 9 (Q ⟨t.toArray⟩) (N (I U k)) Z Z).run prog w= .ok (Q ⟨(t.drop k).toArray⟩) w:=by have al:=bZ t;have e:(ByteArray.mk t.toArray).extract k t.length=⟨(t.drop k).toArray⟩:=(by rw[ur7];congr 2;exact ui7 (by simp));have hi:0≤(k:Int)∧(k:Int)≤((t.length:Nat):Int):=⟨oM,oM⟩;simp[Instr.slice,Instr.sliceBounds,Instr.sliceBound,asIntOf,uf9 underlying9,al,hi,e];intro an;omega
def ki5 (t:List UInt8) (i j:Nat) (hi:i≤j) (aS:j≤t.length) (w:O):(Instr.slice 9 (Q ⟨t.toArray⟩) (N (I U i)) (N (I U j)) Z).run prog w= .ok (Q ⟨((t.drop i).take (j-i)).toArray⟩) w:=by have al:=bZ t;rw[run_slice_string _ _ _ _ _ _ _ underlying9 oM oM oM,←ur7];rfl
def kmZ (h:P:=by clear cj b0 dR;go_wp2_with fail;obtain ⟨⟨bi,aW⟩,bc,br⟩:=cf.o.cells;refine ub2 (v:=ag #[lsV kad,kbX]) (by simp[results,results224,go_sem,bi,aW,bc,br,lsV,lsC,wds,kbX,kbJ]) rfl ?_;exact ⟨rfl,vX.o⟩):=h
def kl4 (h:P:=by
 go_wp2_with fail;refine (gI.out wr).mono ?_;rintro e aq ⟨rfl,pk,rfl⟩;go_wp2_with fail;obtain ⟨aF,bW⟩:=xE (wr.drewN pk);have dZ:LBlk aF (w.heap.size+1) S:=(by rw[bW];exact b0);have lI:LBlk aF w kad:=(by rw[bW];exact cj);have bs:H w w aF:=(by rw[bW];exact kbm dR pk);rw[←bW];clear bW b0 cj dR;obtain ⟨⟨aN,aM⟩,aZ,bC⟩:=dZ.cells;obtain ⟨⟨f0,b2⟩,cB,dS⟩:=dZ.free;have hg:w.heap.size+1<aF.heap.size:=Blk.lt dZ;go_region_with (first|(go_at_call 233;refine (kr5 lo.toNat lo.toNat _ (nR) (by have:=lo.toNat_lt;omega)).mono ?_;rintro e a6 ⟨rfl,b3⟩;have iM:=Blk.below (Blk.drew dZ) b3 hg;obtain ⟨⟨d8,g1⟩,eN,gV⟩:=LBlk.cells iM;clear iM)|(go_at_call 232;refine (knU S (kbg lo.toNat lo.toNat) _).mono ?_;rintro e aK ⟨aG,bv⟩;rw[kdT] at aG;subst aG;have oF:=Blk.below (Blk.below (Blk.drew dZ) b3 hg) bv (by have:=b3.size;exact ua7 hg this);obtain ⟨⟨bi,aW⟩,bc,br⟩:=LBlk.cells oF;obtain ⟨⟨bw,aL⟩,bJ,dn⟩:=LBlk.free oF;clear oF))
 all_goals
  go_wp2_with fail;go_roundg f
  case measure=>omega
  case rel=>exact kp7 (k':=k+u) oM oM cp dZ lI bs b3 bv):=h
def klW (h:P:=by go_wp2_with fail;refine (gI.out wr).mono ?_;rintro e aq ⟨rfl,pk,rfl⟩;go_wp2_with fail;refine (rB.out (wr.drewN pk)).mono ?_;rintro e aq ⟨rfl,As,rfl⟩;obtain ⟨⟨cU,bE⟩,c2,j4⟩:=r0;obtain ⟨⟨eD,eS⟩,il,ma⟩:=d5;have cf:=hD (LBlk.zero (w:=wr.drewN (pk+As)) (S:=kad) (g:=w.heap.size) cj);have vX:=hD (khH (kbm dR (pk+As)) (uf1 w) (I Y 0) (I Y 0) (I Y 0) (I Y 0));exact kmZ):=h
def kbX:C:= .iface 66 (I U 4)
def kDa (w:O) (r:Option LS) (e:Ending) (w':O):Prop:=(match r with
 |some S=>e=ac (ag #[lsV S,aj])
 |none=>e=ac (ag #[lsV kad,kbX]))∧H w w w'
def krC {l:List UInt8} {b:UInt8} {u:Nat} (h:kaU l=N (b,u)) (w:O):L prog 231 #[Q ⟨l.toArray⟩] w fun e w'=>e=ac (ag #[I .u8 b.toNat,I U u])∧∃ n,w'=w.drewN n:=by have:=krE l w;rw[h] at this;exact this
def krD {l:List UInt8} (h:kaU l=Z) (w:O):L prog 231 #[Q ⟨l.toArray⟩] w fun e w'=>e=ac (ag #[I .u8 0,I U 0])∧∃ n,w'=w.drewN n:=by have:=krE l w;rw[h] at this;exact this
def ksw (w:O) (t:List UInt8) (R:Option LS) (f:Nat) (i:C) (wr:O):Prop:=
 ∃(k:Nat) (S:LS),i=I U k∧k≤t.length∧t.length-k<f∧Hz (lsP f (t.drop k) S=R)∧LBlk wr (w.heap.size+1) S∧LBlk wr w kad∧H w w wr
def LBlk.zero {w:O} {g:Nat} {S:LS} (h:LBlk w g S):LBlk ((((w.setCell ⟨g,0,Z⟩ (I Y 0)).setCell ⟨g,1,Z⟩ (I Y 0)).setCell ⟨g,2,Z⟩ (I Y 0)).setCell ⟨g,3,Z⟩ (I Y 0)) g kad:=by have:=h.all kad;rw[kbJ,kbJ,kbJ,kbJ] at this;exact this
def khH {B g:Nat} {w w':O} (h:H B w w') (hg:B≤g) (aT aU aX a2:C):H B w ((((w'.setCell ⟨g,0,Z⟩ aT).setCell ⟨g,1,Z⟩ aU).setCell ⟨g,2,Z⟩ aX).setCell ⟨g,3,Z⟩ a2):=
 (((h.setCell hg aT).setCell hg aU).setCell hg aX).setCell hg a2
def kp7 {w aF a6 aK:O} {t:List UInt8} {R:Option LS} {f k':Nat} {S qP:LS} (aw:k'≤t.length) (b5:t.length-k'<f) (cp:Hz (lsP f (t.drop k') qP=R)) (dZ:LBlk aF (w.heap.size+1) S) (lI:LBlk aF w kad) (bs:H w w aF)
 (b3:H aF.drew.heap.size aF.drew a6) (bv:H a6 a6 aK):
 ksw w t R f (I U k') ((((aK.setCell ⟨w.heap.size+1,0,Z⟩ (I Y (wd qP 0))).setCell ⟨w.heap.size+1,1,Z⟩ (I Y (wd qP 1))).setCell ⟨w.heap.size+1,2,Z⟩ (I Y (wd qP 2))).setCell ⟨w.heap.size+1,3,Z⟩ (I Y (wd qP 3))):=by
 have hg:w.heap.size+1<aF.heap.size:=Blk.lt dZ;have mb:w.heap.size+1<a6.heap.size:=ua7 hg b3.size;have oF:LBlk aK (w.heap.size+1) S:=Blk.below (Blk.below (Blk.drew dZ) b3 hg) bv mb;have Nz:LBlk aK w kad:=Blk.below (Blk.below (Blk.drew lI) b3 (by show w.heap.size<aF.heap.size;omega)) bv oM;have ak:H w w aK:=(bs.drew.trans (b3.mono (by show _≤aF.heap.size;omega))).trans (bv.mono oM)
 exact ⟨k', qP, rfl, aw, b5, cp, oF.all qP, (((Nz.far (by simp) _).far (by simp) _).far (by simp) _).far (by simp) _,
  (((ak.setCell (by simp) _).setCell (by simp) _).setCell (by simp) _).setCell (by simp) _⟩
def kxz (t:List UInt8) (w:O) (aB:t.length≤262144):L prog 224 #[Q ⟨t.toArray⟩] w (kDa w (lsP (t.length+1) t kad)):=by
 have dN:=bZ t;obtain ⟨R,aH⟩:=xE (lsP (t.length+1) t kad);rw[←aH];have a1:=hD aH;clear aH;go_enter func224,ntmps224;go_wp2_with fail;go_loopg [5] (t.length+1) (fun f i wr=>ksw w t R f i wr)
 case atStart=>refine ⟨0,kad,rfl,oM,oM,a1.o.symm,?_,(LBlk.new w).alloc _,((ub5 _ _).alloc (nR) _).alloc (by simp) _⟩;exact LBlk.mk0 _ _ (by simp)
 case round=>
  obtain ⟨k,S,rfl,af,ao,cZ,b0,cj,dR⟩:=hrel;obtain ⟨f,rfl⟩:=xS gk;by_cases aw:k<t.length
  .have bH:=cZ.out;rw[kxA t f k S aw] at bH;have mc:=kov t k af;clear cZ;rcases aG:kaU (t.drop k) with _|⟨lo,u⟩
   .rw[aG] at bH;subst bH;have gI:=hD (krD aG);clear aG;have r0:=cj.cells;have d5:=cj.free;rw[kbJ,kbJ,kbJ,kbJ] at r0;go_wp2_with fail;refine (gI.out wr).mono ?_;rintro e aq ⟨rfl,pk,rfl⟩;obtain ⟨⟨cU,bE⟩,c2,j4⟩:=r0;obtain ⟨⟨eD,eS⟩,il,ma⟩:=d5;have cf:=hD (LBlk.zero (w:=wr.drewN pk) (S:=kad) (g:=w.heap.size) cj);have vX:=hD (khH (kbm dR pk) (uf1 w) (I Y 0) (I Y 0) (I Y 0) (I Y 0));exact kmZ
   .rw[aG] at bH;have gI:=hD (krC aG);have aI:=krF aG;rw[ud9] at aI;simp only at bH;clear aG;by_cases gJ:t[k+u]? =N 45
    .rw[ua1 gJ] at bH;have az:=kaj gJ;have bG:decide ((k:Int)+u<t.length)=K:=(by simp;omega);have ht:((u:Int)==0)=J:=(by simp;omega);have NA:∀ w,(Instr.index 9 (Q ⟨t.toArray⟩) (I U ((k:Int)+u))).run prog w= .ok (I ai 45) w:=kaX (P:=prog) underlying9 gJ;have vY:∀ w,(Instr.slice 9 (Q ⟨t.toArray⟩) (N (I U ((k:Int)+u+1))) Z Z).run prog w= .ok (Q ⟨(t.drop (k+u+1)).toArray⟩) w:=kov t (k+u+1) oM;clear gJ;rcases ir:kaU (t.drop (k+u+1)) with _|⟨hi,aX⟩
     .rw[ir] at bH;subst bH;have rB:=hD (krD ir);clear ir;have r0:=cj.cells;have d5:=cj.free;rw[kbJ,kbJ,kbJ,kbJ] at r0;exact klW
     .rw[ir] at bH;have rB:=hD (krC ir);have g5:=krF ir;rw[ud9] at g5;simp only at bH;have Ds:((aX:Int)==0)=J:=(by simp;omega);clear ir;by_cases nm:hi<lo
      .rw[ua1 nm] at bH;subst bH;have NB:decide (hi.toNat<lo.toNat)=K:=(by have:=ul3.1 nm;simp;omega);have r0:=cj.cells;have d5:=cj.free;rw[kbJ,kbJ,kbJ,kbJ] at r0;clear nm;exact klW
      .rw[ua0 nm] at bH;have eI:lo.toNat≤hi.toNat:=Nat.le_of_not_lt fun h=>nm (ul3.2 h);have NB:decide (hi.toNat<lo.toNat)=J:=(by simp;omega);rw[un6 (k+u) 1 aX] at bH;have cp:=hD bH;clear nm bH;go_wp2_with fail;refine (gI.out wr).mono ?_;rintro e aq ⟨rfl,pk,rfl⟩;go_wp2_with fail;refine (rB.out (wr.drewN pk)).mono ?_;rintro e aq ⟨rfl,As,rfl⟩;go_wp2_with fail;obtain ⟨aF,bW⟩:=xE (wr.drewN (pk+As));have dZ:LBlk aF (w.heap.size+1) S:=(by rw[bW];exact b0);have lI:LBlk aF w kad:=(by rw[bW];exact cj);have bs:H w w aF:=(by rw[bW];exact kbm dR (pk+As));rw[←bW];clear bW b0 cj dR;obtain ⟨⟨aN,aM⟩,aZ,bC⟩:=dZ.cells;obtain ⟨⟨f0,b2⟩,cB,dS⟩:=dZ.free;have hg:w.heap.size+1<aF.heap.size:=Blk.lt dZ;go_region_with (first|(go_at_call 233;refine (kr5 lo.toNat hi.toNat _ eI (by have:=hi.toNat_lt;omega)).mono ?_;rintro e a6 ⟨rfl,b3⟩;have iM:=Blk.below (Blk.drew dZ) b3 hg;obtain ⟨⟨d8,g1⟩,eN,gV⟩:=LBlk.cells iM;clear iM)|(go_at_call 232;refine (knU S (kbg lo.toNat hi.toNat) _).mono ?_;rintro e aK ⟨aG,bv⟩;rw[kdT] at aG;subst aG;have oF:=Blk.below (Blk.below (Blk.drew dZ) b3 hg) bv (by have:=b3.size;exact ua7 hg this);obtain ⟨⟨bi,aW⟩,bc,br⟩:=LBlk.cells oF;obtain ⟨⟨bw,aL⟩,bJ,dn⟩:=LBlk.free oF;clear oF))
       all_goals
        go_wp2_with fail;go_roundg f
        case measure=>omega
        case rel=>exact kp7 (k':=k+u+(1+aX)) oM oM cp dZ lI bs b3 bv
    .rw[ua0 gJ] at bH;have cp:=hD bH;clear bH;rcases an:t[k+u]? with _|c
     .have bG:decide ((k:Int)+u<t.length)=J:=(by have:=uc6.1 an;simp;omega);have ht:((u:Int)==0)=J:=(by simp;omega);have a8:=hD an;have NC:=hD gJ;clear an gJ;exact kl4
     .have az:=kaj an;have bG:decide ((k:Int)+u<t.length)=K:=(by simp;omega);have ht:((u:Int)==0)=J:=(by simp;omega);have g4:=kaX (P:=prog) underlying9 an;have NA:∀ w,(Instr.index 9 (Q ⟨t.toArray⟩) (I U ((k:Int)+u))).run prog w= .ok (I ai c.toNat) w:=g4;have Yr:((c.toNat:Int)==45)=J:=kbj (c:=45) (fun e=>gJ (by rw[an,e]));have a8:=hD an;have NC:=hD gJ;clear an gJ g4;exact kl4
  .have p7:k=t.length:=oM;have bH:=cZ.out;rw[kxB t f k S oM] at bH;subst p7;subst bH;clear cZ;obtain ⟨⟨aN,aM⟩,aZ,bC⟩:=b0.cells;obtain ⟨⟨cU,bE⟩,c2,j4⟩:=cj.cells;obtain ⟨⟨eD,eS⟩,il,ma⟩:=cj.free;have cf:=hD (cj.all S);have vX:=hD (khH dR (uf1 w) (I Y (wd S 0)) (I Y (wd S 1)) (I Y (wd S 2)) (I Y (wd S 3)));clear cj b0 dR;go_wp2_with fail;obtain ⟨⟨bi,aW⟩,bc,br⟩:=cf.o.cells;refine ub2 (v:=ag #[lsV S,aj]) (by simp[results,results224,go_sem,bi,aW,bc,br,lsV,lsC,wds]) rfl ?_;exact ⟨rfl,vX.o⟩
end Go.Proofs.YtamhdmkolfmmdaaGreatDoor
namespace Go.Proofs
open Go.Shelf
def Tryz.mcf:Go.Shelf.Ren:=⟨fun|137=>207|217=>198|266=>218|n=>n,fun|9=>9|5=>5|3=>3|n=>n,fun|n=>n⟩
def Tryz.mcr:Go.Proofs.Lays.n137 Tryz.prog Tryz.mcf:= {
 mixed:=by kernel_rfl
 f137:=Tryz.func207.trans (congrArg some (by kernel_rfl))
 f217:=Tryz.func198.trans (congrArg some (by kernel_rfl))
 f266:=Tryz.func218.trans (congrArg some (by kernel_rfl))
 t3:=Tryz.underlying3
 a3:=Tryz.isAgg3
 z3:=Tryz.sizeOf3
 v3:=Tryz.zeroValue3
 t5:=Tryz.underlying5
 a5:=Tryz.isAgg5
 z5:=Tryz.sizeOf5
 v5:=Tryz.zeroValue5
 t9:=Tryz.underlying9
 a9:=Tryz.isAgg9
 z9:=Tryz.sizeOf9
 v9:=Tryz.zeroValue9 }
open Go.RowKit in
def Tryz.strings_IndexByte (s:ByteArray) (c:Int) (w:World):
 Calls Tryz.prog 207 #[.string s, .int .u8 c] w fun e w'=>e= .returned (.int .i64 (Lib.indexByte s.data.toList c.toNat.toUInt8))∧w'=w:=Any.strings_IndexByte Tryz.mcr s c w
open Go.Lib in
open Go.Lib in
open Go.Lib in
open Go.Lib in
open Go.RowKit Go.Sort Go.Lib in
open Go.RowKit Go.Lib in
open Go.RowKit Go.Lib in
open Go.RowKit Go.Lib in
open Go.RowKit Go.Lib in
open Go.RowKit Go.Lib in
open Go.RowKit Go.Lib in
open Go.RowKit Go.Lib in
open Go.RowKit Go.Lib in
def Tryz.mce:Go.Shelf.Ren:=⟨fun|138=>88|195=>134|218=>135|143=>136|219=>171|217=>198|225=>199|224=>200|267=>201|266=>218|314=>219|n=>n,fun|9=>9|3=>3|4=>4|5=>5|0=>0|46=>158|146=>278|51=>271|n=>n,fun|1=>0|n=>n⟩
def Tryz.mcp:Go.Proofs.Lays.n138 Tryz.prog Tryz.mce:= {
 mixed:=by kernel_rfl
 f138:=Tryz.func88.trans (congrArg some (by kernel_rfl))
 f143:=Tryz.func136.trans (congrArg some (by kernel_rfl))
 f195:=Tryz.func134.trans (congrArg some (by kernel_rfl))
 f217:=Tryz.func198.trans (congrArg some (by kernel_rfl))
 f218:=Tryz.func135.trans (congrArg some (by kernel_rfl))
 f219:=Tryz.func171.trans (congrArg some (by kernel_rfl))
 f224:=Tryz.func200.trans (congrArg some (by kernel_rfl))
 f225:=Tryz.func199.trans (congrArg some (by kernel_rfl))
 f266:=Tryz.func218.trans (congrArg some (by kernel_rfl))
 f267:=Tryz.func201.trans (congrArg some (by kernel_rfl))
 f314:=Tryz.func219.trans (congrArg some (by kernel_rfl))
 t0:=Tryz.underlying0
 a0:=Tryz.isAgg0
 z0:=Tryz.sizeOf0
 v0:=Tryz.zeroValue0
 t3:=Tryz.underlying3
 a3:=Tryz.isAgg3
 z3:=Tryz.sizeOf3
 v3:=Tryz.zeroValue3
 t4:=Tryz.underlying4
 a4:=Tryz.isAgg4
 z4:=Tryz.sizeOf4
 v4:=Tryz.zeroValue4
 t5:=Tryz.underlying5
 a5:=Tryz.isAgg5
 z5:=Tryz.sizeOf5
 v5:=Tryz.zeroValue5
 t9:=Tryz.underlying9
 a9:=Tryz.isAgg9
 z9:=Tryz.sizeOf9
 v9:=Tryz.zeroValue9
 t46:=Tryz.underlying158
 a46:=Tryz.isAgg158
 z46:=Tryz.sizeOf158
 v46:=Tryz.zeroValue158
 t51:=Tryz.underlying271
 a51:=Tryz.isAgg271
 z51:=Tryz.sizeOf271
 v51:=Tryz.zeroValue271
 t146:=Tryz.underlying278
 a146:=Tryz.isAgg278
 z146:=Tryz.sizeOf278
 v146:=Tryz.zeroValue278
 g1:=by kernel_rfl }
open Go.RowKit Go.Lib in
def Tryz.strings_Count_one (s:ByteArray) (c:UInt8) (w:World):
 Calls Tryz.prog 88 #[.string s, .string ⟨#[c]⟩] w fun e w'=>e= .returned (.int .i64 (Lib.countByte s.data.toList c))∧w'=w:=Any.strings_Count_one Tryz.mcp s c w
open Go.RowKit Go.Lib in
open Go.RowKit Go.Lib in
open Go.RowKit Go.Lib in
open Go.RowKit Go.Lib in
open Go.RowKit Go.Sort Go.Lib in
open Go.RowKit Go.Sort Go.Lib in
open Go.RowKit Go.Sort Go.Lib in
open Go.RowKit Go.Sort Go.Lib in
open Go.RowKit Go.Sort Go.Lib in
open Go.RowKit Go.Lib in
open Go.Lib in
open Go.Lib in
def Tryz.mcd:Go.Shelf.Ren:=⟨fun|110=>61|109=>98|n=>n,fun|31=>80|9=>9|4=>4|3=>3|0=>0|n=>n,fun|n=>n⟩
def Tryz.mcs:Go.Proofs.Lays.n110 Tryz.prog Tryz.mcd:= {
 mixed:=by kernel_rfl
 f109:=Tryz.func98.trans (congrArg some (by kernel_rfl))
 f110:=Tryz.func61.trans (congrArg some (by kernel_rfl))
 t0:=Tryz.underlying0
 a0:=Tryz.isAgg0
 z0:=Tryz.sizeOf0
 v0:=Tryz.zeroValue0
 t3:=Tryz.underlying3
 a3:=Tryz.isAgg3
 z3:=Tryz.sizeOf3
 v3:=Tryz.zeroValue3
 t4:=Tryz.underlying4
 a4:=Tryz.isAgg4
 z4:=Tryz.sizeOf4
 v4:=Tryz.zeroValue4
 t9:=Tryz.underlying9
 a9:=Tryz.isAgg9
 z9:=Tryz.sizeOf9
 v9:=Tryz.zeroValue9
 t31:=Tryz.underlying80
 a31:=Tryz.isAgg80
 z31:=Tryz.sizeOf80
 v31:=Tryz.zeroValue80 }
open Go.Lib in
def Tryz.slices_Contains_string (b vQ n c:Nat) (zs:List ByteArray) (x:ByteArray) (w:World) (bd:n≤zs.length) (gs:n≤9223372036854775807) (an:∀ j,j<zs.length→w.cell? ⟨b,vQ+j,none⟩=some (.string (zs.getD j ByteArray.empty))):
 Calls Tryz.prog 61 #[.slice (some ⟨b,vQ,none⟩) n c, .string x] w fun e w'=>e= .returned (.bool (Lib.containsS (zs.take n) x))∧w'=w:=Any.slices_Contains_string Tryz.mcs b vQ n c zs x w bd gs an
open Go.Lib in
def Tryz.mb4:Go.Shelf.Ren:=⟨fun|15=>64|n=>n,fun|22=>47|3=>3|4=>4|n=>n,fun|n=>n⟩
def Tryz.mbU:Go.Proofs.Lays2.n15 Tryz.prog Tryz.mb4:= {
 mixed:=by kernel_rfl
 f15:=Tryz.func64.trans (congrArg some (by kernel_rfl))
 t3:=Tryz.underlying3
 a3:=Tryz.isAgg3
 z3:=Tryz.sizeOf3
 v3:=Tryz.zeroValue3
 t4:=Tryz.underlying4
 a4:=Tryz.isAgg4
 z4:=Tryz.sizeOf4
 v4:=Tryz.zeroValue4
 t22:=Tryz.underlying47
 a22:=Tryz.isAgg47
 z22:=Tryz.sizeOf47
 v22:=Tryz.zeroValue47
 i3:=by kernel_rfl }
open Go.RowKit Go.Lib in
def Tryz.slices_Clone_int (b vQ n c:Nat) (zs:List Int) (w:World) (bd:n≤zs.length) (gs:n*8≤140737488355328) (an:∀ j,j<zs.length→w.cell? ⟨b,vQ+j,none⟩=some (.int .i64 (zs.getD j 0))):
 Calls Tryz.prog 64 #[.slice (some ⟨b,vQ,none⟩) n c] w fun e w'=>∃ cH,e= .returned cH∧w'.ownsRow w.heap.size 3 1 cH n ((zs.take n).map (Value.int .i64))∧cH≠ .slice none 0 0∧Below w.heap.size w w':=Any.slices_Clone_int Tryz.mbU b vQ n c zs w bd gs an
open Go.RowKit Go.Lib in
def Tryz.slices_Clone_int_nil (n c:Nat) (w:World):
 Calls Tryz.prog 64 #[.slice none n c] w fun e w'=>e= .returned (.slice none 0 0)∧w'=w:=Any.slices_Clone_int_nil Tryz.mbU n c w
open Go.RowKit Go.Lib in
def Tryz.slices_Clone_int_zero (a:Addr) (c:Nat) (w:World):
 Calls Tryz.prog 64 #[.slice (some a) 0 c] w fun e w'=>∃ cH,e= .returned cH∧w'.ownsRow w.heap.size 3 1 cH 0 []∧cH≠ .slice none 0 0∧Below w.heap.size w w':=Any.slices_Clone_int_zero Tryz.mbU a c w
end Go.Proofs
namespace Go.Proofs.YtamhdmkolfmmdaaGreatDoor
open Go.RowKit
variable {P:Prop}
def kgs (h:P:=by exact ⟨Z,0,[],rfl,⟨rfl,fun h=>absurd h (by simp)⟩,rfl⟩):=h
def R8 (w:O) (g:Nat) (v0 dX eb v3 v4 v5 fw eQ:C):Prop:=Blk w g 105 #[v0,dX,eb,v3,v4,v5,fw,eQ]
def bR {aF aq:O} {v0 dX eb v3 v4 v5 fw eQ:C} (h:aF=aq.alloc (y #[v0,dX,eb,v3,v4,v5,fw,eQ] 105)):R8 aF aq v0 dX eb v3 v4 v5 fw eQ:=bM h
section
variable {w:O} {g:Nat} {v0 dX eb v3 v4 v5 fw eQ:C}
theorem R8.cells (h:R8 w g v0 dX eb v3 v4 v5 fw eQ):((w.cell? ⟨g,0,Z⟩=N v0∧w.cell? ⟨g,1,Z⟩=N dX)∧(w.cell? ⟨g,2,Z⟩=N eb∧w.cell? ⟨g,3,Z⟩=N v3))∧((w.cell? ⟨g,4,Z⟩=N v4∧w.cell? ⟨g,5,Z⟩=N v5)∧(w.cell? ⟨g,6,Z⟩=N fw∧w.cell? ⟨g,7,Z⟩=N eQ)):=
 ⟨⟨⟨Blk.cell h 0,Blk.cell h 1⟩,Blk.cell h 2,Blk.cell h 3⟩,⟨Blk.cell h 4,Blk.cell h 5⟩,Blk.cell h 6,Blk.cell h 7⟩
theorem R8.free (h:R8 w g v0 dX eb v3 v4 v5 fw eQ):((w.frozen? ⟨g,0,Z⟩=J∧w.frozen? ⟨g,1,Z⟩=J)∧(w.frozen? ⟨g,2,Z⟩=J∧w.frozen? ⟨g,3,Z⟩=J))∧((w.frozen? ⟨g,4,Z⟩=J∧w.frozen? ⟨g,5,Z⟩=J)∧(w.frozen? ⟨g,6,Z⟩=J∧w.frozen? ⟨g,7,Z⟩=J)):=
 ⟨⟨⟨Blk.frozen h 0,Blk.frozen h 1⟩,Blk.frozen h 2,Blk.frozen h 3⟩,⟨Blk.frozen h 4,Blk.frozen h 5⟩,Blk.frozen h 6,Blk.frozen h 7⟩
def mae (w:O) (g:Nat) (aT aU aX a2 d7 hI hJ hK:C):O:=
 (((((((w.setCell ⟨g,0,Z⟩ aT).setCell ⟨g,1,Z⟩ aU).setCell ⟨g,2,Z⟩ aX).setCell ⟨g,3,Z⟩ a2).setCell ⟨g,4,Z⟩ d7).setCell ⟨g,5,Z⟩ hI).setCell ⟨g,6,Z⟩ hJ).setCell ⟨g,7,Z⟩ hK
theorem R8.s0 (h:R8 w g v0 dX eb v3 v4 v5 fw eQ) (u:C):R8 (w.setCell ⟨g,0,Z⟩ u) g u dX eb v3 v4 v5 fw eQ:=Blk.mac h 0 u
theorem R8.s1 (h:R8 w g v0 dX eb v3 v4 v5 fw eQ) (u:C):R8 (w.setCell ⟨g,1,Z⟩ u) g v0 u eb v3 v4 v5 fw eQ:=Blk.mac h 1 u
theorem R8.s2 (h:R8 w g v0 dX eb v3 v4 v5 fw eQ) (u:C):R8 (w.setCell ⟨g,2,Z⟩ u) g v0 dX u v3 v4 v5 fw eQ:=Blk.mac h 2 u
theorem R8.s3 (h:R8 w g v0 dX eb v3 v4 v5 fw eQ) (u:C):R8 (w.setCell ⟨g,3,Z⟩ u) g v0 dX eb u v4 v5 fw eQ:=Blk.mac h 3 u
theorem R8.s4 (h:R8 w g v0 dX eb v3 v4 v5 fw eQ) (u:C):R8 (w.setCell ⟨g,4,Z⟩ u) g v0 dX eb v3 u v5 fw eQ:=Blk.mac h 4 u
theorem R8.s5 (h:R8 w g v0 dX eb v3 v4 v5 fw eQ) (u:C):R8 (w.setCell ⟨g,5,Z⟩ u) g v0 dX eb v3 v4 u fw eQ:=Blk.mac h 5 u
theorem R8.s6 (h:R8 w g v0 dX eb v3 v4 v5 fw eQ) (u:C):R8 (w.setCell ⟨g,6,Z⟩ u) g v0 dX eb v3 v4 v5 u eQ:=Blk.mac h 6 u
theorem R8.s7 (h:R8 w g v0 dX eb v3 v4 v5 fw eQ) (u:C):R8 (w.setCell ⟨g,7,Z⟩ u) g v0 dX eb v3 v4 v5 fw u:=Blk.mac h 7 u
theorem R8.all (h:R8 w g v0 dX eb v3 v4 v5 fw eQ) (aT aU aX a2 d7 hI hJ hK:C):R8 (mae w g aT aU aX a2 d7 hI hJ hK) g aT aU aX a2 d7 hI hJ hK:=
 (((((((h.s0 aT).s1 aU).s2 aX).s3 a2).s4 d7).s5 hI).s6 hJ).s7 hK
theorem R8.below {B:Nat} {w':O} (h:R8 w g v0 dX eb v3 v4 v5 fw eQ) (ak:H B w w') (hg:g<B):R8 w' g v0 dX eb v3 v4 v5 fw eQ:=Blk.below h ak hg
theorem R8.kept {F:Nat→Prop} {w':O} (h:R8 w g v0 dX eb v3 v4 v5 fw eQ) (ak:Kept F w w') (hg:¬F g):R8 w' g v0 dX eb v3 v4 v5 fw eQ:=Blk.kept h ak hg
theorem R8.alloc (h:R8 w g v0 dX eb v3 v4 v5 fw eQ) (o:Obj):R8 (w.alloc o) g v0 dX eb v3 v4 v5 fw eQ:=Blk.alloc h o
theorem R8.lt (h:R8 w g v0 dX eb v3 v4 v5 fw eQ):g<w.heap.size:=Blk.lt h
theorem LBlk.below {B:Nat} {w':O} {S:LS} (h:LBlk w g S) (ak:H B w w') (hg:g<B):LBlk w' g S:=Blk.below h ak hg
theorem R8.mk0 (w:O) (g:Nat) (hg:g=w.heap.size):R8 (w.alloc (y #[I .i64 0,I Y 0,I Y 0,I Y 0,I Y 0,I U 0,I U 0,D Z 0 0] 105)) g (I U 0) (I Y 0) (I Y 0) (I Y 0) (I Y 0) (I U 0) (I U 0) (D Z 0 0):=by subst hg;exact Blk.new _ _ _
theorem kcM {B:Nat} {w':O} (h:H B w w') (hg:B≤g) (aT aU aX a2 d7 hI hJ hK:C):H B w (mae w' g aT aU aX a2 d7 hI hJ hK):=
 (((((((h.setCell hg aT).setCell hg aU).setCell hg aX).setCell hg a2).setCell hg d7).setCell hg hI).setCell hg hJ).setCell hg hK
theorem kas {F:Nat→Prop} {w':O} (h:Kept F w w') (hg:F g∨w.heap.size≤g) (aT aU aX a2 d7 hI hJ hK:C):Kept F w (mae w' g aT aU aX a2 d7 hI hJ hK):=
 (((((((h.setCell (p:=⟨g,0,Z⟩) hg aT).setCell (p:=⟨g,1,Z⟩) hg aU).setCell (p:=⟨g,2,Z⟩) hg aX).setCell (p:=⟨g,3,Z⟩) hg a2).setCell (p:=⟨g,4,Z⟩) hg d7).setCell (p:=⟨g,5,Z⟩) hg hI).setCell (p:=⟨g,6,Z⟩) hg hJ).setCell (p:=⟨g,7,Z⟩) hg hK
theorem Blk.mae {mH:Nat} {t:ah} {cs:Array C} (h:Blk w mH t cs) (hg:mH≠g) (aT aU aX a2 d7 hI hJ hK:C):Blk (mae w g aT aU aX a2 d7 hI hJ hK) mH t cs:=
 (((((((h.far hg aT).far hg aU).far hg aX).far hg a2).far hg d7).far hg hI).far hg hJ).far hg hK
end
def kjb (S:LS):C:=aa #[I .i64 2,I Y (wd S 0),I Y (wd S 1),I Y (wd S 2),I Y (wd S 3),I U 0,I U 0,D Z 0 0]
def kC1 (w:O) (S:LS) (e:Ending) (w':O):Prop:=e=ac (kjb S)∧H w w w'
def kv5 (b:UInt8) (w:O):L prog 203 #[I .u8 b.toNat] w (kC1 w (kaa b.toNat)):=by go_enter func203,ntmps203;go_wp2_with fail;have rC:H w w ((w.alloc (y #[I .i64 0,I Y 0,I Y 0,I Y 0,I Y 0,I U 0,I U 0,D Z 0 0] 105)).alloc (y #[I .u8 b.toNat] 5)):=((ub5 _ _).alloc (nR) _).alloc (by simp) _;have kp:=(R8.mk0 w w rfl).alloc (y #[I .u8 b.toNat] 5);refine (kpN b (w.heap.size+1) _ (by simp) (by simp)).mono ?_;rintro e aq ⟨aG,cm⟩;rw[kdT] at aG;subst aG;have dT:=kp.below cm (by simp;omega);have ak:H w w aq:=rC.trans (cm.mono (by simp;omega));obtain ⟨⟨⟨aN,aM⟩,aZ,bC⟩,⟨b1,c5⟩,ct,bI⟩:=dT.cells;obtain ⟨⟨⟨f0,b2⟩,cB,dS⟩,⟨eJ,jN⟩,mP,mQ⟩:=dT.free;have b4:=hD (dT.all (I U 2) (I Y (wd (kaa b.toNat) 0)) (I Y (wd (kaa b.toNat) 1)) (I Y (wd (kaa b.toNat) 2)) (I Y (wd (kaa b.toNat) 3)) (I U 0) (I U 0) (D Z 0 0));have aV:=hD (kcM ak (uf1 w) (I U 2) (I Y (wd (kaa b.toNat) 0)) (I Y (wd (kaa b.toNat) 1)) (I Y (wd (kaa b.toNat) 2)) (I Y (wd (kaa b.toNat) 3)) (I U 0) (I U 0) (D Z 0 0));clear kp dT ak rC cm;go_wp2_with fail;obtain ⟨⟨⟨bi,aW⟩,bc,br⟩,⟨bL,d0⟩,d1,d2⟩:=b4.o.cells;unfold mae at bi aW bc br bL d0 d1 d2;refine ub2 (v:=kjb (kaa b.toNat)) (by simp[results,results203,go_sem,bi,aW,bc,br,bL,d0,d1,d2,kjb]) rfl ?_;exact ⟨rfl,aV.o⟩
def kv8 (g:Nat) (w:O) (hg:g<w.heap.size) (an:w.cell? ⟨g,0,Z⟩=N (I ai 10)):L prog 220 #[D (N ⟨g,0,Z⟩) 1 1] w (kfj w (kaa 10)):=kpN 10 g w hg an
def kAK (w:O):L prog 205 #[] w (kfj w ka2):=by go_enter func205,ntmps205;go_wp2_with fail;have rC:H w w ((w.alloc (y #[I .u64 0,I Y 0,I Y 0,I Y 0] 102)).alloc (y #[I .u8 10] 5)):=((ub5 _ _).alloc (nR) _).alloc (by simp) _;have kp:=(LBlk.mk0 w w rfl).alloc (y #[I .u8 10] 5);refine (kv8 (w.heap.size+1) _ (by simp) (by simp)).mono ?_;rintro e aq ⟨aG,cm⟩;subst aG;have dT:=kp.below cm (by simp;omega);have ak:=rC.trans (cm.mono (by simp;omega));clear kp rC cm;go_wp2_with fail;refine (kpZ (kaa 10) aq).mono ?_;rintro e aF ⟨aG,bs⟩;have gi:=dT.below bs (Blk.lt dT);have gW:=ak.trans (bs.mono ak.size);rw[kdT] at aG;subst aG;clear dT ak bs;obtain ⟨⟨aN,aM⟩,aZ,bC⟩:=gi.cells;obtain ⟨⟨f0,b2⟩,cB,dS⟩:=gi.free;have cf:=hD (gi.all (kah (kaa 10)));have vX:=hD (khH gW (uf1 w) (I Y (wd (kah (kaa 10)) 0)) (I Y (wd (kah (kaa 10)) 1)) (I Y (wd (kah (kaa 10)) 2)) (I Y (wd (kah (kaa 10)) 3)));clear gi gW;go_wp2_with fail;obtain ⟨⟨bi,aW⟩,bc,br⟩:=cf.o.cells;refine ub2 (v:=lsV ka2) (by simp[results,results205,go_sem,bi,aW,bc,br,lsV,lsC,wds,ka2]) rfl ?_;exact ⟨rfl,vX.o⟩
def kld (h:P:=by go_wp2_with fail;go_quiet (fail);go_wp2_with fail;exact ⟨rfl,rfl,⟨_,eR.o.drewN _⟩,ei.o.drewN _⟩):=h
def kid (h:P:=by
 have bb:((k:Int)==(k0:Int))=J:=(by simp;omega);have md:k0<T.length:=(by have:=eR.o.2.1;omega);obtain ⟨c,an⟩:∃ c,T[k0]? =N c:=⟨T[k0],ua3 md⟩;have ND:=kaX (P:=prog) underlying9 an;by_cases p5:c=48
 .subst p5;rw[show ((48:UInt8).toNat:Int)=48 from rfl] at ND;by_cases fZ:k0+1<k
  .have db:decide ((k0:Int)+1<(k:Int))=K:=(by simp;omega);have bd:fG=Z:=(by rw[cf.o,kfT,←kp];exact ua1 (.inr ⟨an,fZ⟩));subst bd;have a8:=hD an;clear an kp;exact kld
  .have db:decide ((k0:Int)+1<(k:Int))=J:=(by simp;omega);have bd:fG=N (n,k):=(by rw[cf.o,kfT,←kp];exact ua0 (by rintro (h|h);exact aD h;exact fZ h.2));subst bd;have a8:=hD an;clear an kp;go_wp2_with fail;go_quiet (fail);go_wp2_with fail;go_ret;exact ⟨rfl,eR.o.drewN _,ei.o.drewN _⟩
 .have db:((c.toNat:Int)==48)=J:=kbj (c:=48) p5;have bd:fG=N (n,k):=(by rw[cf.o,kfT,←kp];exact ua0 (by rintro (h|h);exact aD h;rw[an] at h;injection h.1 with h;exact p5 h));subst bd;have a8:=hD an;have Ys:=hD p5;clear an kp p5;go_wp2_with fail;go_quiet (fail);go_wp2_with fail;go_ret;exact ⟨rfl,eR.o.drewN _,ei.o.drewN _⟩):=h
def kiJ (h:P:=by subst aD;have bd:fG=Z:=(by rw[cf.o,kfT,←kp];exact ua1 (.inl rfl));subst bd;have bb:((k:Int)==(k:Int))=K:=(by simp);exact kld):=h
def nV (r:Option (Nat×Nat)):Option (C×Nat):=r.map fun p=>(I U p.1,p.2)
theorem kfT (T:List UInt8) (k:Nat):kaW T k=match mas T (T.length+1) k 0 with
 |none=>none
 |some (n,e)=>if e=k∨(T[k]? =some 48∧k+1<e) then none else some (n,e):=rfl
def kC6 (T:List UInt8) (w:O) (g k0:Nat) (R:Option (Nat×Nat)) (f:Nat) (v:C) (wr:O):Prop:=
 ∃ k n:Nat,v=I U n∧PS T wr g k∧k0≤k∧n≤64∧T.length-k<f∧Hz (mas T f k n=R)∧Kept (isG g) w wr
def kpS {T:List UInt8} {g k0:Nat} (w:O) (h:PS T w g k0):L prog 208 #[ab (N ⟨g,0,Z⟩)] w (kfh T w g (nV (kaW T k0))):=by
 obtain ⟨R,aH⟩:=xE (mas T (T.length+1) k0 0);obtain ⟨fG,cO⟩:=xE (kaW T k0);rw[←cO];obtain ⟨cf,a1,AD⟩:=hd3 cO aH h;obtain ⟨aN,aM,bE⟩:=h.cells;have dN:=bZ T;have dr:=h.2.2;have jw:=h.2.1;clear aH cO h;go_enter func208,ntmps208;go_wp2_with fail;go_loopg [4] (T.length+1) (fun f v wr=>kC6 T w g k0 R f v wr)
 case atStart=>exact ⟨k0,0,rfl,AD.o,oM,oM,oM,a1.o.symm,Kept.refl _ _⟩
 case round=>
  clear aN aM bE;obtain ⟨k,n,rfl,aO,af,ao,av,cZ,aJ⟩:=hrel;obtain ⟨f,rfl⟩:=xS gk;obtain ⟨aN,aM,bE⟩:=aO.cells;have eR:=hD aO;have ei:=hD aJ;have bH:=cZ.out;have p7:=aO.2.1;clear aO aJ cZ;rcases ak:T[k]? with _|b
  .have eI:decide (k<T.length)=J:=(by have:=uc6.1 ak;simp;omega);rw[mas,ak] at bH;have kp:N (n,k)=mas T (T.length+1) k0 0:=bH.trans a1.o;clear ak bH;by_cases aD:k=k0
   .exact kiJ
   .exact kid
  .have az:=kaj ak;have eI:decide ((k:Int)<(T.length:Int))=K:=(by simp;omega);have g4:=kaX (P:=prog) underlying9 ak;rw[kwh ak] at bH;obtain ⟨kH,nz⟩:=u8b b;by_cases hd:48≤b∧b≤57
   .rw[ua1 hd] at bH;have mR:48≤(b.toNat:Int)∧(b.toNat:Int)≤57:=(by have aL:=uf8.1 hd.1;have bJ:=uf8.1 hd.2;rw[show (48:UInt8).toNat=48 from rfl] at aL;rw[show (57:UInt8).toNat=57 from rfl] at bJ;omega);obtain ⟨mR,kK⟩:=mR;have g1:decide (48≤(b.toNat:Int))=K:=(by simp;omega);have eN:decide ((b.toNat:Int)≤57)=K:=(by simp;omega);have aV:=hD ak;clear hd ak;by_cases AB:64<n*10+(b.toNat-48)
    .rw[ua1 AB] at bH;have bd:fG=Z:=(by rw[cf.o,kfT,←a1.o,←bH]);subst bd;have gV:decide (64<(n:Int)*10+((b.toNat:Int)-48))=K:=(by simp;omega);clear bH;go_wp2_with fail;go_quiet (fail);go_wp2_with fail;refine (kc7 _ (eR.o.drewN _) aV.o).mono ?_;rintro e aq ⟨rfl,gr,fZ⟩;go_wp2_with fail;exact ⟨rfl,rfl,⟨_,gr⟩,(ei.o.drewN _).maa fZ⟩
    .rw[ua0 AB] at bH;have cp:=hD bH;have gV:decide (64<(n:Int)*10+((b.toNat:Int)-48))=J:=(by simp;omega);clear bH;go_wp2_with fail;go_quiet (fail);go_wp2_with fail;refine (kc7 _ (eR.o.drewN _) aV.o).mono ?_;rintro e aq ⟨rfl,gr,fZ⟩;go_wp2_with fail;go_roundg f
     case measure=>omega
     case rel=>exact ⟨k+1,n*10+(b.toNat-48),by rw[show ((n*10+(b.toNat-48):Nat):Int)=(n:Int)*10+((b.toNat:Int)-48) by omega],gr,oM,oM,oM,cp,(ei.o.drewN _).maa fZ⟩
   .rw[ua0 hd] at bH;have kp:N (n,k)=mas T (T.length+1) k0 0:=bH.trans a1.o;have mR:(b.toNat:Int)<48∨57<(b.toNat:Int):=(by rw[uf8,uf8,show (48:UInt8).toNat=48 from rfl,show (57:UInt8).toNat=57 from rfl] at hd;omega);clear hd ak bH;rcases mR with mR|mR
    .have g1:decide (48≤(b.toNat:Int))=J:=(by simp;omega);by_cases aD:k=k0
     .exact kiJ
     .exact kid
    .have g1:decide (48≤(b.toNat:Int))=K:=(by simp;omega);have eN:decide ((b.toNat:Int)≤57)=J:=(by simp;omega);by_cases aD:k=k0
     .exact kiJ
     .exact kid
def sV (r:Option (LS×Nat)):Option (C×Nat):=r.map fun p=>(lsV p.1,p.2)
def kDm (T:List UInt8) (w:O) (g f0:Nat) (R:Option Nat) (f:Nat) (wr:O):Prop:=
 ∃ k:Nat,PS T wr g k∧f0≤k∧T.length-k<f∧Hz (ka7 T f k=R)∧LBlk wr w kad∧Kept (isG g) w wr
def LBlk.kept {F:Nat→Prop} {w w':O} {g:Nat} {S:LS} (h:LBlk w g S) (k:Kept F w w') (hg:¬F g):LBlk w' g S:=Blk.kept h k hg
def LBlk.drewN {w:O} {g:Nat} {S:LS} (h:LBlk w g S) (n:Nat):LBlk (w.drewN n) g S:=h
theorem kAv {T:List UInt8} {f k:Nat} {b:UInt8} (ak:T[k]? =N b):ka7 T (f+1) k=if b=93 then N (k+1) else if b=92 then (match T[k+1]? with
 |none=>none
 |some _=>ka7 T f (k+2))
 else ka7 T f (k+1):=by
 rw[ka7,ak];try rfl
def kAw {T:List UInt8} {f k:Nat} (ak:T[k]? =Z):ka7 T (f+1) k=Z:=by rw[ka7,ak]
def krT (nb:Bool) (e:Nat) (r:Option LS):Option (LS×Nat):=match r with
 |none=>none
 |some S=>some (if nb then kah S else S,e)
def kkQ (T:List UInt8) (f0:Nat) (nb:Bool) (r:Option Nat):Option (LS×Nat):=match r with
 |none=>none
 |some e=>krT nb e (lsP (e-1-f0+1) ((T.drop f0).take (e-1-f0)) kad)
def PS.mcu {T:List UInt8} {w:O} {g k X:Nat} (h:PS T w g k) (hg:g≠X) (aT aU aX a2:C):PS T ((((w.setCell ⟨X,0,Z⟩ aT).setCell ⟨X,1,Z⟩ aU).setCell ⟨X,2,Z⟩ aX).setCell ⟨X,3,Z⟩ a2) g k:=
 ⟨(((h.1.far (p:=⟨X,0,Z⟩) hg aT).far (p:=⟨X,1,Z⟩) hg aU).far (p:=⟨X,2,Z⟩) hg aX).far (p:=⟨X,3,Z⟩) hg a2,h.2⟩
def kk7 (T:List UInt8) (w:O) (g k:Nat) (S:LS) (er:C) (a b:C) (wc:O):Prop:=
 ∃ X,a=ab (N ⟨X,0,Z⟩)∧b=er∧PS T wc g (k+1)∧LBlk wc w kad∧LBlk wc X S∧Kept (isG g) w wc∧w.heap.size<X
def kBC {T:List UInt8} {w aF a6:O} {g k:Nat} {S:LS} {er:C} (aO:PS T aF g (k+1)) (cR:LBlk aF w kad) (aJ:Kept (isG g) w aF) (ak:H aF.drew.heap.size aF.drew a6):
  kk7 T w g k S er (ab (N ⟨a6, 0, Z⟩)) er (a6.alloc (y #[I .u64 (wd S 0), I Y (wd S 1), I Y (wd S 2), I Y (wd S 3)] 102)) :=
 ⟨_, rfl, rfl, (PS.kept aO.drew (Kept.of_below (F := fun _ => False) ak) id).alloc _, (LBlk.below (LBlk.drewN cR 1) ak (Blk.lt cR)).alloc _, LBlk.mk _ S _ rfl,
  (aJ.drew.maa (Kept.of_below ak)).alloc _, ua7 (Blk.lt cR) ak.size⟩
def kBB {T:List UInt8} {w aF a6:O} {g k:Nat} {S:LS} {er:C} (aO:PS T aF g (k+1)) (cR:LBlk aF w kad) (aJ:Kept (isG g) w aF)
 (ak:H (aF.alloc (y #[I .u64 0,I Y 0,I Y 0,I Y 0] 102)).drew.heap.size (aF.alloc (y #[I .u64 0,I Y 0,I Y 0,I Y 0] 102)).drew a6):
 kk7 T w g k S er (ab (N ⟨aF,0,Z⟩)) er ((((a6.setCell ⟨aF,0,Z⟩ (I Y (wd S 0))).setCell ⟨aF,1,Z⟩ (I Y (wd S 1))).setCell ⟨aF,2,Z⟩ (I Y (wd S 2))).setCell ⟨aF,3,Z⟩ (I Y (wd S 3))):=by
 have hg:=aO.lt;have az:w.heap.size<aF.heap.size:=Blk.lt cR;have al:aF.heap.size<a6.heap.size:=(by have:=ak.size;simp at this;omega);have aD:LBlk a6 aF kad:=LBlk.below (LBlk.drewN (LBlk.mk0 aF _ rfl) 1) ak (by simp);have af:PS T a6 g (k+1):=PS.kept (aO.alloc _).drew (Kept.of_below (F:=fun _=>False) ak) id;have ao:LBlk a6 w kad:=LBlk.below (LBlk.drewN (cR.alloc _) 1) ak (by simp;omega);have av:Kept (isG g) w a6:=(aJ.alloc _).drew.maa (Kept.of_below ak);have dN:=av.size;have jb:w.heap.size≤aF.heap.size:=aJ.size
 exact ⟨_, rfl, rfl, ⟨(((af.1.far (by show g ≠ aF.heap.size; omega) _).far (by show g ≠ aF.heap.size; omega) _).far (by show g ≠ aF.heap.size; omega) _).far (by show g ≠ aF.heap.size; omega) _, af.2⟩,
  (((ao.far (by show w.heap.size ≠ aF.heap.size; omega) _).far (by show w.heap.size ≠ aF.heap.size; omega) _).far (by show w.heap.size ≠ aF.heap.size; omega) _).far (by show w.heap.size ≠ aF.heap.size; omega) _, aD.all S,
  (((av.setCell (p := ⟨aF, 0, Z⟩) (.inr jb) _).setCell (p := ⟨aF, 1, Z⟩) (.inr jb) _).setCell (p := ⟨aF, 2, Z⟩) (.inr jb) _).setCell (p := ⟨aF, 3, Z⟩) (.inr jb) _, az⟩
def krU {T:List UInt8} {g k0 f0:Nat} {nb:Bool} (w:O) (h:PS T w g k0) (dO:∀ aq,PS T aq g k0→L prog 138 #[ab (N ⟨g,0,Z⟩),I ai 94] aq (kbf T aq g (V nb) f0))
 (IH:f0≤T.length) (fG:Option (LS×Nat)) (R:Option Nat) (aH:R=ka7 T (T.length+1) f0) (cO:fG=kkQ T f0 nb R):L prog 206 #[ab (N ⟨g,0,Z⟩)] w (kfh T w g (sV fG)):=by
 have cf:=hD cO;have a1:=hD aH;have dN:=bZ T;have dr:=h.2.2;have hg:=h.lt;obtain ⟨b7,ix,HR⟩:=hd3 (dO _ (h.alloc (y #[I .u64 0,I Y 0,I Y 0,I Y 0] 102))) ((Kept.refl (isG g) w).alloc (y #[I .u64 0,I Y 0,I Y 0,I Y 0] 102)) (LBlk.mk0 w w rfl);clear cO aH h dO;go_enter func206,ntmps206;go_wp2_with fail;refine b7.o.mono ?_;rintro e aq ⟨rfl,gr,fZ⟩;have ch:¬isG g w.heap.size:=fun e=>absurd hg (by rw[show g=w.heap.size from e.symm];omega);have me:LBlk aq w kad:=HR.o.kept fZ ch;have lJ:=ix.o.maa fZ;obtain ⟨aN,aM,bE⟩:=gr.cells;clear b7 ix HR fZ;go_wp2_with fail;go_loopg [] (T.length+1) (fun f wr=>kDm T w g f0 R f wr)
 case atStart=>exact ⟨f0,gr,oM,oM,a1.o.symm,me,lJ⟩
 case round=>
  clear aN aM bE gr me lJ;obtain ⟨k,aO,af,ao,cZ,cR,aJ⟩:=hrel;obtain ⟨f,rfl⟩:=xS gk;have bH:=cZ.out;clear cZ;rcases ak:T[k]? with _|b
  .rw[kAw ak] at bH;subst bH;have bd:fG=Z:=cf.o;subst bd;have bF:=hD (kfW wr aO ak);clear ak;go_wp2_with fail;refine bF.o.mono ?_;rintro e aF ⟨rfl,en,cu⟩;go_wp2_with fail;exact ⟨rfl,rfl,en,aJ.maa cu⟩
  .have bF:=hD (kc7 wr aO ak);have az:=kaj ak;have g4:=kaX (P:=prog) underlying9 ak;rw[kAv ak] at bH;clear ak;by_cases ny:b=93
   .rw[ua1 ny] at bH;subst ny;rw[show ((93:UInt8).toNat:Int)=93 from rfl] at bF g4;subst bH;have bd:fG=krT nb (k+1) (lsP (k-f0+1) ((T.drop f0).take (k-f0)) kad):=cf.o;have cf:=hD bd;clear bd;go_wp2_with fail;refine bF.o.mono ?_;rintro e aF ⟨rfl,en,cu⟩;have mf:=cR.kept cu ch;have mg:=aJ.maa cu;obtain ⟨aN,aM,bE⟩:=en.cells;have mc:=ki5 T f0 k af oM;clear aO cR aJ bF cu;have kL:=kxz ((T.drop f0).take (k-f0));have dz:((T.drop f0).take (k-f0)).length=k-f0:=(by rw[ub8,ud9];omega);rw[dz] at kL;have kL:=fun w=>kL w oM;clear dz
    obtain ⟨S, er, kL, BQ⟩ : ∃ S er, (∀ w, L prog 224 #[Q ⟨((T.drop f0).take (k - f0)).toArray⟩] w fun e w' => e = ac (ag #[aa #[I .u64 (wd S 0), I Y (wd S 1), I Y (wd S 2), I Y (wd S 3)], er]) ∧ H w w w') ∧
      Hz ((er = aj ∧ fG = N (if nb then kah S else S, k + 1)) ∨ (er = kbX ∧ fG = Z)) := by
     rcases hls : lsP (k - f0 + 1) ((T.drop f0).take (k - f0)) kad with _ | S
     ·
      rw [hls] at kL
      exact ⟨kad, kbX, kL, .inr ⟨rfl, by rw [cf.o, hls]; rfl⟩⟩
     ·
      rw [hls] at kL
      exact ⟨S, aj, kL, .inl ⟨rfl, by rw [cf.o, hls]; rfl⟩⟩
    have fW:g<aF.heap.size:=en.lt;have aQ:IntKind.i64.wrap ((k:Int)+1-1)=(k:Int):=(by rw[Int.add_sub_cancel];exact uc5 _ oM);have bW:IntKind.i64.wrap (((k+1:Nat):Int)-1)=(k:Int):=aQ;have cl:IntKind.i64.wrap (k:Int)=(k:Int):=uc5 _ oM;go_wp2_with fail;go_cut [5,6] (fun a b wc=>kk7 T w g k S er a b wc)
    case first=>
     go_region_with ((go_at_call 224;refine (kL _).mono ?_;rintro e a6 ⟨rfl,b3⟩;try (have kz:=LBlk.below (LBlk.mk0 aF.drew aF rfl) b3 (by simp);obtain ⟨⟨z0,ca⟩,cI,z3⟩:=kz.cells;obtain ⟨⟨bu,bY⟩,cP,c8⟩:=kz.free)))
     all_goals
      go_wp2_with fail;go_meet
      case rel=>first|((with_reducible have bd:=kBC (S:=S) (er:=er) en mf mg b3);exact bd)|((with_reducible have bd:=kBB (S:=S) (er:=er) en mf mg b3);exact bd)
    case rest=>
     clear aN aM bE aQ bW cl kL mc g4 en mf mg;obtain ⟨X,rfl,rfl,qS,uo,vZ,xU,bG⟩:=hcut;obtain ⟨⟨aN,aM⟩,aZ,bC⟩:=vZ.cells;obtain ⟨⟨r0,d5⟩,fM,jM⟩:=uo.cells;obtain ⟨⟨xV,xW⟩,xX,xY⟩:=uo.free;rcases BQ.out with ⟨rfl,rfl⟩|⟨rfl,rfl⟩
     .cases nb with
      |false=>obtain ⟨dv,gt,fX⟩:=hd3 (uo.all S) (qS.mcu (X:=w.heap.size) oM (I Y (wd S 0)) (I Y (wd S 1)) (I Y (wd S 2)) (I Y (wd S 3))) ((((xU.setCell (p:=⟨w,0,Z⟩) (.inr (nR)) (I Y (wd S 0))).setCell (p:=⟨w,1,Z⟩) (.inr (nR)) (I Y (wd S 1))).setCell (p:=⟨w,2,Z⟩) (.inr (nR)) (I Y (wd S 2))).setCell (p:=⟨w,3,Z⟩) (.inr (nR)) (I Y (wd S 3)));clear uo qS xU vZ;go_wp2_with fail;obtain ⟨⟨bi,aW⟩,bc,br⟩:=dv.o.cells;refine ub2 (v:=lsV S) (by simp[results,results206,go_sem,bi,aW,bc,br,lsV,lsC,wds]) rfl ?_;exact ⟨rfl,gt.o,fX.o⟩
      |true=>go_wp2_with fail;refine (kpZ S wc).mono ?_;rintro e aK ⟨aG,bv⟩;rw[kdT] at aG;subst aG;have oG:LBlk aK w kad:=uo.below bv (Blk.lt uo);have jx:PS T aK g (k+1):=PS.kept qS (Kept.of_below (F:=fun _=>False) bv) id;have kM:Kept (isG g) w aK:=xU.maa (Kept.of_below bv);clear aN aM aZ bC r0 d5 fM jM xV xW xX xY;obtain ⟨⟨r0,d5⟩,fM,jM⟩:=oG.cells;obtain ⟨⟨xV,xW⟩,xX,xY⟩:=oG.free;obtain ⟨dv,gt,fX⟩:=hd3 (oG.all (kah S)) (jx.mcu (X:=w.heap.size) oM (I Y (wd (kah S) 0)) (I Y (wd (kah S) 1)) (I Y (wd (kah S) 2)) (I Y (wd (kah S) 3))) ((((kM.setCell (p:=⟨w,0,Z⟩) (.inr (nR)) (I Y (wd (kah S) 0))).setCell (p:=⟨w,1,Z⟩) (.inr (nR)) (I Y (wd (kah S) 1))).setCell (p:=⟨w,2,Z⟩) (.inr (nR)) (I Y (wd (kah S) 2))).setCell (p:=⟨w,3,Z⟩) (.inr (nR)) (I Y (wd (kah S) 3)));clear uo qS xU vZ oG jx kM bv;go_wp2_with fail;obtain ⟨⟨bi,aW⟩,bc,br⟩:=dv.o.cells;refine ub2 (v:=lsV (kah S)) (by simp[results,results206,go_sem,bi,aW,bc,br,lsV,lsC,wds]) rfl ?_;exact ⟨rfl,gt.o,fX.o⟩
     .unfold kbX;go_wp2_with fail;exact ⟨rfl,rfl,⟨_,qS⟩,xU⟩
   .rw[ua0 ny] at bH;have bb:((b.toNat:Int)==93)=J:=kbj (c:=93) ny;have db:((b.toNat:Int) != 93)=K:=(by simpa using bb);clear ny;by_cases hs:b=92
    .rw[ua1 hs] at bH;subst hs;rw[show ((92:UInt8).toNat:Int)=92 from rfl] at bF g4 bb db;rcases an:T[k+1]? with _|c
     .rw[an] at bH;subst bH;have bd:fG=Z:=cf.o;subst bd;go_wp2_with fail;refine bF.o.mono ?_;rintro e aF ⟨rfl,en,cu⟩;obtain ⟨aN,aM,bE⟩:=en.cells;have jv:=hD fun n=>kfW (aF.drewN n) (en.drewN n) an;have cp:=hD en;have a8:=hD an;clear an en;go_wp2_with fail;go_quiet (fail);go_wp2_with fail;refine (jv.o _).mono ?_;rintro e a6 ⟨rfl,h0,fd⟩;go_wp2_with fail;exact ⟨rfl,rfl,h0,((aJ.maa cu).drewN _).maa fd⟩
     .rw[an] at bH;have mS:=hD bH;clear bH;have ew:=kaj an;go_wp2_with fail;refine bF.o.mono ?_;rintro e aF ⟨rfl,en,cu⟩;obtain ⟨aN,aM,bE⟩:=en.cells;have jv:=hD fun n=>kc7 (aF.drewN n) (en.drewN n) an;have a8:=hD an;have cp:=hD en;clear an en;go_wp2_with fail;go_quiet (fail);go_wp2_with fail;refine (jv.o _).mono ?_;rintro e a6 ⟨rfl,h0,fd⟩;go_wp2_with fail;go_roundg f
      case measure=>omega
      case rel=>exact ⟨k+2,h0,oM,oM,mS.o,((cR.kept cu ch).drewN _).kept fd ch,((aJ.maa cu).drewN _).maa fd⟩
    .rw[ua0 hs] at bH;have t3:((b.toNat:Int)==92)=J:=kbj (c:=92) hs;have mS:=hD bH;clear bH hs;go_wp2_with fail;refine bF.o.mono ?_;rintro e aF ⟨rfl,en,cu⟩;obtain ⟨aN,aM,bE⟩:=en.cells;have cp:=hD en;clear en;go_wp2_with fail;go_quiet (fail);go_wp2_with fail;go_roundg f
     case measure=>omega
     case rel=>exact ⟨k+1,cp.o.drewN _,oM,oM,mS,(cR.kept cu ch).drewN _,(aJ.maa cu).drewN _⟩
def krV {T:List UInt8} {g k0:Nat} (w:O) (h:PS T w g k0):L prog 206 #[ab (N ⟨g,0,Z⟩)] w (kfh T w g (sV (kcA T k0))):=by
 by_cases ax:T[k0]? =N 94
 .refine krU (f0:=k0+1) (nb:=K) w h (fun aq af=>koy (b:=94) aq af ax) (by have:=kaj ax;omega) _ _ rfl ?_;unfold kcA;simp only[ua1 ax];rcases ka7 T (T.length+1) (k0+1) with _|e
  .rfl
  .simp only[kkQ];rcases lsP (e-1-(k0+1)+1) ((T.drop (k0+1)).take (e-1-(k0+1))) kad with _|S <;> rfl
 .refine krU (f0:=k0) (nb:=J) w h (fun aq af=>koz (b:=94) aq af ax) h.2.1 _ _ rfl ?_;unfold kcA;simp only[ua0 ax];rcases ka7 T (T.length+1) k0 with _|e
  .rfl
  .simp only[kkQ];rcases lsP (e-1-k0+1) ((T.drop k0).take (e-1-k0)) kad with _|S <;> rfl
def kgO (h:P:=by
 have p8:=hD (show ¬T[k]? =N 63 by rw[ja];decide);have qT:=hD (show ¬T[k]? =N 42 by rw[ja];decide);have oH:=hD (show ¬T[k]? =N 43 by rw[ja];decide);have rD:=hD ja;clear ja;have A:=hD a
 first
 |guard_hyp NF;obtain ⟨B,jO,cw⟩:=hd3 b c d;(first|guard_hyp NM;clear a b c d|have F:=hD f;clear a b c d f);go_enter func173,ntmps173;go_wp2_with fail;refine (skN 42 42 rfl w h qT.out).mono ?_;(first|guard_hyp rE;rintro e U5 ⟨rfl,U6,U7⟩|guard_hyp sC;rintro e U8 ⟨rfl,U9,Vb⟩|guard_hyp rF;rintro e Vc ⟨rfl,Vd,Ve⟩|rintro e Ht ⟨rfl,Vf,Vg⟩);go_wp2_with fail;(first|guard_hyp rE;refine (skN 43 43 rfl U5 U6 oH.out).mono ?_;rintro e Vh ⟨rfl,Vi,Vj⟩|guard_hyp sC;refine (skN 43 43 rfl U8 U9 oH.out).mono ?_;rintro e Vk ⟨rfl,Vl,Vm⟩|guard_hyp rF;refine (skN 43 43 rfl Vc Vd oH.out).mono ?_;rintro e Vn ⟨rfl,Vo,Vp⟩|refine (skN 43 43 rfl Ht Vf oH.out).mono ?_;rintro e Vq ⟨rfl,Vr,Vs⟩);go_wp2_with fail;(first|guard_hyp rE;refine (skN 63 63 rfl Vh Vi p8.out).mono ?_;rintro e Vt ⟨rfl,Vu,Vv⟩|guard_hyp sC;refine (skN 63 63 rfl Vk Vl p8.out).mono ?_;rintro e Vw ⟨rfl,Vx,Vy⟩|guard_hyp rF;refine (skN 63 63 rfl Vn Vo p8.out).mono ?_;rintro e Vz ⟨rfl,VA,VB⟩|refine (skN 63 63 rfl Vq Vr p8.out).mono ?_;rintro e VC ⟨rfl,VD,VE⟩);go_wp2_with fail;(first|guard_hyp rE;refine (skY 123 123 rfl Vt Vu rD.out).mono ?_;rintro e VF ⟨rfl,VG,VH⟩|guard_hyp sC;refine (skY 123 123 rfl Vw Vx rD.out).mono ?_;rintro e VI ⟨rfl,VJ,VK⟩|guard_hyp rF;refine (skY 123 123 rfl Vz VA rD.out).mono ?_;rintro e VL ⟨rfl,VM,VN⟩|refine (skY 123 123 rfl VC VD rD.out).mono ?_;rintro e VO ⟨rfl,VP,VQ⟩);go_wp2_with fail;(first|guard_hyp rE;refine (kcX VF VG A.out).mono ?_;rintro e VR ⟨rfl,VS,Lg⟩|guard_hyp sC;refine (kcX VI VJ A.out).mono ?_;rintro e VT ⟨rfl,VU,VV⟩|guard_hyp rF;refine (kcX VL VM A.out).mono ?_;rintro e VW ⟨rfl,VX,VY⟩|refine (kcX VO VP A.out).mono ?_;rintro e VZ ⟨rfl,V0,V1⟩);go_wp2_with fail;(first|guard_hyp rE;refine (skY 44 44 rfl VR VS B.out).mono ?_;rintro e w64 ⟨rfl,Hu,V2⟩;obtain ⟨aN,aM,bE⟩:=Hu.cells;have p9:=hD Hu;clear Hu|guard_hyp sC;refine (skY 44 44 rfl VT VU B.out).mono ?_;rintro e w56 ⟨rfl,Hv,V3⟩;obtain ⟨aN,aM,bE⟩:=Hv.cells;have p9:=hD Hv;clear Hv|guard_hyp rF;refine (skY 44 44 rfl VW VX B.out).mono ?_;rintro e w72 ⟨rfl,Hw,V4⟩;obtain ⟨aN,aM,bE⟩:=Hw.cells;have p9:=hD Hw;clear Hw|refine (skY 44 44 rfl VZ V0 B.out).mono ?_;rintro e w49 ⟨rfl,Hx,V5⟩;obtain ⟨aN,aM,bE⟩:=Hx.cells;have p9:=hD Hx;clear Hx);go_wp2_with fail;go_quiet (fail);go_wp2_with fail;clear aN aM bE;(first|guard_hyp rE;refine (kcX _ (p9.o.drewN _) cw.out).mono ?_;rintro e V6 ⟨rfl,V7,V8⟩;go_wp2_with fail;refine (skY 125 125 rfl V6 V7 F.out).mono ?_;rintro e w66 ⟨rfl,V9,Wa⟩|guard_hyp sC;refine (kcX _ (p9.o.drewN _) cw.out).mono ?_;rintro e Wb ⟨rfl,Wc,Wd⟩;go_wp2_with fail;refine (skN 125 125 rfl Wb Wc F.out).mono ?_;rintro e w58 ⟨rfl,We,Wf⟩|guard_hyp rF;refine (kcX _ (p9.o.drewN _) cw.out).mono ?_;rintro e Wg ⟨rfl,Wh,Wi⟩;go_wp2_with fail;refine (skY 125 125 rfl Wg Wh F.out).mono ?_;rintro e w74 ⟨rfl,Wj,Wk⟩|refine (kpT _ (p9.o.drewN _) cw.out).mono ?_;rintro e w50 ⟨rfl,Wl,Wm⟩);go_wp2_with fail
  first
  |guard_hyp rE;exact ⟨rfl,rfl,⟨_,V9⟩,((((((((U7).maa Vj).maa Vv).maa VH).maa Lg).maa V2).drewN _).maa V8).maa Wa⟩
  |guard_hyp sC;exact ⟨rfl,rfl,⟨_,We⟩,((((((((Vb).maa Vm).maa Vy).maa VK).maa VV).maa V3).drewN _).maa Wd).maa Wf⟩
  |guard_hyp rF;go_ret3
   exact ⟨rfl,Wj,((((((((Ve).maa Vp).maa VB).maa VN).maa VY).maa V4).drewN _).maa Wi).maa Wk⟩
  |exact ⟨rfl,rfl,Wl,(((((((Vg).maa Vs).maa VE).maa VQ).maa V1).maa V5).drewN _).maa Wm⟩
 |guard_hyp NG;(first|guard_hyp HS;clear a|have B:=hD b;have jO:=hD c;clear a b c);go_enter func173,ntmps173;go_wp2_with fail;refine (skN 42 42 rfl w h qT.out).mono ?_;(first|guard_hyp v2;rintro e Wn ⟨rfl,Wo,AE⟩;go_wp2_with fail;refine (skN 43 43 rfl Wn Wo oH.out).mono ?_;rintro e Wp ⟨rfl,Wq,Wr⟩;go_wp2_with fail;refine (skN 63 63 rfl Wp Wq p8.out).mono ?_;rintro e Ws ⟨rfl,Wt,Wu⟩|guard_hyp v1;rintro e Wv ⟨rfl,Ww,Wx⟩;go_wp2_with fail;refine (skN 43 43 rfl Wv Ww oH.out).mono ?_;rintro e Wy ⟨rfl,Wz,WA⟩;go_wp2_with fail;refine (skN 63 63 rfl Wy Wz p8.out).mono ?_;rintro e WB ⟨rfl,WC,WD⟩|rintro e De ⟨rfl,WE,Et⟩);go_wp2_with fail;(first|guard_hyp v2;refine (skY 123 123 rfl Ws Wt rD.out).mono ?_;rintro e WF ⟨rfl,WG,WH⟩|guard_hyp v1;refine (skY 123 123 rfl WB WC rD.out).mono ?_;rintro e WI ⟨rfl,WJ,WK⟩|refine (skN 43 43 rfl De WE oH.out).mono ?_;rintro e WL ⟨rfl,WM,WN⟩);go_wp2_with fail;(first|guard_hyp v2;refine (kcX WF WG A.out).mono ?_;rintro e WO ⟨rfl,WP,WQ⟩|guard_hyp v1;refine (kcX WI WJ A.out).mono ?_;rintro e WR ⟨rfl,WS,WT⟩|refine (skN 63 63 rfl WL WM p8.out).mono ?_;rintro e WU ⟨rfl,WV,WW⟩);go_wp2_with fail;(first|guard_hyp v2;refine (skN 44 44 rfl WO WP B.out).mono ?_;rintro e WX ⟨rfl,WY,WZ⟩|guard_hyp v1;refine (skN 44 44 rfl WR WS B.out).mono ?_;rintro e W0 ⟨rfl,W1,W2⟩|refine (skY 123 123 rfl WU WV rD.out).mono ?_;rintro e W3 ⟨rfl,W5,W6⟩);go_wp2_with fail;(first|guard_hyp v2;refine (skN 125 125 rfl WX WY jO.out).mono ?_;rintro e w29 ⟨rfl,W7,W8⟩|guard_hyp v1;refine (skY 125 125 rfl W0 W1 jO.out).mono ?_;rintro e w22 ⟨rfl,W9,Xa⟩|refine (kpT W3 W5 A.out).mono ?_;rintro e w15 ⟨rfl,Xb,Xc⟩);go_wp2_with fail
  first
  |guard_hyp v2;exact ⟨rfl,rfl,⟨_,W7⟩,((((((AE).maa Wr).maa Wu).maa WH).maa WQ).maa WZ).maa W8⟩
  |guard_hyp v1;go_ret3
   exact ⟨rfl,W9,((((((Wx).maa WA).maa WD).maa WK).maa WT).maa W2).maa Xa⟩
  |exact ⟨rfl,rfl,Xb,((((Et).maa WN).maa WW).maa W6).maa Xc⟩
 |guard_hyp NL;have B:=hD b;have jO:=hD c;clear a b c;go_enter func173,ntmps173;go_wp2_with fail;refine (skN 42 42 rfl w h qT.out).mono ?_;rintro e Xd ⟨rfl,Xe,Xf⟩;go_wp2_with fail;refine (skN 43 43 rfl Xd Xe oH.out).mono ?_;rintro e Xg ⟨rfl,Xh,Xi⟩;go_wp2_with fail;refine (skN 63 63 rfl Xg Xh p8.out).mono ?_;rintro e Xj ⟨rfl,Xk,Xl⟩;go_wp2_with fail;refine (skY 123 123 rfl Xj Xk rD.out).mono ?_;rintro e Xm ⟨rfl,Xn,Xo⟩;go_wp2_with fail;refine (kcX Xm Xn A.out).mono ?_;rintro e Xp ⟨rfl,Xq,wg⟩;go_wp2_with fail;refine (skY 44 44 rfl Xp Xq B.out).mono ?_;rintro e w35 ⟨rfl,Hy,Xr⟩;obtain ⟨aN,aM,bE⟩:=Hy.cells;have p9:=hD Hy;clear Hy;go_wp2_with fail;go_quiet (fail);go_wp2_with fail;clear aN aM bE;refine (skY 125 125 rfl _ (p9.o.drewN _) jO.out).mono ?_;rintro e w36 ⟨rfl,Xs,Xt⟩;go_wp2_with fail;go_ret3
  exact ⟨rfl,Xs,(((((((Xf).maa Xi).maa Xl).maa Xo).maa wg).maa Xr).drewN _).maa Xt⟩
 |have B:=hD b;have NE:=hD v6;clear a b v6;go_enter func173,ntmps173;go_wp2_with fail;refine (skN 42 42 rfl w h qT.out).mono ?_;rintro e Xu ⟨rfl,Xv,Xw⟩;go_wp2_with fail;refine (skN 43 43 rfl Xu Xv oH.out).mono ?_;rintro e Xx ⟨rfl,Xy,Xz⟩;go_wp2_with fail;refine (skN 63 63 rfl Xx Xy p8.out).mono ?_;rintro e XA ⟨rfl,XB,XC⟩;go_wp2_with fail;refine (skY 123 123 rfl XA XB rD.out).mono ?_;rintro e XD ⟨rfl,XE,XF⟩;go_wp2_with fail;refine (kcX XD XE A.out).mono ?_;rintro e XG ⟨rfl,XH,XI⟩;go_wp2_with fail;refine (skY 44 44 rfl XG XH B.out).mono ?_;rintro e w42 ⟨rfl,HA,XJ⟩;obtain ⟨aN,aM,bE⟩:=HA.cells;have p9:=hD HA;clear HA;go_wp2_with fail;go_quiet (fail);go_wp2_with fail;clear aN aM bE;refine (skN 125 125 rfl _ (p9.o.drewN _) NE.out).mono ?_;rintro e w43 ⟨rfl,XK,XL⟩;go_wp2_with fail;exact ⟨rfl,rfl,⟨_,XK⟩,(((((((Xw).maa Xz).maa XC).maa XF).maa XI).maa XJ).drewN _).maa XL⟩):=h
def kgE (h:P:=by have dN:=bZ T;have dr:=h.2.2;have az:=kaj c;have g4:∀ w,(Instr.index 9 (Q ⟨T.toArray⟩) (I U ((k1:Int)+1))).run prog w= .ok (I ai x.toNat) w:=kaX (P:=prog) underlying9 c;have eI:decide ((k1:Int)+1<(T.length:Int))=K:=(by simp;omega);have b8:((x.toNat:Int)==125)=J:=kbj (c:=125) aA;have cn:((x.toNat:Int) != 125)=K:=(by simpa using b8);clear aA;(first|guard_hyp rE;have cL:decide (0≤(hi:Int))=K:=(by simp);have fH:decide (hi<lo)=K:=(by simp;omega);clear q|guard_hyp rF;have cL:decide (0≤(hi:Int))=K:=(by simp);have fH:decide (hi<lo)=J:=(by simp;omega);clear q|skip);have NF:=();exact kgO):=h
def kik (h:P:=by (first|guard_hyp HS|have kN:0≤(lo:Int):=oM;have cL:decide (0≤(lo:Int))=K:=(by simp);have fH:decide ((lo:Int)<(lo:Int))=J:=(by simp);have g6:decide (lo<lo)=J:=by simp);have NG:=();exact kgO):=h
def skY (b:UInt8) (n:Int) (ax:(b.toNat:Int)=n) {T:List UInt8} {g k:Nat} (w:O) (h:PS T w g k) (ak:T[k]? =N b):L prog 138 #[ab (N ⟨g,0,Z⟩),I ai n] w (kbf T w g (V K) (k+1)):=by subst ax;exact koy w h ak
def skN (b:UInt8) (n:Int) (ax:(b.toNat:Int)=n) {T:List UInt8} {g k:Nat} (w:O) (h:PS T w g k) (ak:¬T[k]? =N b):L prog 138 #[ab (N ⟨g,0,Z⟩),I ai n] w (kbf T w g (V J) k):=by subst ax;exact koz w h ak
def kcX {T:List UInt8} {g k n k':Nat} (w:O) (h:PS T w g k) (ax:kaW T k=N (n,k')):L prog 208 #[ab (N ⟨g,0,Z⟩)] w (kbf T w g (I U n) k'):=by have:=kpS w h;rw[ax] at this;exact this
def kpT {T:List UInt8} {g k:Nat} (w:O) (h:PS T w g k) (ax:kaW T k=Z):L prog 208 #[ab (N ⟨g,0,Z⟩)] w (kbb T w g):=by have:=kpS w h;rw[ax] at this;exact this
def kdD (lo hi:Int) (ok:Bool):C:=ag #[I .i64 lo,I U hi,V ok]
def cV (r:Option (Option (Int×Int)×Nat)):Option (C×Nat):=match r with
 |none=>none
 |some (none,k)=>some (kdD 0 0 false,k)
 |some (some (lo,hi),k)=>some (kdD lo hi true,k)
def kBi {T:List UInt8} {g k:Nat} (w:O) (h:PS T w g k) (sv:T[k]? =N 42):L prog 173 #[ab (N ⟨g,0,Z⟩)] w (kbf T w g (kdD 0 (-1) K) (k+1)):=by
 have NH:=hD sv;clear sv;go_enter func173,ntmps173;go_wp2_with fail;refine (skY 42 42 rfl w h NH.out).mono ?_;rintro e aq ⟨rfl,gr,fZ⟩;go_wp2_with fail;go_ret3
 exact ⟨rfl,gr,fZ⟩
def kBj {T:List UInt8} {g k:Nat} (w:O) (h:PS T w g k) (o4:¬T[k]? =N 42) (uh:T[k]? =N 43):L prog 173 #[ab (N ⟨g,0,Z⟩)] w (kbf T w g (kdD 1 (-1) K) (k+1)):=by
 have NI:=hD uh;have qT:=hD o4;clear uh o4;go_enter func173,ntmps173;go_wp2_with fail;refine (skN 42 42 rfl w h qT.out).mono ?_;rintro e aF ⟨rfl,en,cu⟩;go_wp2_with fail;refine (skY 43 43 rfl aF en NI.out).mono ?_;rintro e a6 ⟨rfl,h0,fd⟩;go_wp2_with fail;go_ret3
 exact ⟨rfl,h0,(cu).maa fd⟩
def kBk {T:List UInt8} {g k:Nat} (w:O) (h:PS T w g k) (o4:¬T[k]? =N 42) (rg:¬T[k]? =N 43) (vR:T[k]? =N 63):L prog 173 #[ab (N ⟨g,0,Z⟩)] w (kbf T w g (kdD 0 1 K) (k+1)):=by
 obtain ⟨NJ,qT,oH⟩:=hd3 vR o4 rg;clear vR o4 rg;go_enter func173,ntmps173;go_wp2_with fail;refine (skN 42 42 rfl w h qT.out).mono ?_;rintro e aK ⟨rfl,jx,dg⟩;go_wp2_with fail;refine (skN 43 43 rfl aK jx oH.out).mono ?_;rintro e bm ⟨rfl,rL,gQ⟩;go_wp2_with fail;refine (skY 63 63 rfl bm rL NJ.out).mono ?_;rintro e du ⟨rfl,XM,nr⟩;go_wp2_with fail;go_ret3
 exact ⟨rfl,XM,((dg).maa gQ).maa nr⟩
def kBl {T:List UInt8} {g k:Nat} (w:O) (h:PS T w g k) (o4:¬T[k]? =N 42) (rg:¬T[k]? =N 43) (u1:¬T[k]? =N 63) (u2:¬T[k]? =N 123):L prog 173 #[ab (N ⟨g,0,Z⟩)] w (kbf T w g (kdD 0 0 J) k):=by
 obtain ⟨p8,qT,oH,NK⟩:=hd4 u1 o4 rg u2;clear u1 o4 rg u2;go_enter func173,ntmps173;go_wp2_with fail;refine (skN 42 42 rfl w h qT.out).mono ?_;rintro e dl ⟨rfl,w4,CJ⟩;go_wp2_with fail;refine (skN 43 43 rfl dl w4 oH.out).mono ?_;rintro e gx ⟨rfl,Dx,lM⟩;go_wp2_with fail;refine (skN 63 63 rfl gx Dx p8.out).mono ?_;rintro e c7 ⟨rfl,XN,pa⟩;go_wp2_with fail;refine (skN 123 123 rfl c7 XN NK.out).mono ?_;rintro e Cz ⟨rfl,XO,XP⟩;go_wp2_with fail;go_ret3
 exact ⟨rfl,XO,(((CJ).maa lM).maa pa).maa XP⟩
def kBv {T:List UInt8} {g k:Nat} (w:O) (h:PS T w g k) (ja:T[k]? =N 123) (a:kaW T (k+1)=Z):L prog 173 #[ab (N ⟨g,0,Z⟩)] w (kbb T w g):=by have HS:=();exact kik
def kBu {T:List UInt8} {g k:Nat} (w:O) (h:PS T w g k) {lo k1:Nat} (ja:T[k]? =N 123) (a:kaW T (k+1)=N (lo,k1)) (b:¬T[k1]? =N 44) (c:T[k1]? =N 125):L prog 173 #[ab (N ⟨g,0,Z⟩)] w (kbf T w g (kdD lo lo K) (k1+1)):=by have v1:=();exact kik
def kBt {T:List UInt8} {g k:Nat} (w:O) (h:PS T w g k) {lo k1:Nat} (ja:T[k]? =N 123) (a:kaW T (k+1)=N (lo,k1)) (b:¬T[k1]? =N 44) (c:¬T[k1]? =N 125):L prog 173 #[ab (N ⟨g,0,Z⟩)] w (kbb T w g):=by have v2:=();exact kik
def kBs {T:List UInt8} {g k:Nat} (w:O) (h:PS T w g k) {lo k1:Nat} (ja:T[k]? =N 123) (a:kaW T (k+1)=N (lo,k1)) (b:T[k1]? =N 44) (c:T[k1+1]? =N 125):L prog 173 #[ab (N ⟨g,0,Z⟩)] w (kbf T w g (kdD lo (-1) K) (k1+2)):=by have dN:=bZ T;have dr:=h.2.2;have az:=kaj c;have g4:∀ w,(Instr.index 9 (Q ⟨T.toArray⟩) (I U ((k1:Int)+1))).run prog w= .ok (I ai 125) w:=kaX (P:=prog) underlying9 c;have eI:decide ((k1:Int)+1<(T.length:Int))=K:=(by simp;omega);have NL:=();exact kgO
def kBr {T:List UInt8} {g k:Nat} (w:O) (h:PS T w g k) {lo k1:Nat} (ja:T[k]? =N 123) (a:kaW T (k+1)=N (lo,k1)) (b:T[k1]? =N 44) (c:T.length≤k1+1):L prog 173 #[ab (N ⟨g,0,Z⟩)] w (kbb T w g):=by have dN:=bZ T;have dr:=h.2.2;have eI:decide ((k1:Int)+1<(T.length:Int))=J:=(by simp;omega);have v6:¬T[k1+1]? =N 125:=(by rw[ud5 oM];exact fun e=>by cases e);exact kgO
def kBq {T:List UInt8} {g k:Nat} (w:O) (h:PS T w g k) {lo k1:Nat} {x:UInt8} (ja:T[k]? =N 123) (a:kaW T (k+1)=N (lo,k1)) (b:T[k1]? =N 44) (c:T[k1+1]? =N x) (aA:x≠125) (d:kaW T (k1+1)=Z):L prog 173 #[ab (N ⟨g,0,Z⟩)] w (kbb T w g):=by have NM:=();exact kgE
def kBp {T:List UInt8} {g k:Nat} (w:O) (h:PS T w g k) {lo k1:Nat} {x:UInt8} (ja:T[k]? =N 123) (a:kaW T (k+1)=N (lo,k1)) (b:T[k1]? =N 44) (c:T[k1+1]? =N x) (aA:x≠125) {hi bS:Nat} (d:kaW T (k1+1)=N (hi,bS)) (f:¬T[bS]? =N 125):L prog 173 #[ab (N ⟨g,0,Z⟩)] w (kbb T w g):=by have sC:=();exact kgE
def kBo {T:List UInt8} {g k:Nat} (w:O) (h:PS T w g k) {lo k1:Nat} {x:UInt8} (ja:T[k]? =N 123) (a:kaW T (k+1)=N (lo,k1)) (b:T[k1]? =N 44) (c:T[k1+1]? =N x) (aA:x≠125) {hi bS:Nat} (d:kaW T (k1+1)=N (hi,bS)) (f:T[bS]? =N 125) (q:hi<lo):L prog 173 #[ab (N ⟨g,0,Z⟩)] w (kbb T w g):=by have rE:=();exact kgE
def kBn {T:List UInt8} {g k:Nat} (w:O) (h:PS T w g k) {lo k1:Nat} {x:UInt8} (ja:T[k]? =N 123) (a:kaW T (k+1)=N (lo,k1)) (b:T[k1]? =N 44) (c:T[k1+1]? =N x) (aA:x≠125) {hi bS:Nat} (d:kaW T (k1+1)=N (hi,bS)) (f:T[bS]? =N 125) (q:lo≤hi):L prog 173 #[ab (N ⟨g,0,Z⟩)] w (kbf T w g (kdD lo hi K) (bS+1)):=by have rF:=();exact kgE
def krL {T:List UInt8} {g k:Nat} (w:O) (h:PS T w g k):L prog 173 #[ab (N ⟨g,0,Z⟩)] w (kfh T w g (cV (kby T k))):=by
 unfold kby;by_cases sv:T[k]? =N 42
 .rw[ua1 sv];exact kBi w h sv
 rw[ua0 sv];by_cases uh:T[k]? =N 43
 .rw[ua1 uh];exact kBj w h sv uh
 rw[ua0 uh];by_cases vR:T[k]? =N 63
 .rw[ua1 vR];exact kBk w h sv uh vR
 rw[ua0 vR];by_cases ja:T[k]? =N 123
 .rw[ua1 ja];rcases a:kaW T (k+1) with _|⟨lo,k1⟩
  .exact kBv w h ja a
  simp only;by_cases b:T[k1]? =N 44
  .rw[ua1 b];have ak:=kaj b;by_cases an:k1+1<T.length∧T[k1+1]? ≠N 125
   .rw[ua1 an];obtain ⟨x,c⟩:∃ x,T[k1+1]? =N x:=⟨_,ua3 an.1⟩;have aA:x≠125:=fun e=>an.2 (by rw[c,e]);rcases d:kaW T (k1+1) with _|⟨hi,bS⟩
    .exact kBq w h ja a b c aA d
    simp only;by_cases f:T[bS]? =N 125
    .by_cases q:lo≤hi
     .rw[ua1 ⟨f,q⟩];exact kBn w h ja a b c aA d f q
     .rw[ua0 (fun e=>q e.2)];exact kBo w h ja a b c aA d f oM
    .rw[ua0 (fun e=>f e.1)];exact kBp w h ja a b c aA d f
   .rw[ua0 an];by_cases c:T[k1+1]? =N 125
    .rw[ua1 c];exact kBs w h ja a b c
    .rw[ua0 c];refine kBr w h ja a b ?_;rcases ug1 (k1+1) T.length with af|af
     .exact absurd ⟨af,c⟩ an
     .exact af
  .rw[ua0 b];by_cases c:T[k1]? =N 125
   .rw[ua1 c];exact kBu w h ja a b c
   .rw[ua0 c];exact kBt w h ja a b c
 .rw[ua0 ja];exact kBl w h sv uh vR ja
def RxV.eight {w:O} {F:Nat→Prop} {r:Rx} {cs:List C} (h:RxV w F r cs):∃(k:Nat) (he aq aF a6:Nat) (lo hi:Int) (A:Option ae) (n c:Nat),cs=[I .i64 k,I Y he,I Y aq,I Y aF,I Y a6,I U lo,I U hi,D A n c]:=by obtain ⟨k,he,aq,aF,a6,lo,hi,ps⟩:=r;unfold RxV at h;obtain ⟨A,c,bV,af,_⟩:=h;exact ⟨k,he,aq,aF,a6,lo,hi,A,ps.length,c,af⟩
def RxV.below {w w':O} {F:Nat→Prop} {r:Rx} {cs:List C} (h:RxV w F r cs) (ak:H w w w'):RxV w' F r cs:=RxV.keep (fun i _ hi=>ak.block i hi) ak.size (fun _ h _=>h) r cs h
def RxVs.below {w w':O} {F:Nat→Prop} {l:List Rx} {cs:List C} (h:RxVs w F l cs) (ak:H w w w'):RxVs w' F l cs:=RxVs.keep (fun i _ hi=>ak.block i hi) ak.size (fun _ h _=>h) l cs h
def RdF.below {w w':O} {F:Nat→Prop} {size n:Nat} {A:Option ae} {xs:List C} (h:RdF w F size A n xs) (ak:H w w w'):RdF w' F size A n xs:=h.keep (fun i _ hi=>ak.block i hi) ak.size (fun _ h _=>h)
def kk3 (w:O) (F:Nat→Prop) (r:Rx) (e:Ending) (w':O):Prop:=∃ cs,e=ac (aa cs.toArray)∧RxV w' F r cs∧H w w w'
def ku2 (A:Option ae) (c:Nat) (w:O) (F:Nat→Prop):L prog 174 #[D A 0 c] w (kk3 w F (Rx.seq [])):=by have aH:=R8.mk0 w w rfl;have b4:=hD (aH.all (I U 1) (I Y 0) (I Y 0) (I Y 0) (I Y 0) (I U 0) (I U 0) (D Z 0 0));have aV:=hD (kcM ((ub5 _ w).alloc (nR) (y #[I .i64 0,I Y 0,I Y 0,I Y 0,I Y 0,I U 0,I U 0,D Z 0 0] 105)) (uf1 w) (I U 1) (I Y 0) (I Y 0) (I Y 0) (I Y 0) (I U 0) (I U 0) (D Z 0 0));clear aH;go_enter func174,ntmps174;go_wp2_with fail;refine ub2 (v:=aa #[I .i64 1,I Y 0,I Y 0,I Y 0,I Y 0,I U 0,I U 0,D Z 0 0]) (by simp[results,results174,go_sem]) rfl ?_;refine ⟨_,rfl,?_,(ub5 _ w).alloc (nR) _⟩;unfold Rx.seq Rx.empty Rx.plain RxV RxVs;exact kgs
def ku1 (b o c:Nat) (w:O) (k he aq aF a6:Nat) (lo hi:Int) (dd:Option ae) (jC cS:Nat) (ak:b<w.heap.size) (k0:w.cell? ⟨b,o,Z⟩=N (I U k)) (k1:w.cell? ⟨b,o+1,Z⟩=N (I Y he)) (bS:w.cell? ⟨b,o+2,Z⟩=N (I Y aq)) (fp:w.cell? ⟨b,o+3,Z⟩=N (I Y aF)) (gy:w.cell? ⟨b,o+4,Z⟩=N (I Y a6)) (lw:w.cell? ⟨b,o+5,Z⟩=N (I U lo)) (aac:w.cell? ⟨b,o+6,Z⟩=N (I U hi)) (aad:w.cell? ⟨b,o+7,Z⟩=N (D dd jC cS)):
 L prog 174 #[D (N ⟨b,o,Z⟩) 1 c] w fun e w'=>e=ac (aa #[I .i64 k,I Y he,I Y aq,I Y aF,I Y a6,I U lo,I U hi,D dd jC cS])∧H w w w':=by
 go_enter func174,ntmps174;go_wp2_with fail;refine ub2 (v:=aa #[I .i64 k,I Y he,I Y aq,I Y aF,I Y a6,I U lo,I U hi,D dd jC cS]) (by simp[results,results174,go_sem]) rfl ?_;exact ⟨rfl,(ub5 _ w).alloc (nR) _⟩
def kuZ (A:Option ae) (n c:Nat) (w:O) (ax:2≤n) (fT:n≤9223372036854775807):L prog 174 #[D A n c] w fun e w'=>e=ac (aa #[I .i64 3,I Y 0,I Y 0,I Y 0,I Y 0,I U 0,I U 0,D A n c])∧H w w w':=by have t0:((n:Int)==0)=J:=(by simp;omega);have bb:((n:Int)==1)=J:=(by simp;omega);go_enter func174,ntmps174;go_wp2_with fail;refine ub2 (v:=aa #[I .i64 3,I Y 0,I Y 0,I Y 0,I Y 0,I U 0,I U 0,D A n c]) (by simp[results,results174,go_sem]) rfl ?_;exact ⟨rfl,(ub5 _ w).alloc (nR) _⟩
theorem ku0 (A:Option ae) (c:Nat) (w:O) (F:Nat→Prop) (l:List Rx) (bV:List C) (am:RdF w F 8 A l.length bV) (au:RxVs w F l bV) (fT:l.length≤9223372036854775807):L prog 174 #[D A l.length c] w (kk3 w F (Rx.seq l)):=by
 match l,am,au,fT with
 |[],_,_,_=>exact ku2 A c w F
 |[r],am,au,_=>obtain ⟨b,o,rfl,hF,ak,an⟩:=am.2 (by simp);have jy:=au;unfold RxVs RxVs at jy;obtain ⟨cs,lG,rfl,eU,rfl⟩:=jy;rw[ug2] at an;obtain ⟨k,he,aq,aF,a6,lo,hi,A,n,cS,rfl⟩:=eU.eight;refine (ku1 b o c w _ _ _ _ _ _ _ _ _ _ ak (an 0 _ rfl) (an 1 _ rfl) (an 2 _ rfl) (an 3 _ rfl) (an 4 _ rfl) (an 5 _ rfl) (an 6 _ rfl) (an 7 _ rfl)).mono ?_;rintro e w' ⟨rfl,dR⟩;exact ⟨_,rfl,eU.below dR,dR⟩
 |r::q::l,am,au,fT=>refine (kuZ A _ c w (by simp) fT).mono ?_;rintro e w' ⟨rfl,dR⟩;refine ⟨_,rfl,?_,dR⟩;unfold Rx.seq Rx.plain RxV;exact ⟨A,c,bV,rfl,am.below dR,au.below dR⟩
def knz (h:P:=by have hg:=h.lt;obtain ⟨lh,gY,ix⟩:=hd3 (R8.mk0 w w rfl) (h.alloc (y #[I .i64 0,I Y 0,I Y 0,I Y 0,I Y 0,I U 0,I U 0,D Z 0 0] 105)) ((Kept.refl (isG g) w).alloc (y #[I .i64 0,I Y 0,I Y 0,I Y 0,I Y 0,I U 0,I U 0,D Z 0 0] 105));have ch:¬isG g w.heap.size:=fun e=>absurd hg (by rw[show g=w.heap.size from e.symm];omega);have aV:=hD ak;first|guard_hyp NN;have qU:=hD ce;have a8:=hD an;clear h ak ce an;go_enter func172,ntmps172;go_wp2_with fail;refine (kc7 _ gY.o aV.o).mono ?_;rintro e aq ⟨rfl,gr,fZ⟩;have dT:=lh.o.kept fZ ch;have lJ:=ix.o.maa fZ;clear lh gY ix fZ;go_wp2_with fail;refine (qU.o aq gr).mono ?_;rintro e aF ⟨cs,rfl,au,en,cu⟩;obtain ⟨kd,nZ,n0,n1,n2,lo,hi,A,n,c,rfl⟩:=au.eight;have gi:=dT.kept cu ch;have mg:=lJ.maa cu;have gZ:w.heap.size<aq.heap.size:=dT.lt;have iN:aq.heap.size≤aF.heap.size:=cu.size;have dB:=hD au;clear dT lJ cu gr au;have Dt:=en.alloc (y #[I .i64 kd,I Y nZ,I Y n0,I Y n1,I Y n2,I U lo,I U hi,D A n c] 105);have Du:=mg.alloc (y #[I .i64 kd,I Y nZ,I Y n0,I Y n1,I Y n2,I U lo,I U hi,D A n c] 105);(first|guard_hyp AG;have HT:=gi.alloc (y #[I .i64 kd,I Y nZ,I Y n0,I Y n1,I Y n2,I U lo,I U hi,D A n c] 105);have HU:R8 (aF.alloc (y #[I .i64 kd,I Y nZ,I Y n0,I Y n1,I Y n2,I U lo,I U hi,D A n c] 105)) aF (I U kd) (I Y nZ) (I Y n0) (I Y n1) (I Y n2) (I U lo) (I U hi) (D A n c):=Blk.new _ _ _|skip);go_wp2_with fail;(first|guard_hyp AG;refine (skY 41 41 rfl _ Dt a8.o).mono ?_|refine (skN 41 41 rfl _ Dt a8.o).mono ?_);rintro e a6 ⟨rfl,h0,fd⟩;(first|guard_hyp AG;have e8:=HT.kept fd ch;have qa:=Du.maa fd;have ef:g<aF.heap.size:=en.lt;have jz:=HU.kept fd (fun e=>absurd ef (by rw[show g=aF.heap.size from e.symm];omega));have v7:aF.heap.size+1≤a6.heap.size:=(by have:=fd.size;simpa using this);have AE:Kept (isG g) aF a6:=(Kept.alloc (Kept.refl _ aF) (y #[I .i64 kd,I Y nZ,I Y n0,I Y n1,I Y n2,I U lo,I U hi,D A n c] 105)).maa fd;clear HT HU gi mg en fd Dt Du;obtain ⟨⟨⟨be,b8⟩,cn,c0⟩,⟨c3,jA⟩,jc,mT⟩:=jz.cells;clear jz;obtain ⟨⟨⟨aN,aM⟩,aZ,bC⟩,⟨b1,c5⟩,ct,bI⟩:=e8.cells;obtain ⟨⟨⟨f0,b2⟩,cB,dS⟩,⟨eJ,jN⟩,mP,mQ⟩:=e8.free;obtain ⟨cf,cp,ei⟩:=hd3 (e8.all (I U kd) (I Y nZ) (I Y n0) (I Y n1) (I Y n2) (I U lo) (I U hi) (D A n c)) (h0.mbR (X:=w.heap.size) oM (I U kd) (I Y nZ) (I Y n0) (I Y n1) (I Y n2) (I U lo) (I U hi) (D A n c)) (kas qa (g:=w.heap.size) (.inr (nR)) (I U kd) (I Y nZ) (I Y n0) (I Y n1) (I Y n2) (I U lo) (I U hi) (D A n c));clear e8|skip);go_wp2_with fail;(first|guard_hyp AG;obtain ⟨⟨⟨bi,aW⟩,bc,br⟩,⟨bL,d0⟩,d1,d2⟩:=cf.o.cells;unfold mae at bi aW bc br bL d0 d1 d2;refine ub2 (v:=aa #[I .i64 kd,I Y nZ,I Y n0,I Y n1,I Y n2,I U lo,I U hi,D A n c]) (by simp[results,results172,go_sem,bi,aW,bc,br,bL,d0,d1,d2]) rfl ?_;refine ⟨_,rfl,?_,cp.o,ei.o⟩;have af:RxV a6 (rng aq aF.heap.size) r _:=dB.o.kept AE (fun i dq _ e=>by have:=dq.1;have ek:i=g:=e;omega) (fun i dq _=>dq);have ao:=af.kept (kas (Kept.refl (fun i=>i=w.heap.size) a6) (g:=w.heap.size) (.inl rfl) (I U kd) (I Y nZ) (I Y n0) (I Y n1) (I Y n2) (I U lo) (I U hi) (D A n c)) (G:=rng w (mae a6 w (I U kd) (I Y nZ) (I Y n0) (I Y n1) (I Y n2) (I U lo) (I U hi) (D A n c)).heap.size) (fun i dq _ e=>by have:=dq.1;omega) (fun i dq _=>⟨by have:=dq.1;omega,by have bd:a6.heap.size≤(mae a6 w (I U kd) (I Y nZ) (I Y n0) (I Y n1) (I Y n2) (I U lo) (I U hi) (D A n c)).heap.size:=(kas (Kept.refl (fun i=>i=w.heap.size) a6) (g:=w.heap.size) (.inl rfl) (I U kd) (I Y nZ) (I Y n0) (I Y n1) (I Y n2) (I U lo) (I U hi) (D A n c)).size;have:=dq.2;omega⟩);exact ao|exact ⟨rfl,rfl,⟨_,h0⟩,Du.maa fd⟩)|(first|guard_hyp HZ;have qU:=hD ce;clear h ak ce|(first|guard_hyp H1|guard_hyp H0);have HV:((b.toNat:Int)==92)=J:=kbj (c:=92) hs;have t46:((b.toNat:Int)==46)=J:=kbj (c:=46) kG;have HW:((b.toNat:Int)==91)=J:=kbj (c:=91) kn;have HX:((b.toNat:Int)==40)=J:=kbj (c:=40) it;have nA:=(ktY b).trans al;obtain ⟨v8,g4⟩:∃ v8,Lib.indexByte specials b=v8:=⟨_,rfl⟩;have dc:=hD fun w=>kyD b v8 g4 w;rw[g4] at nA;clear h ak hs kG kn it al g4|(first|guard_hyp AF|guard_hyp HY);clear h ak|have bq:=hD aG;clear h ak aG);go_enter func172,ntmps172;go_wp2_with fail;(first|guard_hyp AF;refine (kfW _ gY.o aV.o).mono ?_|refine (kc7 _ gY.o aV.o).mono ?_);rintro e aq ⟨rfl,gr,fZ⟩;(first|guard_hyp AF|have dT:=lh.o.kept fZ ch;have lJ:=ix.o.maa fZ;clear lh gY ix fZ);go_wp2_with fail;(first|guard_hyp H1;refine (dc.o aq).mono ?_;rintro e aF ⟨rfl,rfl⟩;go_wp2_with fail;refine (kpG b _).mono ?_;rintro e a6 ⟨rfl,b3⟩;have e8:=dT.below b3 dT.lt;have qa:=lJ.maa (Kept.of_below b3);have h0:=PS.kept gr (Kept.of_below (F:=fun _=>False) b3) id;clear dT lJ gr b3;obtain ⟨⟨⟨aN,aM⟩,aZ,bC⟩,⟨b1,c5⟩,ct,bI⟩:=e8.cells;obtain ⟨⟨⟨f0,b2⟩,cB,dS⟩,⟨eJ,jN⟩,mP,mQ⟩:=e8.free;obtain ⟨cf,cp,ei⟩:=hd3 (e8.all (I U 2) (I Y (wd (kaa b.toNat) 0)) (I Y (wd (kaa b.toNat) 1)) (I Y (wd (kaa b.toNat) 2)) (I Y (wd (kaa b.toNat) 3)) (I U 0) (I U 0) (D Z 0 0)) (h0.mbR (X:=w.heap.size) oM (I U 2) (I Y (wd (kaa b.toNat) 0)) (I Y (wd (kaa b.toNat) 1)) (I Y (wd (kaa b.toNat) 2)) (I Y (wd (kaa b.toNat) 3)) (I U 0) (I U 0) (D Z 0 0)) (kas qa (g:=w.heap.size) (.inr (nR)) (I U 2) (I Y (wd (kaa b.toNat) 0)) (I Y (wd (kaa b.toNat) 1)) (I Y (wd (kaa b.toNat) 2)) (I Y (wd (kaa b.toNat) 3)) (I U 0) (I U 0) (D Z 0 0));clear e8;go_wp2_with fail;obtain ⟨⟨⟨bi,aW⟩,bc,br⟩,⟨bL,d0⟩,d1,d2⟩:=cf.o.cells;unfold mae at bi aW bc br bL d0 d1 d2;refine ub2 (v:=aa #[I .i64 2,I Y (wd (kaa b.toNat) 0),I Y (wd (kaa b.toNat) 1),I Y (wd (kaa b.toNat) 2),I Y (wd (kaa b.toNat) 3),I U 0,I U 0,D Z 0 0]) (by simp[results,results172,go_sem,bi,aW,bc,br,bL,d0,d1,d2]) rfl ?_;exact ⟨_,rfl,RxV.mbV _ _ _,cp.o,ei.o⟩|guard_hyp H0;refine (dc.o aq).mono ?_;rintro e aF ⟨rfl,rfl⟩;go_wp2_with fail;exact ⟨rfl,rfl,⟨_,gr⟩,lJ⟩|guard_hyp AF;exact ⟨rfl,rfl,gr,ix.o.maa fZ⟩|guard_hyp HZ;refine (qU.o aq gr).mono ?_;rintro e aF ⟨rfl,en,cu⟩;go_wp2_with fail;exact ⟨rfl,rfl,en,lJ.maa cu⟩|guard_hyp NP;refine (kBA aq gr bq.o).mono ?_;rintro e aF ⟨rfl,en,cu⟩;go_wp2_with fail;exact ⟨rfl,rfl,en,lJ.maa cu⟩|guard_hyp NO;refine (kAq aq gr bq.o).mono ?_;rintro e aF ⟨rfl,en,cu⟩;go_wp2_with fail;exact ⟨rfl,rfl,en,lJ.maa cu⟩|guard_hyp HY;refine (kAJ aq).mono ?_;rintro e a6 ⟨rfl,b3⟩;have e8:=dT.below b3 dT.lt;have qa:=lJ.maa (Kept.of_below b3);have h0:=PS.kept gr (Kept.of_below (F:=fun _=>False) b3) id;clear dT lJ gr b3;obtain ⟨⟨⟨aN,aM⟩,aZ,bC⟩,⟨b1,c5⟩,ct,bI⟩:=e8.cells;obtain ⟨⟨⟨f0,b2⟩,cB,dS⟩,⟨eJ,jN⟩,mP,mQ⟩:=e8.free;obtain ⟨cf,cp,ei⟩:=hd3 (e8.all (I U 2) (I Y (wd ka2 0)) (I Y (wd ka2 1)) (I Y (wd ka2 2)) (I Y (wd ka2 3)) (I U 0) (I U 0) (D Z 0 0)) (h0.mbR (X:=w.heap.size) oM (I U 2) (I Y (wd ka2 0)) (I Y (wd ka2 1)) (I Y (wd ka2 2)) (I Y (wd ka2 3)) (I U 0) (I U 0) (D Z 0 0)) (kas qa (g:=w.heap.size) (.inr (nR)) (I U 2) (I Y (wd ka2 0)) (I Y (wd ka2 1)) (I Y (wd ka2 2)) (I Y (wd ka2 3)) (I U 0) (I U 0) (D Z 0 0));clear e8;go_wp2_with fail;obtain ⟨⟨⟨bi,aW⟩,bc,br⟩,⟨bL,d0⟩,d1,d2⟩:=cf.o.cells;unfold mae at bi aW bc br bL d0 d1 d2;refine ub2 (v:=aa #[I .i64 2,I Y (wd ka2 0),I Y (wd ka2 1),I Y (wd ka2 2),I Y (wd ka2 3),I U 0,I U 0,D Z 0 0]) (by simp[results,results172,go_sem,bi,aW,bc,br,bL,d0,d1,d2]) rfl ?_;exact ⟨_,rfl,RxV.mbV _ _ _,cp.o,ei.o⟩|guard_hyp NQ;refine (kBz aq gr bq.o).mono ?_;rintro e aF ⟨rfl,en,cu⟩;have gi:=dT.kept cu ch;have mg:=lJ.maa cu;clear dT lJ cu gr;obtain ⟨⟨⟨aN,aM⟩,aZ,bC⟩,⟨b1,c5⟩,ct,bI⟩:=gi.cells;obtain ⟨⟨⟨f0,b2⟩,cB,dS⟩,⟨eJ,jN⟩,mP,mQ⟩:=gi.free;obtain ⟨cf,cp,ei⟩:=hd3 (gi.all (I U 2) (I Y (wd S 0)) (I Y (wd S 1)) (I Y (wd S 2)) (I Y (wd S 3)) (I U 0) (I U 0) (D Z 0 0)) (en.mbR (X:=w.heap.size) oM (I U 2) (I Y (wd S 0)) (I Y (wd S 1)) (I Y (wd S 2)) (I Y (wd S 3)) (I U 0) (I U 0) (D Z 0 0)) (kas mg (g:=w.heap.size) (.inr (nR)) (I U 2) (I Y (wd S 0)) (I Y (wd S 1)) (I Y (wd S 2)) (I Y (wd S 3)) (I U 0) (I U 0) (D Z 0 0));clear gi;go_wp2_with fail;obtain ⟨⟨⟨bi,aW⟩,bc,br⟩,⟨bL,d0⟩,d1,d2⟩:=cf.o.cells;unfold mae at bi aW bc br bL d0 d1 d2;refine ub2 (v:=aa #[I .i64 2,I Y (wd S 0),I Y (wd S 1),I Y (wd S 2),I Y (wd S 3),I U 0,I U 0,D Z 0 0]) (by simp[results,results172,go_sem,bi,aW,bc,br,bL,d0,d1,d2]) rfl ?_;exact ⟨_,rfl,RxV.mbV _ _ _,cp.o,ei.o⟩|refine (kAh aq gr bq.o).mono ?_;rintro e aF ⟨rfl,en,cu⟩;have gi:=dT.kept cu ch;have mg:=lJ.maa cu;clear dT lJ cu gr;go_wp2_with fail;refine (kpG x aF).mono ?_;rintro e a6 ⟨rfl,b3⟩;have e8:=gi.below b3 gi.lt;have qa:=mg.maa (Kept.of_below b3);have h0:=PS.kept en (Kept.of_below (F:=fun _=>False) b3) id;clear gi mg en b3;obtain ⟨⟨⟨aN,aM⟩,aZ,bC⟩,⟨b1,c5⟩,ct,bI⟩:=e8.cells;obtain ⟨⟨⟨f0,b2⟩,cB,dS⟩,⟨eJ,jN⟩,mP,mQ⟩:=e8.free;obtain ⟨cf,cp,ei⟩:=hd3 (e8.all (I U 2) (I Y (wd (kaa x.toNat) 0)) (I Y (wd (kaa x.toNat) 1)) (I Y (wd (kaa x.toNat) 2)) (I Y (wd (kaa x.toNat) 3)) (I U 0) (I U 0) (D Z 0 0)) (h0.mbR (X:=w.heap.size) oM (I U 2) (I Y (wd (kaa x.toNat) 0)) (I Y (wd (kaa x.toNat) 1)) (I Y (wd (kaa x.toNat) 2)) (I Y (wd (kaa x.toNat) 3)) (I U 0) (I U 0) (D Z 0 0)) (kas qa (g:=w.heap.size) (.inr (nR)) (I U 2) (I Y (wd (kaa x.toNat) 0)) (I Y (wd (kaa x.toNat) 1)) (I Y (wd (kaa x.toNat) 2)) (I Y (wd (kaa x.toNat) 3)) (I U 0) (I U 0) (D Z 0 0));clear e8;go_wp2_with fail;obtain ⟨⟨⟨bi,aW⟩,bc,br⟩,⟨bL,d0⟩,d1,d2⟩:=cf.o.cells;unfold mae at bi aW bc br bL d0 d1 d2;refine ub2 (v:=aa #[I .i64 2,I Y (wd (kaa x.toNat) 0),I Y (wd (kaa x.toNat) 1),I Y (wd (kaa x.toNat) 2),I Y (wd (kaa x.toNat) 3),I U 0,I U 0,D Z 0 0]) (by simp[results,results172,go_sem,bi,aW,bc,br,bL,d0,d1,d2]) rfl ?_;exact ⟨_,rfl,RxV.mbV _ _ _,cp.o,ei.o⟩)):=h
def kmv (h:P:=by have NN:=();exact knz):=h
def kdl (h:P:=by exact knz):=h
def rng (a b:Nat):Nat→Prop:=fun i=>a≤i∧i<b
def kcg (T:List UInt8) (w:O) (g:Nat) (r:Option (Rx×Nat)) (e:Ending) (w':O):Prop:=match r with
 |none=>kbb T w g e w'
 |some (r,k')=>∃ cs,e=ac (aa cs.toArray)∧RxV w' (rng w w'.heap.size) r cs∧PS T w' g k'∧Kept (isG g) w w'
def PS.mbR {T:List UInt8} {w:O} {g k X:Nat} (h:PS T w g k) (hg:g≠X) (aT aU aX a2 d7 hI hJ hK:C):PS T (mae w X aT aU aX a2 d7 hI hJ hK) g k:=⟨Blk.mae h.1 hg aT aU aX a2 d7 hI hJ hK,h.2⟩
def RxV.mbV (w:O) (F:Nat→Prop) (S:LS):RxV w F (Rx.set S) [I .i64 2,I Y (wd S 0),I Y (wd S 1),I Y (wd S 2),I Y (wd S 3),I U 0,I U 0,D Z 0 0]:=by unfold Rx.set RxV RxVs;exact kgs
def RxV.kept {w w':O} {aR F G:Nat→Prop} {r:Rx} {cs:List C} (h:RxV w F r cs) (k:Kept aR w w') (hd:∀ i,F i→i<w.heap.size→¬aR i) (el:∀ i,F i→i<w.heap.size→G i):RxV w' G r cs:=
 RxV.keep (fun i hi az=>k.block i az (hd i hi az)) k.size el r cs h
def RxVs.kept {w w':O} {aR F G:Nat→Prop} {l:List Rx} {cs:List C} (h:RxVs w F l cs) (k:Kept aR w w') (hd:∀ i,F i→i<w.heap.size→¬aR i) (el:∀ i,F i→i<w.heap.size→G i):RxVs w' G l cs:=
 RxVs.keep (fun i hi az=>k.block i az (hd i hi az)) k.size el l cs h
def kAh {T:List UInt8} {g k k':Nat} {x:UInt8} (w:O) (h:PS T w g k) (ax:kaO T k=N (x,k')):L prog 204 #[ab (N ⟨g,0,Z⟩)] w (kbf T w g (I ai x.toNat) k'):=by have:=kry w h;rw[ax] at this;exact this
def kAq {T:List UInt8} {g k:Nat} (w:O) (h:PS T w g k) (ax:kaO T k=Z):L prog 204 #[ab (N ⟨g,0,Z⟩)] w (kbb T w g):=by have:=kry w h;rw[ax] at this;exact this
def kBz {T:List UInt8} {g k k':Nat} {S:LS} (w:O) (h:PS T w g k) (ax:kcA T k=N (S,k')):L prog 206 #[ab (N ⟨g,0,Z⟩)] w (kbf T w g (aa #[I .u64 (wd S 0),I Y (wd S 1),I Y (wd S 2),I Y (wd S 3)]) k'):=by have:=krV w h;rw[ax] at this;exact this
def kBA {T:List UInt8} {g k:Nat} (w:O) (h:PS T w g k) (ax:kcA T k=Z):L prog 206 #[ab (N ⟨g,0,Z⟩)] w (kbb T w g):=by have:=krV w h;rw[ax] at this;exact this
def kpG (b:UInt8) (w:O):L prog 203 #[I .u8 b.toNat] w fun e w'=>e=ac (aa #[I .i64 2,I Y (wd (kaa b.toNat) 0),I Y (wd (kaa b.toNat) 1),I Y (wd (kaa b.toNat) 2),I Y (wd (kaa b.toNat) 3),I U 0,I U 0,D Z 0 0])∧H w w w':=kv5 b w
def kAJ (w:O):L prog 205 #[] w fun e w'=>e=ac (aa #[I .u64 (wd ka2 0),I Y (wd ka2 1),I Y (wd ka2 2),I Y (wd ka2 3)])∧H w w w':=kAK w
def ktZ:∀ b:Fin 256,decide (0≤Lib.indexByte specials (UInt8.ofNat b.val))=specials.contains (UInt8.ofNat b.val):=by decide+kernel
def ktY (b:UInt8):decide (0≤Lib.indexByte specials b)=specials.contains b:=by have:=ktZ ⟨b.toNat,b.toNat_lt⟩;simpa using this
def kyD (b:UInt8) (v8:Int) (g4:Lib.indexByte specials b=v8) (w:O):L prog 207 #[Q ⟨#[92,46,91,93,40,41,123,125,124,42,43,63]⟩,I ai b.toNat] w fun e w'=>e=ac (I U v8)∧w=w':=by subst g4;refine (Tryz.strings_IndexByte ⟨#[92,46,91,93,40,41,123,125,124,42,43,63]⟩ (b.toNat:Int) w).mono ?_;rintro e w' ⟨rfl,rfl⟩;exact ⟨by simp[specials],rfl⟩
def kty {T:List UInt8} {g k:Nat} (w:O) (h:PS T w g k) (ak:T[k]? =Z):L prog 172 #[ab (N ⟨g,0,Z⟩)] w (kbb T w g):=by have AF:=();exact kdl
def ktA {T:List UInt8} {g k:Nat} (w:O) (h:PS T w g k) (ak:T[k]? =N 92) (aG:kaO T (k+1)=Z):L prog 172 #[ab (N ⟨g,0,Z⟩)] w (kbb T w g):=by have NO:=();exact kdl
def ktz {T:List UInt8} {g k:Nat} (w:O) (h:PS T w g k) {x:UInt8} {k':Nat} (ak:T[k]? =N 92) (aG:kaO T (k+1)=N (x,k')):L prog 172 #[ab (N ⟨g,0,Z⟩)] w (kcg T w g (N (Rx.one x,k'))):=by exact kdl
def ktB {T:List UInt8} {g k:Nat} (w:O) (h:PS T w g k) (ak:T[k]? =N 46):L prog 172 #[ab (N ⟨g,0,Z⟩)] w (kcg T w g (N (Rx.set ka2,k+1))):=by have HY:=();exact kdl
def ktD {T:List UInt8} {g k:Nat} (w:O) (h:PS T w g k) (ak:T[k]? =N 91) (aG:kcA T (k+1)=Z):L prog 172 #[ab (N ⟨g,0,Z⟩)] w (kbb T w g):=by have NP:=();exact kdl
def ktC {T:List UInt8} {g k:Nat} (w:O) (h:PS T w g k) {S:LS} {k':Nat} (ak:T[k]? =N 91) (aG:kcA T (k+1)=N (S,k')):L prog 172 #[ab (N ⟨g,0,Z⟩)] w (kcg T w g (N (Rx.set S,k'))):=by have NQ:=();exact kdl
def ktx {T:List UInt8} {g k:Nat} (w:O) (h:PS T w g k) (ak:T[k]? =N 40) (ce:∀ aq,PS T aq g (k+1)→L prog 90 #[ab (N ⟨g,0,Z⟩)] aq (kcg T aq g Z)):L prog 172 #[ab (N ⟨g,0,Z⟩)] w (kbb T w g):=by have HZ:=();exact kdl
def ktw {T:List UInt8} {g k:Nat} (w:O) (h:PS T w g k) (ak:T[k]? =N 40) {r:Rx} {k':Nat} (ce:∀ aq,PS T aq g (k+1)→L prog 90 #[ab (N ⟨g,0,Z⟩)] aq (kcg T aq g (N (r,k')))) (an:¬T[k']? =N 41):L prog 172 #[ab (N ⟨g,0,Z⟩)] w (kbb T w g):=by exact kmv
def ktv {T:List UInt8} {g k:Nat} (w:O) (h:PS T w g k) (ak:T[k]? =N 40) {r:Rx} {k':Nat} (ce:∀ aq,PS T aq g (k+1)→L prog 90 #[ab (N ⟨g,0,Z⟩)] aq (kcg T aq g (N (r,k')))) (an:T[k']? =N 41):L prog 172 #[ab (N ⟨g,0,Z⟩)] w (kcg T w g (N (r,k'+1))):=by have AG:=();exact kmv
def ktt {T:List UInt8} {g k:Nat} (w:O) (h:PS T w g k) {b:UInt8} (ak:T[k]? =N b) (hs:b≠92) (kG:b≠46) (kn:b≠91) (it:b≠40) (al:specials.contains b=K):L prog 172 #[ab (N ⟨g,0,Z⟩)] w (kbb T w g):=by have H0:=();exact kdl
def ktu {T:List UInt8} {g k:Nat} (w:O) (h:PS T w g k) {b:UInt8} (ak:T[k]? =N b) (hs:b≠92) (kG:b≠46) (kn:b≠91) (it:b≠40) (al:specials.contains b=J):L prog 172 #[ab (N ⟨g,0,Z⟩)] w (kcg T w g (N (Rx.one b,k+1))):=by have H1:=();exact kdl
def ktE {T:List UInt8} {g k:Nat} (w:O) (E:Nat→Option (Rx×Nat)) (h:PS T w g k) (ce:∀ aq,PS T aq g (k+1)→L prog 90 #[ab (N ⟨g,0,Z⟩)] aq (kcg T aq g (E (k+1)))):L prog 172 #[ab (N ⟨g,0,Z⟩)] w (kcg T w g (kcv T E k)):=by
 unfold kcv;rcases ak:T[k]? with _|b
 .exact kty w h ak
 simp only;by_cases hs:b=92
 .rw[ua1 hs];subst hs;rcases aG:kaO T (k+1) with _|⟨x,k'⟩
  .exact ktA w h ak aG
  .exact ktz w h ak aG
 rw[ua0 hs];by_cases kG:b=46
 .rw[ua1 kG];subst kG;exact ktB w h ak
 rw[ua0 kG];by_cases kn:b=91
 .rw[ua1 kn];subst kn;rcases aG:kcA T (k+1) with _|⟨x,k'⟩
  .exact ktD w h ak aG
  .exact ktC w h ak aG
 rw[ua0 kn];by_cases it:b=40
 .rw[ua1 it];subst it;rcases aG:E (k+1) with _|⟨r,k'⟩
  .rw[aG] at ce;exact ktx w h ak ce
  .rw[aG] at ce;simp only;by_cases an:T[k']? =N 41
   .rw[ua1 an];exact ktv w h ak ce an
   .rw[ua0 an];exact ktw w h ak ce an
 rw[ua0 it];rcases al:specials.contains b with _|_
 .exact ktu w h ak hs kG kn it al
 .exact ktt w h ak hs kG kn it al
def knl (h:P:=by obtain ⟨⟨⟨aN,aM⟩,aZ,bC⟩,⟨b1,c5⟩,ct,bI⟩:=e8.cells;obtain ⟨⟨⟨f0,b2⟩,cB,dS⟩,⟨eJ,jN⟩,mP,mQ⟩:=e8.free;obtain ⟨cf,AH,nB⟩:=hd3 (e8.all (I U kd) (I Y a0) (I Y aY) (I Y bh) (I Y a3) (I U lo) (I U hi) (D dd n cS)) (h0.mbR (X:=w.heap.size) oM (I U kd) (I Y a0) (I Y aY) (I Y bh) (I Y a3) (I U lo) (I U hi) (D dd n cS)) (kas qa (g:=w.heap.size) (.inr (nR)) (I U kd) (I Y a0) (I Y aY) (I Y bh) (I Y a3) (I U lo) (I U hi) (D dd n cS));clear e8;go_wp2_with fail;obtain ⟨⟨⟨bi,aW⟩,bc,br⟩,⟨bL,d0⟩,d1,d2⟩:=cf.o.cells;unfold mae at bi aW bc br bL d0 d1 d2;first|guard_hyp NS;refine ub2 (v:=aa #[I .i64 kd,I Y a0,I Y aY,I Y bh,I Y a3,I U lo,I U hi,D dd n cS]) (by simp[results,results137,go_sem,bi,aW,bc,br,bL,d0,d1,d2]) rfl ?_;refine ⟨_,rfl,?_,AH.o,nB.o⟩;refine AI.o.kept (kas (Kept.refl (fun i=>i=w.heap.size) a6) (g:=w.heap.size) (.inl rfl) (I U kd) (I Y a0) (I Y aY) (I Y bh) (I Y a3) (I U lo) (I U hi) (D dd n cS)) (fun i dq _ e=>by have ek:i=w.heap.size:=e;have mh:w.heap.size+1≤i:=dq;omega) (fun i dq az=>⟨by have mh:w.heap.size+1≤i:=dq;omega,?_⟩);exact ua7 az (kas (Kept.refl (fun i=>i=w.heap.size) a6) (g:=w.heap.size) (.inl rfl) (I U kd) (I Y a0) (I Y aY) (I Y bh) (I Y a3) (I U lo) (I U hi) (D dd n cS)).size|refine ub2 (v:=aa #[I .i64 kd,I Y a0,I Y aY,I Y bh,I Y a3,I U lo,I U hi,D dd n cS]) (by simp[results,results90,go_sem,bi,aW,bc,br,bL,d0,d1,d2]) rfl ?_;refine ⟨_,rfl,?_,AH.o,nB.o⟩;refine AI.o.kept (kas (Kept.refl (fun i=>i=w.heap.size) a6) (g:=w.heap.size) (.inl rfl) (I U kd) (I Y a0) (I Y aY) (I Y bh) (I Y a3) (I U lo) (I U hi) (D dd n cS)) (fun i dq _ e=>by have ek:i=w.heap.size:=e;have mh:w.heap.size+1≤i:=dq.1;omega) (fun i dq az=>⟨by have mh:w.heap.size+1≤i:=dq.1;omega,?_⟩);exact ua7 az (kas (Kept.refl (fun i=>i=w.heap.size) a6) (g:=w.heap.size) (.inl rfl) (I U kd) (I Y a0) (I Y aY) (I Y bh) (I Y a3) (I U lo) (I U hi) (D dd n cS)).size):=h
def km7 (h:P:=by
 have iO:RxV aK (fun i=>cT.heap.size≤i∧i<aK.heap.size∧i≠aF.heap.size) fM [I .i64 kd,I Y a0,I Y aY,I Y bh,I Y a3,I U lo,I U hi,D A n c]:=NX.o.kept dg (fun i dq _ e=>by have:=dq.1;have ek:i=g:=e;omega) (fun i dq az=>⟨dq.1,ua7 az dg.size,dq.2.2⟩)
 first
 |guard_hyp NY;have Dv:Kept (gX g aF) cT aK:=((hM.o.mono fun i e=> .inl e).maa (Dz.o.mono fun i e=> .inl e)).maa (x2.o.maa (dg.mono fun i e=> .inl e))
  have oG:=eg.o.kept Dv (fun i af ao e=>by
   rcases e with e|e
   .have wa:g<w.heap.size:=hg;omega
   .omega)
  have h1:=h9.o.kept Dv (fun e=>by
   rcases e with e|e
   .have wa:g<w.heap.size:=hg;omega
   .omega)
  obtain ⟨⟨⟨aN,aM⟩,aZ,bC⟩,⟨b1,c5⟩,ct,bI⟩:=hN.cells;have NR:=();exact kny
 |have kM:Kept (gX g aF) wX aK:=x2.o.maa (dg.mono fun i e=> .inl e);have lK:aF.heap.size<aK.heap.size:=hN.lt;clear aN aM aZ bC b1 c5 ct bI xV xW xX xY H2 H3 H4 H5;obtain ⟨⟨⟨aN,aM⟩,aZ,bC⟩,⟨b1,c5⟩,ct,bI⟩:=hN.cells;obtain ⟨⟨⟨xV,xW⟩,xX,xY⟩,⟨H2,H3⟩,H4,H5⟩:=hN.free;have AE:bS<fp:=Ib.2.2 (by intro e;cases e);have Yt:fp≤T.length:=Ib.2.1;have bF:=hD (kAW (k1:=k1) (s1:=cT.heap.size) (wX:=wX) (X:=aF.heap.size) (f:=cB) (R:=x1) (lo2:=lo2) (hi2:=hi2) jx oM oM x3 hN iO kM oM lK oM);clear hN iO kM jx dg sF;go_wp2_with fail;go_roundg cB
  case measure=>omega
  case rel=>exact bF.o):=h
def kif (h:P:=by obtain ⟨lL,dU⟩:=eg.o;obtain ⟨A,c,rfl,dx⟩:=kds lL;have bd:fG=N (Rx.seq l,k):=(by rw[cf.o,←a1.o,←bH]);subst bd;have dB:=hD dU;have fQ:=hD dx;obtain ⟨eK,kO⟩:=xE l.length;rw[←kO] at ao fQ ⊢;have qV:=hD kO;clear lL dU dx eg bH kO;go_wp2_with fail;go_quiet (fail);go_wp2_with fail;refine (ku3 A eK c (cT.drewN _) (fun i=>w.heap.size+1≤i) l bV qV.o.symm ((fQ.o.any fun i hi _=>hi).drewN _) ((dB.o.any fun i hi _=>hi.1).drewN _) oM).mono ?_;rintro e a6 ⟨cs,rfl,au,b3⟩;obtain ⟨kd,a0,aY,bh,a3,lo,hi,dd,n,cS,rfl⟩:=au.eight;have e8:=R8.below (w:=cT) (h9.o) ⟨b3.os,b3.tape,b3.output,b3.size,b3.block⟩ h9.o.lt;have qa:=Kept.maa (b:=cT) ei.o (Kept.of_below (F:=isG g) ⟨b3.os,b3.tape,b3.output,b3.size,b3.block⟩);have h0:=PS.kept (w:=cT) cp.o (F:=fun _=>False) (Kept.of_below ⟨b3.os,b3.tape,b3.output,b3.size,b3.block⟩) id;have AI:=hD au;clear au b3 fQ dB;have NS:=();exact knl):=h
def kny (h:P:=by
 have gc:=oG.1.alloc (y #[I .i64 kd,I Y a0,I Y aY,I Y bh,I Y a3,I U lo,I U hi,D A n c] 105);have e9:=kju aK (I U kd) (I Y a0) (I Y aY) (I Y bh) (I Y a3) (I U lo) (I U hi) (D A n c);have d9:∀ u∈([I .i64 kd,I Y a0,I Y aY,I Y bh,I Y a3,I U lo,I U hi,D A n c]:List C),u.oneCell'=K:=by simp[Value.oneCell']
 first
 |guard_hyp NR;have Yu:w.heap.size+1≤aK.heap.size:=oM;obtain ⟨h7,Dw,n3,fR,oI,da⟩:=hd6 iO oG.2 oG.1 kM jx h1;clear hN kM iO Dv oG h1 jx dg sF;have cM:=dc.o;have ds:=jP.o;have cJ:=jQ.o;have eW:=jR.o;(go_wp2_with (at_builtin;refine kbs _ rfl (.tmp 57) (.tmp 59) 103 rfl (w.heap.size+1) 105 eX (aa #[I .i64 0,I Y 0,I Y 0,I Y 0,I Y 0,I U 0,I U 0,D Z 0 0]) 8 80 underlying103 cM ds cJ eW rfl dC _ l.length bV rfl gc _ _ _ _ [I .i64 kd,I Y a0,I Y aY,I Y bh,I Y a3,I U lo,I U hi,D A n c] rfl e9 d9 (by unfold maxLen;omega) oM (by simp;omega) ?_));intro v5 bm h5 g3 g7;clear cM ds cJ eW gc e9 d9;go_wp2_with fail;go_roundg f
  case measure=>omega
  case rel=>exact ktq hg oI.o Dw.o n3.o da.o fR.o h7.o (fun i dq _=>⟨by have:=dq.1;omega,fun e=>by have:=kbM eg.o.1 e;have:=dq.1;omega⟩) h5 g3 g7 oM oM oM rG
 |have h7:=hD au;obtain ⟨Dw,n3,fR,oI,da⟩:=hd5 oG.2 oG.1 kM jx h1;clear kM au wg oG h1 jx dg h0 fd;have cM:=dc.o;have ds:=jP.o;have cJ:=jQ.o;have eW:=jR.o;(go_wp2_with (at_builtin;refine kbs _ rfl (.tmp 9) (.tmp 12) 103 rfl (w.heap.size+1) 105 eX (aa #[I .i64 0,I Y 0,I Y 0,I Y 0,I Y 0,I U 0,I U 0,D Z 0 0]) 8 80 underlying103 cM ds cJ eW rfl dC _ l.length bV rfl gc _ _ _ _ [I .i64 kd,I Y a0,I Y aY,I Y bh,I Y a3,I U lo,I U hi,D A n c] rfl e9 d9 (by unfold maxLen;omega) oM (by simp;omega) ?_));intro v5 bm h5 g3 g7;clear cM ds cJ eW gc e9 d9;have bF:=hD (kvC hg oI.o Dw.o n3.o da.o fR.o h7.o (fun i dq _=>⟨by have sD:=dq.1;omega,fun e=>by have:=kbM eg.o.1 e;have sD:=dq.1;omega⟩) h5 g3 g7);clear h5 g3 g7;go_wp2_with fail;go_roundg f
  case measure=>omega
  case rel=>obtain ⟨bD,dP,li,hf⟩:=bF.o;exact ⟨l++[fM],_,fp,bD,oM,by simp,by simp;omega,oM,x3.o,dP,li,hf⟩):=h
def kmh (h:P:=by have j5:=fun i (e:v.ownBlock=N i)=>kbM c1 e;have gJ:Kept (fun i=>v.ownBlock=N i) (aK.alloc o) bm:=Kept.mbH g3 fun hG e=>e;have xZ:Kept (fun _=>False) aK (aK.alloc o):=(Kept.refl _ _).alloc o;(first|guard_hyp NT;refine ⟨l++[fM],bV++cs,fp,PS.kept (oI.alloc o) gJ (fun e=>by have:=j5 _ e;omega),jw,by rw[ua6];exact az,b5,rG,?_,R8.kept (da.alloc o) gJ (fun e=>by have:=j5 _ e;omega),(fR.alloc o).trans (gJ.mono fun i e=> .inr (by have:=j5 _ e;omega))⟩|refine ⟨PS.kept (oI.alloc o) gJ (fun e=>by have:=j5 _ e;omega),?_,R8.kept (da.alloc o) gJ (fun e=>by have:=j5 _ e;omega),(fR.alloc o).trans (gJ.mono fun i e=> .inr (by have:=j5 _ e;omega))⟩);refine LSt.push (F:=fun i=>xL i∧i<aK.heap.size) ?_ h5 g3 (by simpa using g7) (iO.kept xZ (fun _ _ _=>id) fun _ h az=>⟨h,az⟩) fun i hi g2=>MZ i hi.1 hi.2;exact eg.kept xZ (fun _ _ _=>id) fun i hi g2=>⟨hi.1,by simp;omega,hi.2.2⟩):=h
def kf1:(prog.info? 105).map (fun i=>(i.zero,i.size,i.bytes))=N (N (aa #[I .i64 0,I Y 0,I Y 0,I Y 0,I Y 0,I U 0,I U 0,D Z 0 0]),8,80):=kR
def kvO {w w':O} {base e size n:Nat} {v:C} {xs:List C} (h:w.ownsRow base e size v n xs) (aw:∀ i,base≤i→i<w.heap.size→w'.heap[i]? =w.heap[i]?):w'.ownsRow base e size v n xs:=by
 refine ⟨h.1,?_⟩;rcases h.2 with h|⟨g,cap,cur,af,ao,av,bk⟩
 .exact .inl h
 .refine .inr ⟨g,cap,cur,af,ao,(aw g ao ?_).trans av,bk⟩;rcases ug1 g w with az|az
  .exact az
  .rw[um4 az] at av;cases av
def ka8 (lo hi:Nat) (v:C):Nat→Prop:=fun i=>lo≤i∧i<hi∧v.ownBlock≠N i
def LSt (lo:Nat) (v:C) (l:List Rx) (bV:List C) (w:O):Prop:=w.ownsRow lo 105 8 v l.length bV∧RxVs w (ka8 lo w v) l bV
def LSt.kept {lo:Nat} {v:C} {l:List Rx} {bV:List C} {w w':O} {aR:Nat→Prop} (h:LSt lo v l bV w) (k:Kept aR w w') (aJ:∀ i:Nat,lo≤i→i<w.heap.size→¬aR i):LSt lo v l bV w':=
 ⟨kvO h.1 fun i af ao=>k.block i ao (aJ i af ao),h.2.kept k (fun i hi az=>aJ i hi.1 az) fun _ hi az=>⟨hi.1,ua7 az k.size,hi.2.2⟩⟩
def LSt.nil (lo:Nat) (w:O):LSt lo (D Z 0 0) [] [] w:=⟨⟨rfl, .inl ⟨rfl,rfl⟩⟩,by unfold RxVs;rfl⟩
def kds {w:O} {base e size n:Nat} {v:C} {xs:List C} (h:w.ownsRow base e size v n xs):∃ A c,v=D A n c∧RdF w (fun i=>base≤i) size A n xs:=by
 obtain ⟨az,ao⟩:=h;rcases ao with ⟨rfl,rfl⟩|⟨g,cap,cur,rfl,af,av,_,_,cb,dE⟩
 .exact ⟨Z,0,rfl,az,fun h=>absurd h oM⟩
 .refine ⟨_,_,rfl,az,fun _=>⟨g,0,rfl,af,Blk.lt av,fun j u aI=>?_⟩⟩;rw[←dE] at aI;rw[ud3,cell_of_row w g j cur e (0,0) av];have:=ua4 aI;rw[uc4] at aI;split at aI
  .simpa using aI
  .cases aI
def LSt.push {lo:Nat} {v cH:C} {l:List Rx} {bV cs:List C} {w w':O} {r:Rx} {F:Nat→Prop} (aH:RxVs w (ka8 lo w v) l bV) (bf:w'.ownsRow lo 105 8 cH (l.length+1) (bV++cs)) (hg:w.grownBy w' v.ownBlock) (au:cH.ownBlock=v.ownBlock∨cH.ownBlock=N w.heap.size)
 (am:RxV w F r cs) (hF:∀ i,F i→i<w.heap.size→lo≤i∧v.ownBlock≠N i):LSt lo cH (l++[r]) (bV++cs) w':=by
 have aw:∀ i,i<w.heap.size→v.ownBlock≠N i→w'.heap[i]? =w.heap[i]? :=fun i af ao=>hg.block i af (fun e=>ao e.symm)
 have el:∀ i,i<w.heap.size→lo≤i→v.ownBlock≠N i→ka8 lo w' cH i:=fun i af ao av=>⟨ao,ua7 af hg.size,by
  rcases au with e|e
  .rw[e];exact av
  .rw[e];intro ek;injection ek with ek;omega⟩
 refine ⟨by rw[ua6];exact bf,RxVs.append ?_ (RxVs.one ?_)⟩
 .exact RxVs.keep (fun i hi az=>aw i az hi.2.2) hg.size (fun i hi az=>el i az hi.1 hi.2.2) l bV aH
 .exact RxV.keep (fun i hi az=>aw i az (hF i hi az).2) hg.size (fun i hi az=>el i az (hF i hi az).1 (hF i hi az).2) r cs am
def kju (w:O) (v0 dX eb v3 v4 v5 fw eQ:C):Reads (w.alloc (y #[v0,dX,eb,v3,v4,v5,fw,eQ] 105)) (w.heap.size+1) 8 (N ⟨w,0,Z⟩) 1 [v0,dX,eb,v3,v4,v5,fw,eQ]:=
 ⟨rfl,fun _=>⟨_,rfl,by simp,fun j u aI=>kcI w #[v0,dX,eb,v3,v4,v5,fw,eQ] 105 j u aI⟩⟩
def ku3 (A:Option ae) (n c:Nat) (w:O) (F:Nat→Prop) (l:List Rx) (bV:List C) (ax:l.length=n) (am:RdF w F 8 A n bV) (au:RxVs w F l bV) (fT:n≤9223372036854775807):L prog 174 #[D A n c] w (kk3 w F (Rx.seq l)):=by subst ax;exact ku0 A c w F l bV am au fT
def RdF.any {w:O} {F G:Nat→Prop} {size n:Nat} {A:Option ae} {xs:List C} (h:RdF w F size A n xs) (el:∀ i,F i→i<w.heap.size→G i):RdF w G size A n xs:=h.keep (fun _ _ _=>rfl) (nR) el
def RxVs.any {w:O} {F G:Nat→Prop} {l:List Rx} {cs:List C} (h:RxVs w F l cs) (el:∀ i,F i→i<w.heap.size→G i):RxVs w G l cs:=RxVs.keep (fun _ _ _=>rfl) (nR) el l cs h
def RdF.drewN {w:O} {F:Nat→Prop} {size n:Nat} {A:Option ae} {xs:List C} (h:RdF w F size A n xs) (m:Nat):RdF (w.drewN m) F size A n xs:=h
def RxVs.drewN {w:O} {F:Nat→Prop} {l:List Rx} {cs:List C} (h:RxVs w F l cs) (m:Nat):RxVs (w.drewN m) F l cs:=RxVs.keep (w:=w) (w':=w.drewN m) (fun _ _ _=>rfl) (nR) (fun _ h _=>h) l cs h
def kst (T:List UInt8) (w:O) (g k0:Nat) (E:Nat→Option (Rx×Nat)) (R:Option (List Rx×Nat)) (f:Nat) (v:C) (wr:O):Prop:=
 ∃(l:List Rx) (bV:List C) (k:Nat),PS T wr g k∧k0≤k∧l.length≤k∧T.length-k<f∧Hz (kbQ T E f l k=R)∧LSt (w.heap.size+1) v l bV wr∧R8 wr w (I U 0) (I Y 0) (I Y 0) (I Y 0) (I Y 0) (I U 0) (I U 0) (D Z 0 0)∧Kept (isG g) w wr
def gX (g X:Nat):Nat→Prop:=fun i=>i=g∨i=X
def ksy (T:List UInt8) (wX:O) (g X s1 k1:Nat) (R:Option (Rx×Nat)) (f:Nat) (wr:O):Prop:=
 ∃(r:Rx) (cs:List C) (k:Nat),PS T wr g k∧k1≤k∧T.length-k<f∧Hz (kbH T f r k=R)∧Blk wr X 105 cs.toArray∧RxV wr (fun i=>s1≤i∧i<wr.heap.size∧i≠X) r cs∧Kept (gX g X) wX wr
theorem kBh {T:List UInt8} {g k k':Nat} {c:Option (Int×Int)} (w:O) (h:PS T w g k) (ax:kby T k=N (c,k')):L prog 173 #[ab (N ⟨g,0,Z⟩)] w (kbf T w g (match c with
 |none=>ag #[I .i64 0,I U 0,V false]
 |some (lo,hi)=>ag #[I .i64 lo,I U hi,V true]) k'):=by
 have:=krL w h;rw[ax] at this;rcases c with _|⟨lo,hi⟩ <;> exact this
def kBm {T:List UInt8} {g k:Nat} (w:O) (h:PS T w g k) (ax:kby T k=Z):L prog 173 #[ab (N ⟨g,0,Z⟩)] w (kbb T w g):=by have:=krL w h;rw[ax] at this;exact this
def Kept.join {g X:Nat} {a b c:O} (h:Kept (isG g) a b) (k:Kept (gX g X) b c) (d6:a.heap.size≤X):Kept (isG g) a c:=
 h.trans (k.mono fun i hi=>by
  rcases hi with e|e
  .exact .inl e
  .exact .inr oM)
def kbM {w:O} {base e size n i:Nat} {v:C} {xs:List C} (h:w.ownsRow base e size v n xs) (au:v.ownBlock=N i):base≤i∧i<w.heap.size:=by
 rcases h.2 with ⟨rfl,_⟩|⟨g,cap,cur,rfl,af,av,_⟩
 .cases au
 .injection au with au;subst au;exact ⟨af,Blk.lt av⟩
def ktq {T:List UInt8} {w aK bm:O} {g k0 fp f:Nat} {E:Nat→Option (Rx×Nat)} {R:Option (List Rx×Nat)} {v v5:C} {l:List Rx} {bV:List C} {fM:Rx} {o:Obj} {cs:List C} {xL:Nat→Prop} (hg:g<w.heap.size)
 (oI:PS T aK g fp) (eg:RxVs aK (ka8 (w.heap.size+1) aK.heap.size v) l bV) (c1:aK.ownsRow (w.heap.size+1) 105 8 v l.length bV) (da:R8 aK w (I U 0) (I Y 0) (I Y 0) (I Y 0) (I Y 0) (I U 0) (I U 0) (D Z 0 0)) (fR:Kept (isG g) w aK) (iO:RxV aK xL fM cs)
 (MZ:∀ i,xL i→i<aK.heap.size→w.heap.size+1≤i∧v.ownBlock≠N i) (h5:bm.ownsRow (w.heap.size+1) 105 8 v5 (l.length+1) (bV++cs)) (g3:(aK.alloc o).grownBy bm v.ownBlock) (g7:v5.ownBlock=v.ownBlock∨v5.ownBlock=N (aK.heap.size+1))
 (jw:k0≤fp) (az:l.length+1≤fp) (b5:T.length-fp<f) (rG:Hz (kbQ T E f (l++[fM]) fp=R)):kst T w g k0 E R f v5 bm:=by
 have NT:=();exact kmh
def kAW {T:List UInt8} {wX aK:O} {g X s1 k1 fp f:Nat} {R:Option (Rx×Nat)} {fM:Rx} {lo2 hi2:Int} {kd a0 aY bh a3:Nat} {lo hi:Int} {A:Option ae} {n c:Nat} (aO:PS T aK g fp) (af:k1≤fp) (b5:T.length-fp<f) (cp:Hz (kbH T f (Rx.rep lo2 hi2 fM) fp=R))
 (d6:R8 aK X (I U kd) (I Y a0) (I Y aY) (I Y bh) (I Y a3) (I U lo) (I U hi) (D A n c)) (au:RxV aK (fun i=>s1≤i∧i<aK.heap.size∧i≠X) fM [I .i64 kd,I Y a0,I Y aY,I Y bh,I Y a3,I U lo,I U hi,D A n c]) (aJ:Kept (gX g X) wX aK) (Yb:g≠X) (al:X<aK.heap.size) (gZ:s1≤X):
 ksy T wX g X s1 k1 R f ((mae aK X (I U 5) (I Y 0) (I Y 0) (I Y 0) (I Y 0) (I U lo2) (I U hi2) (D (N ⟨aK,0,Z⟩) 1 1)).alloc (y #[I .i64 kd,I Y a0,I Y aY,I Y bh,I Y a3,I U lo,I U hi,D A n c] 105)):=by
 have sE:(mae aK X (I U 5) (I Y 0) (I Y 0) (I Y 0) (I Y 0) (I U lo2) (I U hi2) (D (N ⟨aK,0,Z⟩) 1 1)).heap.size=aK.heap.size:=(by simp[mae,World.setCell]);have lM:Kept (fun i=>i=X) aK (mae aK X (I U 5) (I Y 0) (I Y 0) (I Y 0) (I Y 0) (I U lo2) (I U hi2) (D (N ⟨aK,0,Z⟩) 1 1)):=kas (F:=fun i=>i=X) (Kept.refl _ _) (.inl rfl) _ _ _ _ _ _ _ _;have sF:=d6.all (I U 5) (I Y 0) (I Y 0) (I Y 0) (I Y 0) (I U lo2) (I U hi2) (D (N ⟨aK,0,Z⟩) 1 1);have Dx:=aO.mbR (X:=X) Yb (I U 5) (I Y 0) (I Y 0) (I Y 0) (I Y 0) (I U lo2) (I U hi2) (D (N ⟨aK,0,Z⟩) 1 1);have NU:=kas aJ (g:=X) (.inl (.inr rfl)) (I U 5) (I Y 0) (I Y 0) (I Y 0) (I Y 0) (I U lo2) (I U hi2) (D (N ⟨aK,0,Z⟩) 1 1);generalize (mae aK X (I U 5) (I Y 0) (I Y 0) (I Y 0) (I Y 0) (I U lo2) (I U hi2) (D (N ⟨aK,0,Z⟩) 1 1))=gx at*;have AJ:Blk (gx.alloc (y #[I .i64 kd,I Y a0,I Y aY,I Y bh,I Y a3,I U lo,I U hi,D A n c] 105)) aK 105 #[I .i64 kd,I Y a0,I Y aY,I Y bh,I Y a3,I U lo,I U hi,D A n c]:=(by rw[←sE];exact Blk.new _ _ _);have h8:(gx.alloc (y #[I .i64 kd,I Y a0,I Y aY,I Y bh,I Y a3,I U lo,I U hi,D A n c] 105)).heap.size=aK.heap.size+1:=(by simp[sE]);have g7:=au.kept (lM.alloc (y #[I .i64 kd,I Y a0,I Y aY,I Y bh,I Y a3,I U lo,I U hi,D A n c] 105)) (fun i hi _ e=>hi.2.2 e) (G:=fun i=>s1≤i∧i<(gx.alloc (y #[I .i64 kd,I Y a0,I Y aY,I Y bh,I Y a3,I U lo,I U hi,D A n c] 105)).heap.size∧i≠X) (fun i hi az=>⟨hi.1,oM,hi.2.2⟩);refine ⟨Rx.rep lo2 hi2 fM,[I .i64 5,I Y 0,I Y 0,I Y 0,I Y 0,I U lo2,I U hi2,D (N ⟨aK,0,Z⟩) 1 1],fp,Dx.alloc _,af,b5,cp,Blk.alloc sF _,?_,NU.alloc _⟩;unfold Rx.rep RxV;refine ⟨N ⟨aK,0,Z⟩,1,[I .i64 kd,I Y a0,I Y aY,I Y bh,I Y a3,I U lo,I U hi,D A n c],rfl,⟨rfl,fun _=>⟨_,_,rfl,⟨oM,oM,oM⟩,oM,fun j u aI=>?_⟩⟩,RxVs.one g7⟩;rw[ud3,AJ.cell];simpa using aI
def ktr {T:List UInt8} {g k0:Nat} (w:O) (E:Nat→Option (Rx×Nat)) (h:PS T w g k0) (Ay:∀ k k' r,k≤T.length→E k=N (r,k')→k≤k'∧k'≤T.length)
 (ce:∀ k1 aq,k0<k1→PS T aq g k1→L prog 90 #[ab (N ⟨g,0,Z⟩)] aq (kcg T aq g (E k1))):L prog 137 #[ab (N ⟨g,0,Z⟩)] w (kcg T w g (kbL T E k0)):=by
 obtain ⟨eX,cM,ds,cJ,eW⟩:=ug6 kf1;obtain ⟨R,aH⟩:=xE (kbQ T E (T.length+1) [] k0);obtain ⟨fG,cO⟩:=xE (kbL T E k0);rw[←cO];unfold kbL at cO;obtain ⟨cf,a1,bq,AK⟩:=hd4 cO aH ce Ay;have dN:=bZ T;have dr:=h.2.2;have hg:=h.lt;have jw:=h.2.1;obtain ⟨lh,gY,ix⟩:=hd3 (R8.mk0 w w rfl) (h.alloc (y #[I .i64 0,I Y 0,I Y 0,I Y 0,I Y 0,I U 0,I U 0,D Z 0 0] 105)) ((Kept.refl (isG g) w).alloc (y #[I .i64 0,I Y 0,I Y 0,I Y 0,I Y 0,I U 0,I U 0,D Z 0 0] 105));have ch:¬isG g w.heap.size:=fun e=>absurd hg (by rw[show g=w.heap.size from e.symm];omega);obtain ⟨dc,jP,jQ,jR⟩:=hd4 cM ds cJ eW;clear cO aH ce Ay h cM ds cJ eW;go_enter func137,ntmps137;go_wp2_with fail;go_loopg [3] (T.length+1) (fun f v wr=>kst T w g k0 E R f v wr)
 case atStart=>exact ⟨[],[],k0,gY.o,nR,ud1 _,oM,a1.o.symm,LSt.nil _ _,lh.o,ix.o⟩
 case round=>
  obtain ⟨cT,rfl⟩:∃ cT:O,cT=wr:=⟨_,rfl⟩;obtain ⟨l,bV,k,aO,af,ao,av,cZ,cR,x0,aJ⟩:=hrel;obtain ⟨f,rfl⟩:=xS gk;obtain ⟨aN,aM,bE⟩:=aO.cells;have p7:=aO.2.1;obtain ⟨cp,eg,h9,ei⟩:=hd4 aO cR x0 aJ;have bH:=cZ.out;clear aO cR x0 aJ cZ lh gY ix;rw[kbQ] at bH;rcases ak:T[k]? with _|b
  .have gp:T.length≤k:=uc6.1 ak;have eI:decide (k<T.length)=J:=(by simp;omega);have cg:kbu T k=K:=(by unfold kbu;simp[gp]);rw[ua1 cg] at bH;clear ak cg;exact kif
  .have az:=kaj ak;have eI:decide ((k:Int)<(T.length:Int))=K:=(by simp;omega);have g4:=kaX (P:=prog) underlying9 ak;by_cases ld:b=124
   .subst ld;rw[show ((124:UInt8).toNat:Int)=124 from rfl] at g4;have cg:kbu T k=K:=(by unfold kbu;simp[ak]);rw[ua1 cg] at bH;clear ak cg;exact kif
   by_cases nw:b=41
   .subst nw;rw[show ((41:UInt8).toNat:Int)=41 from rfl] at g4;have cg:kbu T k=K:=(by unfold kbu;simp[ak]);rw[ua1 cg] at bH;clear ak cg ld;exact kif
   have cg:kbu T k=J:=(by unfold kbu;simp[ak,ld,nw];omega);rw[ua0 (by rw[cg];decide)] at bH;have bb:((b.toNat:Int)==124)=J:=kbj (c:=124) ld;have db:((b.toNat:Int)==41)=J:=kbj (c:=41) nw;have Yv:((b.toNat:Int) != 124)=K:=(by simpa using bb);have Yw:((b.toNat:Int) != 41)=K:=(by simpa using db);have wb:=fun n=>ktE (cT.drewN n) E (cp.o.drewN n) (fun aq aQ=>bq.o (k+1) aq oM aQ);clear ak cg ld nw;rcases aB:kcv T E k with _|⟨r,k1⟩
   .rw[aB] at bH wb;have bd:fG=Z:=(by rw[cf.o,←a1.o,←bH]);subst bd;have eY:=hD wb;clear wb aB bH;go_wp2_with fail;go_quiet (fail);go_wp2_with fail;refine (eY.o _).mono ?_;rintro e aF ⟨rfl,en,cu⟩;go_wp2_with fail;exact ⟨rfl,rfl,en,(ei.o.drewN _).maa cu⟩
   .rw[aB] at bH wb;have hh:=kgX AK.o aB;simp only at bH;have eY:=hD wb;obtain ⟨x1,gi⟩:=xE (kbH T (T.length+1) r k1);rw[←gi] at bH;have mS:=hD bH;have co:=hD gi;clear wb aB bH gi;go_wp2_with fail;go_quiet (fail);go_wp2_with fail;refine (eY.o _).mono ?_;rintro e aF ⟨cs,rfl,au,en,cu⟩;obtain ⟨kd,a0,aY,bh,a3,lo,hi,A,n,c,rfl⟩:=au.eight;have NV:w.heap.size<cT.heap.size:=h9.o.lt;have up:g<cT.heap.size:=cp.o.lt;have iN:cT.heap.size≤aF.heap.size:=cu.size;obtain ⟨dB,fS,hM,jS⟩:=hd4 au (Kept.maa (b:=cT) ei.o ⟨cu.os,cu.tape,cu.output,cu.size,cu.block⟩) (show Kept (isG g) cT aF from ⟨cu.os,cu.tape,cu.output,cu.size,cu.block⟩) en;clear au cu en eY aN aM bE g4;go_wp2_with fail;obtain ⟨wX,we⟩:=xE (aF.alloc (y #[I .i64 kd,I Y a0,I Y aY,I Y bh,I Y a3,I U lo,I U hi,D A n c] 105));have H6:=bM we;have Yx:=wS we;have H7:PS T wX g k1:=(by rw[we];exact jS.o.alloc _);have Dy:Kept (isG g) aF wX:=(by rw[we];exact (Kept.refl _ _).alloc _);have H8:RxV wX (fun i=>cT.heap.size≤i∧i<wX.heap.size∧i≠aF.heap.size) r [I .i64 kd,I Y a0,I Y aY,I Y bh,I Y a3,I U lo,I U hi,D A n c]:=dB.o.kept Dy (fun i dq _ e=>by have sD:cT.heap.size≤i:=dq.1;have ek:i=g:=e;omega) (fun i dq az=>⟨dq.1,oM,by have:=dq.2;omega⟩);rw[←we];obtain ⟨hj,H9,sG,Dz⟩:=hd4 H6 H7 H8 Dy;clear we H6 H7 H8 Dy;go_loopg [] (T.length+1) (fun f wr=>ksy T wX g aF cT.heap.size k1 x1 f wr)
    case atStart=>exact ⟨r,_,k1,H9.o,nR,oM,co.o.symm,hj.o,sG.o,Kept.refl _ _⟩
    case round=>
     clear hj H9 sG;obtain ⟨fM,qW,bS,aO,bk,cb,cZ,d6,au,aJ⟩:=hrel;obtain ⟨cB,rfl⟩:=xS gk;obtain ⟨kd,a0,aY,bh,a3,lo,hi,A,n,c,rfl⟩:=au.eight;have NW:=aO.2.1;obtain ⟨Ia,x2,NX⟩:=hd3 aO aJ au;have sF:R8 wr aF (I U kd) (I Y a0) (I Y aY) (I Y bh) (I Y a3) (I U lo) (I U hi) (D A n c):=d6;have bH:=cZ.out;rw[kbH] at bH;clear aO aJ au d6 cZ;rcases an:kby T bS with _|⟨cK,fp⟩
     .rw[an] at bH;have a8:=hD (kBm wr Ia.o an);have bd:fG=Z:=(by rw[cf.o,←a1.o,←mS.o,←bH]);subst bd;clear an bH;go_wp2_with fail;refine a8.o.mono ?_;rintro e aK ⟨rfl,jx,dg⟩;go_wp2_with fail;exact ⟨rfl,rfl,jx,((fS.o.maa Dz.o).join x2.o oM).maa dg⟩
     .rw[an] at bH;have Ib:=ke9 NW an;have a8:=hD (kBh wr Ia.o an);rcases cK with _|⟨lo2,hi2⟩
      .simp only at bH a8;have qX:=mS.o;rw[←bH] at qX;simp only at qX;have rG:=hD qX;clear an bH qX;go_wp2_with fail;refine a8.o.mono ?_;rintro e aK ⟨rfl,jx,dg⟩;have hN:=sF.kept dg (fun e=>by have ek:aF.heap.size=g:=e;omega);have kM:=((fS.o.maa Dz.o).join x2.o oM).maa dg;have lK:wX.heap.size≤aK.heap.size:=uc9 x2.o.size dg.size;have NY:=();exact km7
      .simp only at bH a8;have x3:=hD bH;clear an bH;obtain ⟨⟨⟨aN,aM⟩,aZ,bC⟩,⟨b1,c5⟩,ct,bI⟩:=sF.cells;obtain ⟨⟨⟨xV,xW⟩,xX,xY⟩,⟨H2,H3⟩,H4,H5⟩:=sF.free;go_wp2_with fail;refine a8.o.mono ?_;rintro e aK ⟨rfl,jx,dg⟩;have hN:=sF.kept dg (fun e=>by have ek:aF.heap.size=g:=e;omega);exact km7
def kmM (h:P:=by have Ic:=dU;unfold RxVs RxVs at Ic;obtain ⟨cs,lG,rfl,jy,rfl⟩:=Ic;rw[ug2] at cq;obtain ⟨kd,a0,aY,bh,a3,lo,hi,dd,n,cS,rfl⟩:=jy.eight;have bu:=cq 0 _ rfl;have bY:=cq 1 _ rfl;have cP:=cq 2 _ rfl;have c8:=cq 3 _ rfl;have dj:=cq 4 _ rfl;have gK:=cq 5 _ rfl;have f3:=cq 6 _ rfl;have h2:=cq 7 _ rfl;rw[uh4] at bu;have AI:=hD jy;first|guard_hyp N1;clear cq dx dU rJ jy;simp only[uc3] at HI ⊢;exact knl|clear cq dx dU jy;simp only[uc3];obtain ⟨⟨⟨r0,d5⟩,fM,jM⟩,⟨rH,nC⟩,rI,nD⟩:=oj.o.cells;obtain ⟨⟨⟨z0,ca⟩,cI,z3⟩,⟨z4,z5⟩,lN,lO⟩:=oj.o.free;obtain ⟨f4,jB,iP⟩:=hd3 (oj.o.all (I U kd) (I Y a0) (I Y aY) (I Y bh) (I Y a3) (I U lo) (I U hi) (D dd n cS)) (show GS T (mae wc w (I U kd) (I Y a0) (I Y aY) (I Y bh) (I Y a3) (I U lo) (I U hi) (D dd n cS)) g _ _ from Blk.mae wK.o oM (I U kd) (I Y a0) (I Y aY) (I Y bh) (I Y a3) (I U lo) (I U hi) (D dd n cS)) (kas wL.o (.inr (uf1 w)) (I U kd) (I Y a0) (I Y aY) (I Y bh) (I Y a3) (I U lo) (I U hi) (D dd n cS));have NZ:=();exact kdJ):=h
def kvC {T:List UInt8} {w aK bm:O} {g fp:Nat} {v v5:C} {l:List Rx} {bV:List C} {fM:Rx} {o:Obj} {cs:List C} {xL:Nat→Prop} (hg:g<w.heap.size)
 (oI:PS T aK g fp) (eg:RxVs aK (ka8 (w.heap.size+1) aK.heap.size v) l bV) (c1:aK.ownsRow (w.heap.size+1) 105 8 v l.length bV) (da:R8 aK w (I U 0) (I Y 0) (I Y 0) (I Y 0) (I Y 0) (I U 0) (I U 0) (D Z 0 0)) (fR:Kept (isG g) w aK) (iO:RxV aK xL fM cs)
 (MZ:∀ i,xL i→i<aK.heap.size→w.heap.size+1≤i∧v.ownBlock≠N i) (h5:bm.ownsRow (w.heap.size+1) 105 8 v5 (l.length+1) (bV++cs)) (g3:(aK.alloc o).grownBy bm v.ownBlock) (g7:v5.ownBlock=v.ownBlock∨v5.ownBlock=N (aK.heap.size+1)):
 PS T bm g fp∧LSt (w.heap.size+1) v5 (l++[fM]) (bV++cs) bm∧R8 bm w (I U 0) (I Y 0) (I Y 0) (I Y 0) (I Y 0) (I U 0) (I U 0) (D Z 0 0)∧Kept (isG g) w bm:=by
 exact kmh
def kDp (T:List UInt8) (w:O) (g k0:Nat) (E:Nat→Option (Rx×Nat)) (R:Option (List Rx×Nat)) (f:Nat) (v:C) (wr:O):Prop:=
 ∃(l:List Rx) (bV:List C) (k:Nat),PS T wr g k∧k0≤k∧1≤l.length∧l.length≤k+1∧T.length-k<f∧Hz (kcf T E f l k=R)∧LSt (w.heap.size+1) v l bV wr∧R8 wr w (I U 0) (I Y 0) (I Y 0) (I Y 0) (I Y 0) (I U 0) (I U 0) (D Z 0 0)∧Kept (isG g) w wr
def LSt.one {lo:Nat} {w:O} {r:Rx} {F:Nat→Prop} {v0 dX eb v3 v4 v5 fw eQ:C} (au:RxV w F r [v0,dX,eb,v3,v4,v5,fw,eQ]) (hF:∀ i,F i→i<w.heap.size→lo≤i) (az:lo≤w.heap.size):
 LSt lo (D (N ⟨w,0,Z⟩) 1 1) [r] [v0,dX,eb,v3,v4,v5,fw,eQ] (w.alloc (y #[v0,dX,eb,v3,v4,v5,fw,eQ] 105)):=by
 refine ⟨⟨rfl, .inr ⟨w.heap.size,1,_,rfl,az,Blk.new _ _ _,nR,dC,rfl,rfl⟩⟩,RxVs.one ?_⟩;refine au.kept ((Kept.refl (fun _=>False) w).alloc _) (fun _ _ _=>id) fun i hi g2=>⟨hF i hi g2,by simp;omega,?_⟩;intro e;injection e with e;have ek:w.heap.size=i:=e;omega
theorem kB7 {T:List UInt8} {E:Nat→Option (Rx×Nat)} {f k:Nat} {l:List Rx} :kcf T E (f+1) l k=if T[k]? =N 124 then (match kbL T E (k+1) with
   | none => none
   | some (r, k') => kcf T E f (l ++ [r]) k')
  else N (l, k) := rfl
theorem Rx.mca {l:List Rx} (h:2≤l.length):Rx.alt l=Rx.plain 4 l:=by
 match l,h with
 |r::q::l,_=>rfl
theorem kAf {T:List UInt8} {g k0:Nat} (w:O) (E:Nat→Option (Rx×Nat)) (h:PS T w g k0) (Ay:∀ k k' r,k≤T.length→E k=N (r,k')→k≤k'∧k'≤T.length)
 (M0:∀ k1 aq,k0≤k1→PS T aq g k1→L prog 137 #[ab (N ⟨g,0,Z⟩)] aq (kcg T aq g (kbL T E k1))) (fG:Option (Rx×Nat)) (cO:fG=match kbL T E k0 with
 |none=>none
 |some (r,k1)=>match kcf T E (T.length+1) [r] k1 with
 |none=>none
 |some (l,bS)=>some (Rx.alt l,bS)):L prog 90 #[ab (some ⟨g,0,none⟩)] w (kcg T w g fG):=by
 obtain ⟨eX,cM,ds,cJ,eW⟩:=ug6 kf1;obtain ⟨cf,bq,AK⟩:=hd3 cO M0 Ay;have dr:=h.2.2;have hg:=h.lt;have jw:=h.2.1;obtain ⟨lh,gY,ix⟩:=hd3 (R8.mk0 w w rfl) (h.alloc (y #[I .i64 0,I Y 0,I Y 0,I Y 0,I Y 0,I U 0,I U 0,D Z 0 0] 105)) ((Kept.refl (isG g) w).alloc (y #[I .i64 0,I Y 0,I Y 0,I Y 0,I Y 0,I U 0,I U 0,D Z 0 0] 105));have ch:¬isG g w.heap.size:=fun e=>absurd hg (by rw[show g=w.heap.size from e.symm];omega);obtain ⟨dc,jP,jQ,jR⟩:=hd4 cM ds cJ eW;clear cO M0 Ay h cM ds cJ eW;rcases aB:kbL T E k0 with _|⟨r,k1⟩
 .have bd:=cf.o;rw[aB] at bd;subst bd;have eY:=hD (bq.o k0 _ (nR) gY.o);rw[aB] at eY;clear aB;go_enter func90,ntmps90;go_wp2_with fail;refine eY.o.mono ?_;rintro e aF ⟨rfl,en,cu⟩;go_wp2_with fail;exact ⟨rfl,rfl,en,ix.o.maa cu⟩
 .have bd:=cf.o;rw[aB] at bd;simp only at bd;have hh:=kdO AK.o jw aB;obtain ⟨R,aH⟩:=xE (kcf T E (T.length+1) [r] k1);rw[←aH] at bd;obtain ⟨cf,a1,eY⟩:=hd3 bd aH (bq.o k0 _ (nR) gY.o);rw[aB] at eY;clear aB bd aH;go_enter func90,ntmps90;go_wp2_with fail;refine eY.o.mono ?_;rintro e aF ⟨cs,rfl,au,en,cu⟩;obtain ⟨kd,a0,aY,bh,a3,lo,hi,A,n,c,rfl⟩:=au.eight;have gi:=lh.o.kept cu ch;have mg:=ix.o.maa cu;have iN:w.heap.size+1≤aF.heap.size:=(by have:=cu.size;simpa using this);have kq:=hD (LSt.one (lo:=w.heap.size+1) au (fun i dq _=>by have sD:=dq.1;simp at sD;omega) iN);obtain ⟨mS,co,fS⟩:=hd3 (en.alloc (y #[I .i64 kd,I Y a0,I Y aY,I Y bh,I Y a3,I U lo,I U hi,D A n c] 105)) (gi.alloc (y #[I .i64 kd,I Y a0,I Y aY,I Y bh,I Y a3,I U lo,I U hi,D A n c] 105)) (mg.alloc (y #[I .i64 kd,I Y a0,I Y aY,I Y bh,I Y a3,I U lo,I U hi,D A n c] 105));clear au en cu gi mg lh gY ix eY;go_wp2_with fail;go_loopg [3] (T.length+1) (fun f v wr=>kDp T w g k0 E R f v wr)
  case atStart=>exact ⟨[r],_,k1,mS.o,hh.1,by simp,by simp,oM,a1.o.symm,kq.o,co.o,fS.o⟩
  case round=>
   clear mS co fS kq;obtain ⟨cT,rfl⟩:∃ cT:O,cT=wr:=⟨_,rfl⟩;obtain ⟨l,bV,k,aO,af,ew,ao,av,cZ,cR,x0,aJ⟩:=hrel;obtain ⟨f,rfl⟩:=xS gk;have p7:=aO.2.1;obtain ⟨cp,eg,h9,ei⟩:=hd4 aO cR x0 aJ;have bH:=cZ.out;clear aO cR x0 aJ cZ;rw[kB7] at bH;by_cases ak:T[k]? =N 124
   .rw[ua1 ak] at bH;have AL:=kaj ak;have b7:=hD (skY 124 124 rfl cT cp.o ak);clear ak;rcases aB:kbL T E (k+1) with _|⟨fM,fp⟩
    .rw[aB] at bH;have bd:fG=Z:=(by rw[cf.o,←bH]);subst bd;have eY:=hD fun aq af=>bq.o (k+1) aq oM af;rw[aB] at eY;clear aB bH;go_wp2_with fail;refine b7.o.mono ?_;rintro e a6 ⟨rfl,h0,fd⟩;go_wp2_with fail;refine (eY.o a6 h0).mono ?_;rintro e aK ⟨rfl,jx,dg⟩;go_wp2_with fail;exact ⟨rfl,rfl,jx,(ei.o.maa fd).maa dg⟩
    .rw[aB] at bH;have Yy:=kdO AK.o oM aB;have x3:=hD bH;have eY:=hD fun aq af=>bq.o (k+1) aq oM af;rw[aB] at eY;clear aB bH;go_wp2_with fail;refine b7.o.mono ?_;rintro e a6 ⟨rfl,h0,fd⟩;go_wp2_with fail;refine (eY.o a6 h0).mono ?_;rintro e aK ⟨cs,rfl,au,jx,dg⟩;obtain ⟨kd,a0,aY,bh,a3,lo,hi,A,n,c,rfl⟩:=au.eight;have v7:cT.heap.size≤a6.heap.size:=fd.size;have lK:a6.heap.size≤aK.heap.size:=dg.size;have NV:w.heap.size<cT.heap.size:=h9.o.lt;have wg:=fd.maa dg;have oG:=eg.o.kept wg (fun i af ao e=>by have ek:i=g:=e;omega);have h1:=h9.o.kept wg ch;have kM:=ei.o.maa wg;exact kny
   .rw[ua0 ak] at bH;have b7:=hD (skN 124 124 rfl cT cp.o ak);have bd:fG=N (Rx.alt l,k):=(by rw[cf.o,←bH]);subst bd;clear ak bH;go_wp2_with fail;refine b7.o.mono ?_;rintro e a6 ⟨rfl,h0,fd⟩;have rJ:=eg.o.kept fd (fun i af ao e=>by have ek:i=g:=e;omega);have e8:=h9.o.kept fd ch;have qa:=ei.o.maa fd;obtain ⟨A,c,N0,dx⟩:=kds rJ.1;subst N0;have dU:=rJ.2;by_cases HI:l.length=1
    .obtain ⟨d5,rfl⟩:∃ d5,l=[d5]:=by
      match l,HI with
      |[d5],_=>exact ⟨d5,rfl⟩
     obtain ⟨b,AM,rfl,j6,eZ,cq⟩:=dx.2 (by simp);have N1:=();exact kmM
    .obtain ⟨eK,kO⟩:=xE l.length;have bb:((eK:Int)==1)=J:=(by simp;omega);rw[←kO] at dx ⊢;have fQ:=hD dx;have iQ:=hD dU;have kI:2≤eK:=oM;have kJ:eK≤k+1:=oM;have qV:=hD kO;clear dx dU rJ kO HI;obtain ⟨⟨⟨aN,aM⟩,aZ,bC⟩,⟨b1,c5⟩,ct,bI⟩:=e8.cells;obtain ⟨⟨⟨f0,b2⟩,cB,dS⟩,⟨eJ,jN⟩,mP,mQ⟩:=e8.free;obtain ⟨cf,AH,nB⟩:=hd3 (e8.all (I U 4) (I Y 0) (I Y 0) (I Y 0) (I Y 0) (I U 0) (I U 0) (D A eK c)) (h0.mbR (X:=w.heap.size) oM (I U 4) (I Y 0) (I Y 0) (I Y 0) (I Y 0) (I U 0) (I U 0) (D A eK c)) (kas qa (g:=w.heap.size) (.inr (nR)) (I U 4) (I Y 0) (I Y 0) (I Y 0) (I Y 0) (I U 0) (I U 0) (D A eK c));clear e8;go_wp2_with fail;obtain ⟨⟨⟨bi,aW⟩,bc,br⟩,⟨bL,d0⟩,d1,d2⟩:=cf.o.cells;unfold mae at bi aW bc br bL d0 d1 d2;refine ub2 (v:=aa #[I .i64 4,I Y 0,I Y 0,I Y 0,I Y 0,I U 0,I U 0,D A eK c]) (by simp[results,results90,go_sem,bi,aW,bc,br,bL,d0,d1,d2]) rfl ?_;refine ⟨_,rfl,?_,AH.o,nB.o⟩;have lP:=kas (Kept.refl (fun i=>i=w.heap.size) a6) (g:=w.heap.size) (.inl rfl) (I U 4) (I Y 0) (I Y 0) (I Y 0) (I Y 0) (I U 0) (I U 0) (D A eK c);rw[Rx.mca (by have:=qV.o;omega)];unfold Rx.plain RxV;rw[←qV.o];refine ⟨A,c,bV,rfl,fQ.o.keep (fun i dq az=>lP.block i az (fun e=>by have ek:i=w.heap.size:=e;have mh:w.heap.size+1≤i:=dq;omega)) lP.size (fun i dq az=>⟨by have mh:w.heap.size+1≤i:=dq;omega,ua7 az lP.size⟩),?_⟩;exact iQ.o.kept lP (fun i dq _ e=>by have ek:i=w.heap.size:=e;have mh:w.heap.size+1≤i:=dq.1;omega) (fun i dq az=>⟨by have mh:w.heap.size+1≤i:=dq.1;omega,ua7 az lP.size⟩)
theorem krx {T:List UInt8} {g:Nat} :∀(n k:Nat) (w:O),PS T w g k→T.length-k<n→L prog 90 #[ab (N ⟨g,0,Z⟩)] w (kcg T w g (kbG T n k))
 |0,_,_,_,h=>by omega
 |n+1,k,w,h,ax=>by have bQ:=krx (T:=T) (g:=g) n;refine kAf w (kbG T n) h (ke7 n) (fun k1 aq aw af=>?_) _ rfl;exact ktr aq (kbG T n) af (ke7 n) fun bS aF cu ao=>bQ bS aF ao (by have:=ao.2.1;omega)
def kiA (h:P:=by
 go_enter func139,ntmps139;go_wp2_with fail;obtain ⟨aq,aQ⟩:=xE (w.setCell ⟨m,0,Z⟩ (I U ((s:Int)+1)));rw[←aQ];have N2:=hD (show Blk aq m 195 #[I .i64 ((s:Int)+1)] by rw[aQ];exact Blk.mac hQ.o 0 _);have jd:=hD (show Kept (isG m) w aq by rw[aQ];exact (Kept.refl (isG m) w).setCell (p:=⟨m,0,Z⟩) (.inl rfl) _);clear aQ;go_loopg [6,7,39] (ps.length+1) (fun f p q i wr=>kC8 w m s d (kaM kind) ps p q i wr∧ps.length-(intOf i).toNat<f)
 case atStart=>exact ⟨⟨0,ud1 _,rfl,by rw[pr.o];rfl,rfl,by simpa[kam] using N2.o,by simp[kam];omega,fun j x h _=>by omega,jd.o⟩,by simp[intOf]⟩
 first
 |guard_hyp N8
  case round=>have N3:=();exact kmc
 |exact kmc):=h
def kmc (h:P:=by
 obtain ⟨⟨k,aw,rfl,rfl,rfl,nE,mU,qb,DA⟩,po⟩:=hrel;have Id:=koj Rx.mbu kps ps k oM;have jT:=koj Rx.mbv knI ps k oM;have f5:kaM kind≤1:=(by unfold kaM;split <;> omega);obtain ⟨x4,nB,kr⟩:=hd3 nE DA qb;have x5:=hR.o.kept DA wh;have bu:=x5.2 0 _ rfl;have gK:=x5.2 5 _ rfl;have f3:=x5.2 6 _ rfl;have h2:=x5.2 7 _ rfl;rw[uh4] at bu;clear nE DA qb x5;have Yz:ps.length-k<gk:=(by simpa[intOf] using po);clear po;by_cases bG:k<ps.length
 .obtain ⟨x,aA⟩:=xG ps bG;obtain ⟨im,iR,je⟩:=iQ.o.get k x aA;obtain ⟨cx,dp,N4,j6,eZ,cq⟩:=fQ.o.2 oM;subst N4;have mV:=kcW jU.o aA;have oJ:=kfH ps k x aA;have pp:=kg3 ps (k+1);have YA:=kAT aA;have Ie:cx≠m:=fun e=>hFm cx j6 e;have fI:At8 wr cx (dp+k*8) im:=At8.kept (w:=w) ⟨eZ,fun j u aI=>by have:=cq (k*8+j) u (je j u aI);rw[show dp+k*8+j=dp+(k*8+j) by omega];exact this⟩ nB.o (fun e=>Ie e);have gj:=iR.kept nB.o (fun i hi _ e=>hFm i hi e) (fun i hi _=>hi);have a8:=hD (bQ x (by have:=hP.o;omega) cx (dp+k*8) im wr (s+1+kam (ps.take k)) (d+1) F gj fI Ie hFm x4.o mV oM oM);have de:=hD aA;have hk:k≤300:=(by have:=kcE (ps.take k);rw[ub8] at this;omega);clear aA iR je cq eZ gj fI mV;by_cases hO:kco (s+1+kam (ps.take k)) (d+1) x
  .have b4:=hD hO;have sH:=hO.1;have mW:=hO.2;have lQ:=kps x;have AN:=knI x;clear hO;go_wp2_with fail;refine a8.o.mono ?_;rintro e aF ⟨i8,_,cu⟩;obtain ⟨rfl,x6⟩:=i8 b4.o;have N5:=hD x6;have fS:=hD (nB.o.maa cu);clear x6 cu i8 bu gK f3 h2;go_wp2_with fail;go_roundg (ps.length-k)
   case measure=>omega
   case rel=>
    refine ⟨⟨k+1,bG,rfl,?_,?_,?_,oM,fun j X1 aS qO=>?_,fS.o⟩,by simp[intOf];omega⟩
    .rw[kgZ Rx.mbu ps k x de.o];congr 1;omega
    .rw[kgZ Rx.mbv ps k x de.o];congr 1
    .rw[oJ,show s+1+(kam (ps.take k)+x.size)=s+1+kam (ps.take k)+x.size by omega];exact N5.o
    .rcases ug1 j k with iS|iS
     .exact kr.o j X1 iS qO
     .have:j=k:=oM;subst this;rw[de.o] at qO;injection qO with qO;subst qO;omega
  .have b4:=hD hO;have AO:¬kco s d (.node kind aT aU aX a2 lo hi ps):=fun h=>hO (by unfold kco Rx.size Rx.depth at h;unfold kco;omega);have N6:=hD AO;clear hO AO;go_wp2_with fail;refine a8.o.mono ?_;rintro e aF ⟨_,dY,cu⟩;obtain rfl:=dY b4.o;have fS:=hD (nB.o.maa cu);clear cu dY bu gK f3 h2;go_wp2_with fail;go_ret3
   exact ⟨fun h=>absurd h N6.o,fun _=>rfl,fS.o⟩
 first
 |guard_hyp N3
  .have p7:k=ps.length:=oM;subst p7;have g8:ps.take ps.length=ps:=uf2;rw[g8] at mU Id jT;have DB:=hD (by have:=x4.o;rw[g8] at this;exact this);have DC:=hD (show ka3 ps≤32-d from kkM fun j x aA=>by have:=kr.o j x (kr9 aA) aA;omega);have hO:kco s d (.node kind aT aU aX a2 lo hi ps):=(by unfold kco Rx.size Rx.depth;have:=DC.o;omega);have DD:=hD hO;have x7:=kjy kind aT aU aX a2 lo hi ps kbO;have x8:=kiL kind aT aU aX a2 lo hi ps kbO;have x9:min (kaz kind lo hi (kaM kind+kav Rx.mbu ps)) kbO=Rx.mbu (.node kind aT aU aX a2 lo hi ps):=x7;have ya:min (kaz kind lo hi (kav Rx.mbv ps)+1) kbO=Rx.mbv (.node kind aT aU aX a2 lo hi ps):=x8;have pq:=hD x9;have yb:=hD ya;clear x7 x8 x9 ya hO x4 kr;rw[g8];clear g8;generalize kav Rx.mbu ps=P at*;generalize kav Rx.mbv ps=cY at*;generalize kaM kind=B0 at*;have If:(kaY lo hi:Nat)≤64:=(by unfold kaY;split <;> omega);have ks:=hD (kA1 b o lo hi wr gK f3 DE kN DF dD);have N7:=hD (show kaY lo hi=kaY lo hi from rfl);have fN:(B0+P)*kaY lo hi≤268435457*64:=uo6 oM If;have iy:cY*kaY lo hi≤268435456*64:=uo6 oM If;have AP:(((B0+P:Nat):Int))*((kaY lo hi:Nat):Int)=(((B0+P)*kaY lo hi:Nat):Int):=(by simp);have YB:(((cY:Nat):Int))*((kaY lo hi:Nat):Int)=((cY*kaY lo hi:Nat):Int):=(by simp);have yc:kaz kind lo hi (B0+P)=(B0+P)*kaY lo hi:=(by unfold kaz;rw[ua1 gL.o]);have yd:kaz kind lo hi cY=cY*kaY lo hi:=(by unfold kaz;rw[ua1 gL.o]);rw[yc] at pq;rw[yd] at yb;generalize (B0+P)*kaY lo hi=PC at*;generalize cY*kaY lo hi=QC at*;clear yc yd N7;generalize kaY lo hi=cz at*;generalize B0+P=BP at*;go_wp2_with fail;refine ks.o.mono ?_;rintro e c7 ⟨rfl,rfl⟩;go_wp2_with fail;refine ks.o.mono ?_;rintro e c7 ⟨rfl,rfl⟩;go_wp2_with fail;go_ret3
   refine ⟨fun _=>⟨?_,by unfold Rx.size;rw[←un6];exact DB.o⟩,fun h=>absurd DD.o h,nB.o⟩;rw[←pq.o,←yb.o];refine knZ (khm _ _ ?_) (khm _ _ ?_)
   .first|rfl|omega
   .first|rfl|omega
 |.have p7:k=ps.length:=oM;subst p7;have g8:ps.take ps.length=ps:=uf2;rw[g8] at mU Id jT;have DB:=hD (by have:=x4.o;rw[g8] at this;exact this);have DC:=hD (show ka3 ps≤32-d from kkM fun j x aA=>by have:=kr.o j x (kr9 aA) aA;omega);have hO:kco s d (.node kind aT aU aX a2 lo hi ps):=(by unfold kco Rx.size Rx.depth;have:=DC.o;omega);have DD:=hD hO;have x7:=kjy kind aT aU aX a2 lo hi ps kbO;have x8:=kiL kind aT aU aX a2 lo hi ps kbO;have x9:min (kaz kind lo hi (kaM kind+kav Rx.mbu ps)) kbO=Rx.mbu (.node kind aT aU aX a2 lo hi ps):=x7;have ya:min (kaz kind lo hi (kav Rx.mbv ps)+1) kbO=Rx.mbv (.node kind aT aU aX a2 lo hi ps):=x8;have pq:=hD x9;have yb:=hD ya;clear x7 x8 x9 ya hO x4 kr;rw[g8];clear g8;generalize kav Rx.mbu ps=P at*;generalize kav Rx.mbv ps=cY at*;generalize kaM kind=B0 at*;have yc:kaz kind lo hi (B0+P)=B0+P:=(by unfold kaz;rw[ua0 gL.o]);have yd:kaz kind lo hi cY=cY:=(by unfold kaz;rw[ua0 gL.o]);rw[yc] at pq;rw[yd] at yb;clear yc yd;generalize B0+P=BP at*;go_wp2_with fail;go_ret3
   refine ⟨fun _=>⟨?_,by unfold Rx.size;rw[←un6];exact DB.o⟩,fun h=>absurd DD.o h,nB.o⟩;rw[←pq.o,←yb.o];refine knZ (khm _ _ ?_) (khm _ _ ?_)
   .first|rfl|omega
   .first|rfl|omega):=h
def kA1 (b o:Nat) (lo hi:Int) (w:O) (c5:w.cell? ⟨b,o+5,Z⟩=N (I U lo)) (ct:w.cell? ⟨b,o+6,Z⟩=N (I U hi)) (af:0≤lo) (ao:lo≤64) (av: -1≤hi) (bk:hi≤64):
 L prog 175 #[ab (N ⟨b,o,Z⟩)] w fun e w'=>e=ac (I U (kaY lo hi))∧w=w':=by
 by_cases bg:hi= -1
 .have aL:((kaY lo hi:Nat):Int)=max lo 1:=(by unfold kaY;rw[ua1 bg];omega);rw[aL];subst bg;clear aL;go_enter func175,ntmps175;go_wp2_with fail;go_ret;exact ⟨rfl,rfl⟩
 .have aL:((kaY lo hi:Nat):Int)=hi:=(by unfold kaY;rw[ua0 bg];omega);have bb:(hi== -1)=J:=(by simpa using bg);rw[aL];clear bg aL;go_enter func175,ntmps175;go_wp2_with fail;go_ret;exact ⟨rfl,rfl⟩
def kco (s d:Nat) (r:Rx):Prop:=s+r.size≤256∧d+r.depth≤33
def kC9 (w:O) (m s d:Nat) (r:Rx) (e:Ending) (w':O):Prop:=
 (kco s d r→e=ac (ag #[I .i64 r.mbu,I U r.mbv,V K])∧Blk w' m 195 #[I .i64 ((s+r.size:Nat):Int)])∧
 (¬kco s d r→e=ac (ag #[I .i64 0,I U 0,V J]))∧Kept (isG m) w w'
def At8 (w:O) (b o:Nat) (cs:List C):Prop:=b<w.heap.size∧∀ j u,cs[j]? =N u→w.cell? ⟨b,o+j,Z⟩=N u
def At8.kept {aR:Nat→Prop} {w w':O} {b o:Nat} {cs:List C} (h:At8 w b o cs) (k:Kept aR w w') (ak:¬aR b):At8 w' b o cs:=
 ⟨ua7 h.1 k.size,fun j u aI=>(k.cell (p:=⟨b,o+j,Z⟩) h.1 ak).trans (h.2 j u aI)⟩
def kC8 (w:O) (m s d base:Nat) (ps:List Rx) (p q i:C) (wr:O):Prop:=
 ∃ k : Nat, k ≤ ps.length ∧ i = I U k ∧ p = I U ((base + kav Rx.mbu (ps.take k) : Nat) : Int) ∧ q = I U ((kav Rx.mbv (ps.take k) : Nat) : Int) ∧ Blk wr m 195 #[I .i64 ((s + 1 + kam (ps.take k) : Nat) : Int)] ∧
  s + 1 + kam (ps.take k) ≤ 256 ∧ (∀ (j : Nat) (x : Rx), j < k → ps[j]? = N x → d + 1 + x.depth ≤ 33) ∧ Kept (isG m) w wr
theorem kcE:∀ l:List Rx,l.length≤kam l
 |[]=>by simp
 |r::e7=>by rw[kam,uc8];have:=kcE e7;have:=r.size_pos;omega
def koj (f:Rx→Nat) (b5:∀ r,f r≤1048576) (l:List Rx) (k:Nat) (h:kam (l.take k)≤256):kav f (l.take k)≤268435456:=by have af:=kok f 1048576 b5 (l.take k);have ao:=kcE (l.take k);have av:(l.take k).length*1048576≤256*1048576:=Nat.mul_le_mul_right _ oM;omega
def kps (r:Rx):r.mbu≤1048576:=by unfold Rx.mbu kbO;omega
def knI (r:Rx):r.mbv≤1048576:=by unfold Rx.mbv kbO;omega
def kwr (m s d:Nat) (x:C) (w:O) (bg:Blk w m 195 #[I .i64 s]) (al:s≤300) (hd:d≤40) (ak:256<s+1∨32<d):L prog 139 #[ab (N ⟨m,0,Z⟩),x,I U d] w fun e w'=>e=ac (ag #[I .i64 0,I U 0,V J])∧Kept (isG m) w w':=by
 have aN:=bg.cell 0;have f0:=bg.frozen 0;simp only[gA,gB] at aN;have ei:=hD ((Kept.refl (isG m) w).setCell (p:=⟨m,0,Z⟩) (.inl rfl) (I U ((s:Int)+1)));clear bg;by_cases af:256<s+1
 .have bb:decide (256<(s:Int)+1)=K:=(by simp;omega);clear ak;go_enter func139,ntmps139;go_wp2_with fail;go_ret3
  exact ⟨rfl,ei.o⟩
 .have bb:decide (256<(s:Int)+1)=J:=(by simp;omega);have db:decide (32<(d:Int))=K:=(by simp;omega);clear ak;go_enter func139,ntmps139;go_wp2_with fail;go_ret3
  exact ⟨rfl,ei.o⟩
def knZ {a b ib cx:Int} (h:a=ib) (ao:b=cx):ac (ag #[I .i64 a,I U b,V K])=ac (ag #[I .i64 ib,I U cx,V K]):=by rw[h,ao]
def khm (X:Nat) (x:Int) (h:x=(X:Int)):min x 1048576=((min X kbO:Nat):Int):=by subst h;have e:((kbO:Nat):Int)=1048576:=rfl;rw[←e];omega
def kr9 {l:List Rx} {i:Nat} {x:Rx} (h:l[i]? =N x):i<l.length:=by
 rcases ug1 i l.length with af|af
 .exact af
 .rw[ud5 af] at h;cases h
theorem kp0 (m:Nat):∀(n:Nat) (r:Rx),r.size≤n→∀(b o:Nat) (cs:List C) (w:O) (s d:Nat) (F:Nat→Prop),RxV w F r cs→At8 w b o cs→b≠m→(∀ i,F i→i≠m)→Blk w m 195 #[I .i64 s]→r.mat→s≤300→d≤40→
 L prog 139 #[ab (N ⟨m,0,Z⟩),ab (N ⟨b,o,Z⟩),I U d] w (kC9 w m s d r)
 |0,r,ax,_,_,_,_,_,_,_,_,_,_,_,_,_,_,_=>by have:=r.size_pos;omega
 |n+1, .node kind aT aU aX a2 lo hi ps,ax,b,o,cs,w,s,d,F,au,d4,wh,hFm,bg,aB,al,hd=>by
  have bQ:=kp0 m n;by_cases gs:256<s+1∨32<d
  .have AO:¬kco s d (.node kind aT aU aX a2 lo hi ps):=fun h=>by unfold kco Rx.size Rx.depth at h;omega
   refine (kwr m s d _ w bg al hd gs).mono ?_;rintro e w' ⟨rfl,aw⟩;exact ⟨fun h=>absurd h AO,fun _=>rfl,aw⟩
  .unfold RxV at au;obtain ⟨A,c,bV,rfl,dx,dU⟩:=au;unfold Rx.mat at aB;obtain ⟨qc,_,_,_,_,DE,kN,DF,dD,dw⟩:=aB;have gZ:s+1≤256:=oM;have mR:d≤32:=oM;have bu:=d4.2 0 _ rfl;have h2:=d4.2 7 _ rfl;rw[uh4] at bu;have aN:=bg.cell 0;have f0:=bg.frozen 0;simp only[gA,gB] at aN;have bb:decide (256<(s:Int)+1)=J:=(by simp;omega);have db:decide (32<(d:Int))=J:=(by simp;omega);have Ig:¬isG m b:=fun e=>wh e;obtain ⟨hP,hQ,hR,fQ,iQ,jU⟩:=hd6 (show 1+kam ps≤n+1 from ax) bg d4 dx dU dw;have ch:b≠m:=wh;have DG:¬m=b:=fun e=>wh e.symm;clear gs bg d4 dx dU dw ax wh;have wh:=Ig;clear Ig;by_cases cu:kind=2
   .have c2:((kind:Int)==2)=K:=(by subst cu;rfl);have kP:((kind:Int)==5)=J:=(by subst cu;rfl);have pr:=hD (show kaM kind=1 by unfold kaM;rw[ua1 cu]);have gL:=hD (show ¬kind=5 by omega);clear cu;exact kiA
   .have c2:((kind:Int)==2)=J:=(by simp;omega);have pr:=hD (show kaM kind=0 by unfold kaM;rw[ua0 cu]);by_cases gQ:kind=5
    .have kP:((kind:Int)==5)=K:=(by subst gQ;rfl);have gL:=hD gQ;clear cu gQ;have N8:=();exact kiA
    .have kP:((kind:Int)==5)=J:=(by simp;omega);have gL:=hD gQ;clear cu gQ;exact kiA
def khS (h:P:=by
 clear i8;go_wp2_with fail;go_ret2
 exact ⟨rfl,aV.o _ cu⟩):=h
def kcm:C:= .iface 66 (I U 9)
def msV (r:Rx):C:=if r.fits then ag #[I .i64 r.pos,aj] else ag #[I .i64 0,kcm]
def kxo (b o:Nat) (r:Rx) (cs:List C) (w:O) (F:Nat→Prop) (au:RxV w F r cs) (hF:∀ i,F i→i<w.heap.size) (d4:At8 w b o cs) (aB:r.mat):L prog 91 #[ab (N ⟨b,o,Z⟩)] w fun e w'=>e=ac (msV r)∧H w w w':=by
 have ak:=d4.1;have aJ:Kept (fun _=>False) w (w.alloc (y #[I .i64 0] 195)):=(Kept.refl _ w).alloc _;have cj:=kp0 w r.size r (nR) b o cs (w.alloc (y #[I .i64 0] 195)) 0 1 F (au.kept aJ (fun _ _ _=>id) fun _ h _=>h) (d4.kept aJ id) oM (fun i hi=>by have:=hF i hi;omega) (Blk.new w _ _) aB oM oM;have bF:=hD cj;have aV:=hD (show ∀ w',Kept (isG w) (w.alloc (y #[I .i64 0] 195)) w'→H w w w' from fun w' aw=>by refine aw.below ((ub5 _ w).alloc (nR) _) (by simp) fun i hi=>by have e:i=w.heap.size:=hi;omega);clear cj aJ au hF d4 aB ak;unfold msV;by_cases hO:kco 0 1 r
 .have sH:=hO.1;have mW:=hO.2;by_cases aO:r.pos≤64
  .have qS:r.mbu=r.pos:=(by unfold Rx.mbu kbO;omega);by_cases fn:r.wri≤4096
   .have pt:r.mbv=r.wri:=(by unfold Rx.mbv kbO;omega);have iz:r.fits=K:=(by unfold Rx.fits;simp;omega);rw[ua1 iz];obtain ⟨b4,DH,N9⟩:=hd3 hO qS pt;have bb:decide (64<(r.pos:Int))=J:=(by simp;omega);have db:decide (4096<(r.wri:Int))=J:=(by simp;omega);clear hO qS pt iz sH mW;go_enter func91,ntmps91;go_wp2_with fail;refine bF.o.mono ?_;rintro e aF ⟨i8,_,cu⟩;obtain ⟨rfl,_⟩:=i8 b4.o;rw[DH.o,N9.o];exact khS
   .have iz:r.fits=J:=(by unfold Rx.fits;simp;omega);rw[ua0 (by rw[iz];decide)];have b4:=hD hO;have DH:=hD qS;have bb:decide (64<(r.pos:Int))=J:=(by simp;omega);have db:decide (4096<(r.mbv:Int))=K:=(by unfold Rx.mbv kbO;simp;omega);clear hO qS iz sH mW fn;unfold kcm;go_enter func91,ntmps91;go_wp2_with fail;refine bF.o.mono ?_;rintro e aF ⟨i8,_,cu⟩;obtain ⟨rfl,_⟩:=i8 b4.o;rw[DH.o];exact khS
  .have iz:r.fits=J:=(by unfold Rx.fits;simp;omega);rw[ua0 (by rw[iz];decide)];have b4:=hD hO;have bb:decide (64<(r.mbu:Int))=K:=(by unfold Rx.mbu kbO;simp;omega);clear hO iz sH mW aO;unfold kcm;go_enter func91,ntmps91;go_wp2_with fail;refine bF.o.mono ?_;rintro e aF ⟨i8,_,cu⟩;obtain ⟨rfl,_⟩:=i8 b4.o;exact khS
 .have iz:r.fits=J:=(by unfold kco at hO;unfold Rx.fits;simp;omega);rw[ua0 (by rw[iz];decide)];have b4:=hD hO;clear hO iz;unfold kcm;go_enter func91,ntmps91;go_wp2_with fail;refine bF.o.mono ?_;rintro e aF ⟨_,dY,cu⟩;obtain rfl:=dY b4.o;clear dY;go_wp2_with fail;go_ret2
  exact ⟨rfl,aV.o _ cu⟩
def kBH (p q:ae) (w:O):CallsD prog 89 #[ab (N p),ab (N q)] .returning w fun e lD w'=>e=ac (ag #[])∧lD= .returning∧w'=w:=by refine callsD_of_wpS func89 rfl fun MV cs aI=>?_;apply wpS_seq;apply wpS_region;simp[wpOpsS,go_sem,recoverD,aI,ntmps89,Exit.thenS];refine wpS_cond (t:=J) (by simp[Act.eval,Array.replicate]) ?_;simp only[us6,if_false];refine wpS_of_wp (wp_skip ?_);cases MV;simp_all [bodyPostS,results,results89]
def krX (g h:Nat) (v0 dX eb v3 v4 v5 fw eQ:C) (er:C) (u:ah) (M1:C) (M2:List PanicEntry) (w:O) (aH:R8 w g v0 dX eb v3 v4 v5 fw eQ) (ce:Blk w h 29 #[er]):
 CallsD prog 89 #[ab (N ⟨g,0,Z⟩),ab (N ⟨h,0,Z⟩)] (.panicking ({ v:= .iface u M1,recovered:=J } ::M2)) w fun e lD w'=>
 e=ac (ag #[])∧lD= .panicking ({ v:= .iface u M1,recovered:=K } ::M2)∧w'=(mae w g (I U 0) (I Y 0) (I Y 0) (I Y 0) (I Y 0) (I U 0) (I U 0) (D Z 0 0)).setCell ⟨h,0,Z⟩ kbX:=by
 have YC:¬h=g:=fun e=>Blk.ne_ aH ce dC e.symm;obtain ⟨⟨⟨aN,aM⟩,aZ,bC⟩,⟨b1,c5⟩,ct,bI⟩:=aH.cells;obtain ⟨⟨⟨f0,b2⟩,cB,dS⟩,⟨eJ,jN⟩,mP,mQ⟩:=aH.free;have bw:=ce.cell 0;have aL:=ce.frozen 0;simp only[gA,gB] at bw;clear aH ce;unfold kbX mae;refine callsD_of_wpS func89 rfl fun MV cs aI=>?_;apply wpS_seq;apply wpS_region;simp[wpOpsS,go_sem,recoverD,aI,ntmps89,Exit.thenS];refine wpS_cond (t:=K) (by simp[Act.eval,Array.replicate]) ?_;simp only[if_true];apply wpS_region;simp[wpOpsS,go_sem,aN,aM,aZ,bC,b1,c5,ct,bI,f0,b2,cB,dS,eJ,jN,mP,mQ,bw,aL,bodyPostS,results,results89]
structure KeyS where
 op:List UInt8
 text:List UInt8
 a:Int
 b:Int
 c:Int
 num:Int
deriving DecidableEq
def kcK (k:KeyS):C:=aa #[Q ⟨k.op.toArray⟩,Q ⟨k.text.toArray⟩,I U k.a,I U k.b,I U k.c,I U k.num]
def kym:(prog.underlying 166).map (fun d=>match d with| .struct n4=>n4.toList.map (fun f=>(decide (f.name= "_"),f.type,f.offset))|_=>[])=some [(false,9,0),(false,9,1),(false,164,2),(false,3,5)]:=kR
def ksb:prog.underlying 164=N (.array 3 3):=kR
theorem kj4:∃ b2 cB dS eJ:Field,prog.underlying 166=N (.struct #[b2,cB,dS,eJ])∧(b2.name≠ "_" ∧b2.type=9∧b2.offset=0)∧(cB.name≠ "_" ∧cB.type=9∧cB.offset=1)∧(dS.name≠ "_" ∧dS.type=164∧dS.offset=2)∧(eJ.name≠ "_" ∧eJ.type=3∧eJ.offset=5):=by
 have h:=kym
 cases hd:prog.underlying 166 with
 |none=>rw[hd] at h;cases h
 |some d=>
  rw[hd] at h;simp only[ue5,ug0] at h;cases d <;> simp only[reduceCtorEq] at h;rename_i n4;obtain ⟨n4⟩:=n4
  match n4,h with
  |[b2,cB,dS,eJ],h=>simp at h;exact ⟨b2,cB,dS,eJ,rfl,⟨h.1.1,h.1.2⟩,⟨h.2.1.1,h.2.1.2⟩,⟨h.2.2.1.1,h.2.2.1.2⟩,⟨h.2.2.2.1,h.2.2.2.2⟩⟩
def kjB (a b c d e f:C) (w:O):(part 9 #[a,b,c,d,e,f] 0).run prog w= .ok a w:=kR
def kjA (a b c d e f:C) (w:O):(part 9 #[a,b,c,d,e,f] 1).run prog w= .ok b w:=kR
def kjD (a b c d e f:C) (w:O):(part 164 #[a,b,c,d,e,f] 2).run prog w= .ok (aa #[c,d,e]) w:=kR
def kjC (a b c d e f:C) (w:O):(part 3 #[a,b,c,d,e,f] 5).run prog w= .ok f w:=kR
def kpx (a b c:C) (w:O):(part 3 #[a,b,c] 0).run prog w= .ok a w:=kR
def kpw (a b c:C) (w:O):(part 3 #[a,b,c] 1).run prog w= .ok b w:=kR
def kpv (a b c:C) (w:O):(part 3 #[a,b,c] 2).run prog w= .ok c w:=kR
def kud (w:O):(sizeOf 3).run prog w= .ok 1 w:=kR
def krz (d:Nat) (a b:ByteArray) (w:O):(Op.equalIn (d+1) 9 (Q a) (Q b)).run prog w= .ok (a==b) w:=by rw[Op.equalIn];simp[uf9 underlying9,uh6,Result.andThen]
def kkF (d:Nat) (a b:Int) (w:O):(Op.equalIn (d+1) 3 (I U a) (I U b)).run prog w= .ok (a==b) w:=by rw[Op.equalIn];simp[uf9 underlying3,uh6,Result.andThen]
def krA (d:Nat) (a b c x aC z:Int) (w:O):(Op.equalIn (d+1+1) 164 (aa #[I .i64 a,I U b,I U c]) (aa #[I .i64 x,I U aC,I U z])).run prog w= .ok (a==x&&b==aC&&c==z) w:=by rw[Op.equalIn];simp[uf9 ksb,uh6,Result.andThen];rw[show List.range' 0 3=[0,1,2] from rfl];by_cases af:a=x <;> by_cases ao:b=aC <;> by_cases av:c=z <;> simp[af,ao,av,Result.andThen,uh6,kpx,kpw,kpv,kkF]
def kkT (a b:List UInt8):((⟨a.toArray⟩:ByteArray)==⟨b.toArray⟩)=decide (a=b):=by
 show (a.toArray==b.toArray)=_;by_cases h:a=b
 .subst h;simp
 .simp[h]
theorem kqn (w:O):KeyEq prog 166 kcK w (fun _=>True) where
 check := fun k em _ => by
  have al : ∀ (n : Nat) (a : ByteArray), (Instr.checkKey em (n + 1) 9 (Q a)).run prog w = .ok () w := fun n a => by
   rw [Instr.checkKey]; simp [uf9 underlying9, uh6, Result.andThen]
  have hi : ∀ (n : Nat) (a : Int), (Instr.checkKey em (n + 1) 3 (I U a)).run prog w = .ok () w := fun n a => by
   rw [Instr.checkKey]; simp [uf9 underlying3, uh6, Result.andThen]
  have aE : ∀ (n : Nat) (a b c : Int), (Instr.checkKey em (n + 1 + 1) 164 (aa #[I .i64 a, I U b, I U c])).run prog w = .ok () w := fun n a b c => by
   rw [Instr.checkKey]
   simp [uf9 ksb, uh6, Result.andThen]
   rw [show List.range' 0 3 = [0, 1, 2] from rfl]
   simp [Result.andThen, uh6, kpx, kpw, kpv, hi, kud]
  have h : ∀ n : Nat, (Instr.checkKey em (n + 1 + 1 + 1) 166 (kcK k)).run prog w = .ok () w := fun n => by
   obtain ⟨b2, cB, dS, eJ, aI, ⟨aY, bh, a3⟩, ⟨cL, fH, g6⟩, ⟨aM, aZ, bC⟩, ⟨aW, bc, br⟩⟩ := kj4
   unfold kcK
   rw [Instr.checkKey]
   simp [uf9 aI, aY, bh, a3, cL, fH, g6, aM, aZ, bC, aW, bc, br, kjB, kjA, kjD, kjC, al, hi, aE, uh6, Result.andThen]
  exact h 9997
 find := fun k hL _ => by
  obtain ⟨b2, cB, dS, eJ, aI, _⟩ := kj4
  cases hL with
  | nil => simp [Instr.findKey, uf9 aI, Instr.findNow, Instr.findAsking]
  | cons e hL => simp [Instr.findKey, uf9 aI, Instr.findNow, Instr.sameNow]
 eq := fun a b _ _ => by
  obtain ⟨b2, cB, dS, eJ, aI, ⟨aY, bh, a3⟩, ⟨cL, fH, g6⟩, ⟨aM, aZ, bC⟩, ⟨aW, bc, br⟩⟩ := kj4
  obtain ⟨b8, cn, c0, c3, jA, jc⟩ := a
  obtain ⟨bY, cP, c8, dj, gK, f3⟩ := b
  have h : ∀ d : Nat, (Op.equalIn (d + 1 + 1 + 1) 166 (kcK ⟨b8, cn, c0, c3, jA, jc⟩) (kcK ⟨bY, cP, c8, dj, gK, f3⟩)).run prog w = .ok (decide ((⟨b8, cn, c0, c3, jA, jc⟩ : KeyS) = ⟨bY, cP, c8, dj, gK, f3⟩)) w := fun d => by
   unfold kcK
   rw [Op.equalIn]
   simp [uf9 aI, aY, bh, a3, cL, fH, g6, aM, aZ, bC, aW, bc, br, kjB, kjA, kjD, kjC, krz, krA, kkF, kkT, uh6, Result.andThen]
   by_cases af : b8 = bY <;> by_cases ao : cn = cP <;> by_cases av : c0 = c8 <;> by_cases bk : c3 = dj <;> by_cases cb : jA = gK <;> by_cases dE : jc = f3 <;>
    simp [af, ao, av, bk, cb, dE, uf9 aI, aY, bh, a3, cL, fH, g6, aM, aZ, bC, aW, bc, br, kjB, kjA, kjD, kjC, krz, krA, kkF, kkT, uh6, Result.andThen]
  exact h 9997
 bits := fun k _ => by
  have h : ∀ n : Nat, Instr.sameBits (n + 1) (kcK k) (kcK k) = K := fun n => by unfold kcK; cases n <;> simp [Instr.sameBits, kkT]
  exact h 9999
end Go.Proofs.YtamhdmkolfmmdaaGreatDoor
