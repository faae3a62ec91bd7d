/- Part af of the proof. -/
import Derived.Test.YtamhdmkolfmmdaaGreatDoorwab
import Derived.Test.YtamhdmkolfmmdaaGreatDoorwad
import Derived.Test.YtamhdmkolfmmdaaGreatDoorRows
import Derived.Deep.Matrix
import Derived.Lib.SmallJoins
set_option linter.all false
set_option maxHeartbeats 16000000
set_option maxRecDepth 100000
open Go.Proofs.Tryz
open Go.Value renaming int→I,slice→D,bool→V,string→Q,pointer→ab,agg→aa,tuple→ag,nilIface→aj
open Go.IntKind renaming i64→U,u64→Y,u8→ai
open Go.Obj renaming cells→y
open Go.Ending renaming returned→ac
open Option renaming none→Z,some→N
open Bool renaming true→K,false→J
open Go renaming World→O,Value→C,Calls→L,TypeId→ah,Addr→ae
open Go.RowKit renaming Below→H
namespace Go.Proofs.YtamhdmkolfmmdaaGreatDoor
open Go.RowKit
variable {P:Prop}
def kmK (h:P:=by have av:e=ac (V K)∧(∃ ip,EdX a6 base g ap cap bX ip aP)∧FrX base aF a6:=av;obtain ⟨rfl,⟨ip,jk⟩,ke⟩:=av;have m6:=hD jk;have f4:=hD (((FrX.refl base w).below bo.o f5).trans ke);clear jk ke;first|guard_hyp RB;have cC:Hz (R=N bX):=hD a1.o;go_wp2_with fail;go_ret;unfold RepEnd;rw[cC.o];exact ⟨rfl,⟨_,m6.o⟩,f4.o⟩|(first|guard_hyp O8;have cC:Hz (R=N bX):=hD (by rw[a1.o];rfl);go_wp2_with fail;go_ret;unfold RepEnd;rw[cC.o];exact ⟨rfl,⟨_,m6.o⟩,f4.o⟩|have cC:Hz (R=N bX):=hD a1.o;go_wp2_with fail;go_ret;unfold RepEnd;rw[cC.o];exact ⟨rfl,⟨_,m6.o⟩,f4.o⟩)):=h
def knp (h:P:=by
 clear h al ak au bf ax ba az aw iW lY fb an aH ec cE hi0 l0 a0 eG dy hi1 lq aY;go_enter func69,ntmps69;go_upto_region 15 with (fail);(first|guard_hyp JW;obtain ⟨aq,aQ⟩:=xE (w.alloc (y #[Q ⟨#[119,105,116,104,105,110]⟩,D (N ⟨q,0,Z⟩) k c,I U num,Q ⟨text.toArray⟩,I U ty] 77))|guard_hyp JV;obtain ⟨aq,aQ⟩:=xE (w.alloc (y #[Q ⟨#[111,114]⟩,D (N ⟨q,0,Z⟩) k c,I U num,Q ⟨text.toArray⟩,I U ty] 77))|guard_hyp JU;obtain ⟨aq,aQ⟩:=xE (w.alloc (y #[Q ⟨#[97,110,100]⟩,D (N ⟨q,0,Z⟩) k c,I U num,Q ⟨text.toArray⟩,I U ty] 77))|guard_hyp JT;obtain ⟨aq,aQ⟩:=xE (w.alloc (y #[Q ⟨#[109,97,120]⟩,D (N ⟨q,0,Z⟩) k c,I U num,Q ⟨text.toArray⟩,I U ty] 77))|guard_hyp JS;obtain ⟨aq,aQ⟩:=xE (w.alloc (y #[Q ⟨#[109,105,110]⟩,D (N ⟨q,0,Z⟩) k c,I U num,Q ⟨text.toArray⟩,I U ty] 77))|obtain ⟨aq,aQ⟩:=xE (w.alloc (y #[Q ⟨#[117,110,105,111,110]⟩,D (N ⟨q,0,Z⟩) k c,I U num,Q ⟨text.toArray⟩,I U ty] 77)));rw[←aQ];have a7:=bB aQ;have d3:=bN aQ;clear aQ be bu bY cP c8 dj;have s1:=d3.o.cell 1;simp only[gA,gB,gC] at s1;have uI:=(a7.o.cell (p:=⟨q,0,Z⟩) fu).trans lp.o;have yC:=(a7.o.cell (p:=⟨q,1,Z⟩) fu).trans mr.o
 first
 |guard_hyp O3;have aL:((bO:Int)==(bO:Int))=K:=(by simp);go_wp2_with fail;go_still_tail 16,kR
  change wpList _ _ _ _ _ aq.drew;obtain ⟨aF,bW⟩:=xE aq.drew;rw[←bW];have bo:Hz (H w w aF):=hD (by rw[bW];exact a7.o.drew);clear bW;clear s1 uI yC;go_wp2_with fail;refine (gY.o aF (dh.o.below bo.o)).mono ?_;intro e a6 av
  cases r0 with
  |none=>exact kmA
  |some bX=>have RB:=();exact kmK
 |go_wp2_with fail;go_quiet (fail);have cC:=a1;go_wp2_with fail;go_ret;unfold RepEnd;rw[cC.o];exact ⟨rfl,kbm a7.o _⟩):=h
def km9 (h:P:=by exact kmK):=h
def km6 (h:P:=by have av:e=ac (V K)∧(∃ ip,EdX bm base g ap cap bX ip aP)∧FrX base aK bm:=av;obtain ⟨rfl,⟨ip,jk⟩,ke⟩:=av;have m6:=hD jk;have f4:=hD (((FrX.refl base w).below cA.o f5).trans ke);exact klE):=h
def km3 (h:P:=by have av:e=ac (V J)∧H aK aK bm:=av;obtain ⟨rfl,cQ⟩:=av;have cN:=bT cA cQ;have gN:=hD (fO.o.below cQ fO.o.lt);clear cQ;have cC:Hz (R=Z):=hD (by rw[a1.o];rfl);go_wp2_with fail;go_ret;unfold RepEnd;rw[cC.o];exact ⟨rfl,cN.o⟩):=h
def kgC (h:P:=by have dK:=(gH al).1;have f5:=h.maz;have be:=h.ed.cell 0;simp only[gA,gB] at be;obtain ⟨v,au,⟨bu,bY,cP,c8,dj⟩,bf⟩:=h.at_ al;obtain ⟨A,c,rfl⟩:=kaA bf;obtain ⟨R,aH⟩:=xE (Oz.maj l i);rw[←aH];unfold Oz.maj at aH;rw[kal al] at aH;dsimp only at aH;obtain ⟨n,ax⟩:=xE l.length;have dc:Hz (i<l.length):=hD dK;rw[←ax] at dK be;have dh:=hD h;have ev:=hD ak;exact kmS):=h
def kft (h:P:=by have RC:=();exact kgC):=h
def keA (h:P:=by have RD:=();exact kgC):=h
def kwM (base g ap cap i:Nat) (l:List St) (vs:List C) (aP:C) (s:St) (w:O) (h:EdX w base g ap cap l vs aP) (al:l[i]? =N s) (ak:∀ s∈l,s.args.length≤3∧∀ a∈s.args,0≤a∧a≤100000) (ba:s.op=Oz.maF) (az:s.args.length=2) (bO cc:Nat) (t0 bb:St) (ec:s.args[0]? =N (bO:Int)) (cE:l[bO]? =N t0) (hi0:bO<i) (eG:s.args[1]? =N (cc:Int)) (dy:l[cc]? =N bb) (hi1:cc<i):
 L prog 69 #[ab (N ⟨g,0,Z⟩),I U i] w (RepEnd base g ap cap l vs aP (Oz.maj l i) w):=by
 have Ck:=();exact kft
def kwB (base g ap cap i:Nat) (l:List St) (vs:List C) (aP:C) (s:St) (w:O) (h:EdX w base g ap cap l vs aP) (al:l[i]? =N s) (ak:∀ s∈l,s.args.length≤3∧∀ a∈s.args,0≤a∧a≤100000) (ba:s.op=Oz.maJ) (az:s.args.length=2) (bO cc:Nat) (t0 bb:St) (ec:s.args[0]? =N (bO:Int)) (cE:l[bO]? =N t0) (hi0:bO<i) (eG:s.args[1]? =N (cc:Int)) (dy:l[cc]? =N bb) (hi1:cc<i):
 L prog 69 #[ab (N ⟨g,0,Z⟩),I U i] w (RepEnd base g ap cap l vs aP (Oz.maj l i) w):=by
 have Cl:=();exact kft
def kwI (base g ap cap i:Nat) (l:List St) (vs:List C) (aP:C) (s:St) (w:O) (h:EdX w base g ap cap l vs aP) (al:l[i]? =N s) (ak:∀ s∈l,s.args.length≤3∧∀ a∈s.args,0≤a∧a≤100000) (ba:s.op=Oz.maO) (az:s.args.length=2) (bO cc:Nat) (t0 bb:St) (ec:s.args[0]? =N (bO:Int)) (cE:l[bO]? =N t0) (hi0:bO<i) (eG:s.args[1]? =N (cc:Int)) (dy:l[cc]? =N bb) (hi1:cc<i):
 L prog 69 #[ab (N ⟨g,0,Z⟩),I U i] w (RepEnd base g ap cap l vs aP (Oz.maj l i) w):=by
 have Cm:=();exact kft
def kwv (base g ap cap i:Nat) (l:List St) (vs:List C) (aP:C) (s:St) (w:O) (h:EdX w base g ap cap l vs aP) (al:l[i]? =N s) (ak:∀ s∈l,s.args.length≤3∧∀ a∈s.args,0≤a∧a≤100000) (ba:s.op=Oz.maY) (az:s.args.length=2) (bO cc:Nat) (t0 bb:St) (ec:s.args[0]? =N (bO:Int)) (cE:l[bO]? =N t0) (hi0:bO<i) (eG:s.args[1]? =N (cc:Int)) (dy:l[cc]? =N bb) (hi1:cc<i):
 L prog 69 #[ab (N ⟨g,0,Z⟩),I U i] w (RepEnd base g ap cap l vs aP (Oz.maj l i) w):=by
 have tG:=();exact kft
def kww (base g ap cap i:Nat) (l:List St) (vs:List C) (aP:C) (s:St) (w:O) (h:EdX w base g ap cap l vs aP) (al:l[i]? =N s) (ak:∀ s∈l,s.args.length≤3∧∀ a∈s.args,0≤a∧a≤100000) (ba:s.op=Oz.maU) (az:s.args.length=2) (bO cc:Nat) (t0 bb:St) (ec:s.args[0]? =N (bO:Int)) (cE:l[bO]? =N t0) (hi0:bO<i) (eG:s.args[1]? =N (cc:Int)) (dy:l[cc]? =N bb) (hi1:cc<i):
 L prog 69 #[ab (N ⟨g,0,Z⟩),I U i] w (RepEnd base g ap cap l vs aP (Oz.maj l i) w):=by
 have zu:=();exact kft
def kwC (base g ap cap i:Nat) (l:List St) (vs:List C) (aP:C) (s:St) (w:O) (h:EdX w base g ap cap l vs aP) (al:l[i]? =N s) (ak:∀ s∈l,s.args.length≤3∧∀ a∈s.args,0≤a∧a≤100000) (ba:s.op=Oz.maT) (az:s.args.length=2) (bO cc:Nat) (t0 bb:St) (ec:s.args[0]? =N (bO:Int)) (cE:l[bO]? =N t0) (hi0:bO<i) (eG:s.args[1]? =N (cc:Int)) (dy:l[cc]? =N bb) (hi1:cc<i):
 L prog 69 #[ab (N ⟨g,0,Z⟩),I U i] w (RepEnd base g ap cap l vs aP (Oz.maj l i) w):=by
 have JS:=();exact keA
def kwD (base g ap cap i:Nat) (l:List St) (vs:List C) (aP:C) (s:St) (w:O) (h:EdX w base g ap cap l vs aP) (al:l[i]? =N s) (ak:∀ s∈l,s.args.length≤3∧∀ a∈s.args,0≤a∧a≤100000) (ba:s.op=Oz.maS) (az:s.args.length=2) (bO cc:Nat) (t0 bb:St) (ec:s.args[0]? =N (bO:Int)) (cE:l[bO]? =N t0) (hi0:bO<i) (eG:s.args[1]? =N (cc:Int)) (dy:l[cc]? =N bb) (hi1:cc<i):
 L prog 69 #[ab (N ⟨g,0,Z⟩),I U i] w (RepEnd base g ap cap l vs aP (Oz.maj l i) w):=by
 have JT:=();exact keA
def kwK (base g ap cap i:Nat) (l:List St) (vs:List C) (aP:C) (s:St) (w:O) (h:EdX w base g ap cap l vs aP) (al:l[i]? =N s) (ak:∀ s∈l,s.args.length≤3∧∀ a∈s.args,0≤a∧a≤100000) (ba:s.op=Oz.mbC) (az:s.args.length=2) (bO cc:Nat) (t0 bb:St) (ec:s.args[0]? =N (bO:Int)) (cE:l[bO]? =N t0) (hi0:bO<i) (eG:s.args[1]? =N (cc:Int)) (dy:l[cc]? =N bb) (hi1:cc<i):
 L prog 69 #[ab (N ⟨g,0,Z⟩),I U i] w (RepEnd base g ap cap l vs aP (Oz.maj l i) w):=by
 have JU:=();exact keA
def kwx (base g ap cap i:Nat) (l:List St) (vs:List C) (aP:C) (s:St) (w:O) (h:EdX w base g ap cap l vs aP) (al:l[i]? =N s) (ak:∀ s∈l,s.args.length≤3∧∀ a∈s.args,0≤a∧a≤100000) (ba:s.op=Oz.oOr) (az:s.args.length=2) (bO cc:Nat) (t0 bb:St) (ec:s.args[0]? =N (bO:Int)) (cE:l[bO]? =N t0) (hi0:bO<i) (eG:s.args[1]? =N (cc:Int)) (dy:l[cc]? =N bb) (hi1:cc<i):
 L prog 69 #[ab (N ⟨g,0,Z⟩),I U i] w (RepEnd base g ap cap l vs aP (Oz.maj l i) w):=by
 have JV:=();exact keA
def kwu (base g ap cap i:Nat) (l:List St) (vs:List C) (aP:C) (s:St) (w:O) (h:EdX w base g ap cap l vs aP) (al:l[i]? =N s) (ak:∀ s∈l,s.args.length≤3∧∀ a∈s.args,0≤a∧a≤100000) (ba:s.op=Oz.mbF) (az:s.args.length=2) (bO cc:Nat) (t0 bb:St) (ec:s.args[0]? =N (bO:Int)) (cE:l[bO]? =N t0) (hi0:bO<i) (eG:s.args[1]? =N (cc:Int)) (dy:l[cc]? =N bb) (hi1:cc<i):
 L prog 69 #[ab (N ⟨g,0,Z⟩),I U i] w (RepEnd base g ap cap l vs aP (Oz.maj l i) w):=by
 exact keA
def kwt (base g ap cap i:Nat) (l:List St) (vs:List C) (aP:C) (s:St) (w:O) (h:EdX w base g ap cap l vs aP) (al:l[i]? =N s) (ak:∀ s∈l,s.args.length≤3∧∀ a∈s.args,0≤a∧a≤100000) (ba:s.op=Oz.maI) (az:s.args.length=2) (bO cc:Nat) (t0 bb:St) (ec:s.args[0]? =N (bO:Int)) (cE:l[bO]? =N t0) (hi0:bO<i) (eG:s.args[1]? =N (cc:Int)) (dy:l[cc]? =N bb) (hi1:cc<i):
 L prog 69 #[ab (N ⟨g,0,Z⟩),I U i] w (RepEnd base g ap cap l vs aP (Oz.maj l i) w):=by
 have JW:=();exact keA
def kcD (h:P:=by
 obtain ⟨bO,t0,ec,hi0,cE,_,_⟩:=kbi an al (k:=0) oM;obtain ⟨cc,bb,eG,hi1,dy,_,_⟩:=kbi an al (k:=1) oM
 first
 |guard_hyp RF;exact kwM base g ap cap i l vs aP s w h al ak aD dL bO cc t0 bb ec cE hi0 eG dy hi1
 |guard_hyp RG;exact kwv base g ap cap i l vs aP s w h al ak af dL bO cc t0 bb ec cE hi0 eG dy hi1
 |guard_hyp RH;exact kwB base g ap cap i l vs aP s w h al ak ao dL bO cc t0 bb ec cE hi0 eG dy hi1
 |guard_hyp RI;exact kwC base g ap cap i l vs aP s w h al ak av dL bO cc t0 bb ec cE hi0 eG dy hi1
 |guard_hyp RJ;exact kwD base g ap cap i l vs aP s w h al ak bk dL bO cc t0 bb ec cE hi0 eG dy hi1
 |guard_hyp RK;exact kwK base g ap cap i l vs aP s w h al ak cb dL bO cc t0 bb ec cE hi0 eG dy hi1
 |guard_hyp RL;exact kwx base g ap cap i l vs aP s w h al ak dE dL bO cc t0 bb ec cE hi0 eG dy hi1
 |guard_hyp RM;exact kwu base g ap cap i l vs aP s w h al ak fi dL bO cc t0 bb ec cE hi0 eG dy hi1
 |guard_hyp RN;exact kwt base g ap cap i l vs aP s w h al ak hv dL bO cc t0 bb ec cE hi0 eG dy hi1
 |guard_hyp RO;exact kwI base g ap cap i l vs aP s w h al ak gM dL bO cc t0 bb ec cE hi0 eG dy hi1
 |guard_hyp RP;exact kww base g ap cap i l vs aP s w h al ak py dL bO cc t0 bb ec cE hi0 eG dy hi1
 |obtain ⟨jH,db,ly,hi2,fK,_,_⟩:=kbi an al (k:=2) oM;by_cases gP:db.op=Oz.mal
  .have BB:=kaV an fK 1 (by rw[gP];kernel_rfl);obtain ⟨m,_,bg,_⟩:=kbi an fK (k:=0) oM;by_cases kw:m=bO
   .exact kwF base g ap cap i l vs aP s w h al ak n6 dL bO cc jH t0 bb db ec cE hi0 eG dy hi1 ly fK hi2 m bg gP kw
   .exact kwH base g ap cap i l vs aP s w h al ak n6 dL bO cc jH t0 bb db ec cE hi0 eG dy hi1 ly fK hi2 m bg gP kw
  .exact kwG base g ap cap i l vs aP s w h al ak n6 dL bO cc jH t0 bb db ec cE hi0 eG dy hi1 ly fK hi2 gP):=h
def kir (h:P:=by have RE:=();exact kgC):=h
def kmw (h:P:=by exact kgC):=h
def kwF (base g ap cap i:Nat) (l:List St) (vs:List C) (aP:C) (s:St) (w:O) (h:EdX w base g ap cap l vs aP) (al:l[i]? =N s) (ak:∀ s∈l,s.args.length≤3∧∀ a∈s.args,0≤a∧a≤100000) (ba:s.op=Oz.ma4) (az:s.args.length=3) (bO cc jH:Nat) (t0 bb db:St) (ec:s.args[0]? =N (bO:Int)) (cE:l[bO]? =N t0) (hi0:bO<i) (eG:s.args[1]? =N (cc:Int)) (dy:l[cc]? =N bb) (hi1:cc<i) (ly:s.args[2]? =N (jH:Int)) (fK:l[jH]? =N db) (hi2:jH<i)(m:Nat) (bg:db.args[0]? =N (m:Int)) (gP:db.op=Oz.mal) (kw:m=bO):
 L prog 69 #[ab (N ⟨g,0,Z⟩),I U i] w (RepEnd base g ap cap l vs aP (Oz.maj l i) w):=by
 have vc:=();exact kir
def kwH (base g ap cap i:Nat) (l:List St) (vs:List C) (aP:C) (s:St) (w:O) (h:EdX w base g ap cap l vs aP) (al:l[i]? =N s) (ak:∀ s∈l,s.args.length≤3∧∀ a∈s.args,0≤a∧a≤100000) (ba:s.op=Oz.ma4) (az:s.args.length=3) (bO cc jH:Nat) (t0 bb db:St) (ec:s.args[0]? =N (bO:Int)) (cE:l[bO]? =N t0) (hi0:bO<i) (eG:s.args[1]? =N (cc:Int)) (dy:l[cc]? =N bb) (hi1:cc<i) (ly:s.args[2]? =N (jH:Int)) (fK:l[jH]? =N db) (hi2:jH<i)(m:Nat) (bg:db.args[0]? =N (m:Int)) (gP:db.op=Oz.mal) (kw:m≠bO):
 L prog 69 #[ab (N ⟨g,0,Z⟩),I U i] w (RepEnd base g ap cap l vs aP (Oz.maj l i) w):=by
 have JX:=();exact kir
def kwG (base g ap cap i:Nat) (l:List St) (vs:List C) (aP:C) (s:St) (w:O) (h:EdX w base g ap cap l vs aP) (al:l[i]? =N s) (ak:∀ s∈l,s.args.length≤3∧∀ a∈s.args,0≤a∧a≤100000) (ba:s.op=Oz.ma4) (az:s.args.length=3) (bO cc jH:Nat) (t0 bb db:St) (ec:s.args[0]? =N (bO:Int)) (cE:l[bO]? =N t0) (hi0:bO<i) (eG:s.args[1]? =N (cc:Int)) (dy:l[cc]? =N bb) (hi1:cc<i) (ly:s.args[2]? =N (jH:Int)) (fK:l[jH]? =N db) (hi2:jH<i)(gP:db.op≠Oz.mal):
 L prog 69 #[ab (N ⟨g,0,Z⟩),I U i] w (RepEnd base g ap cap l vs aP (Oz.maj l i) w):=by
 have Cn:=();exact kir
def kwy (base g ap cap i:Nat) (l:List St) (vs:List C) (aP:C) (s:St) (w:O) (h:EdX w base g ap cap l vs aP) (al:l[i]? =N s) (ak:∀ s∈l,s.args.length≤3∧∀ a∈s.args,0≤a∧a≤100000) (ba:s.op=Oz.maL) (az:s.args.length=1) (bO:Nat) (t0:St) (ec:s.args[0]? =N (bO:Int)) (cE:l[bO]? =N t0) (hi0:bO<i)(m:Nat) (bg:t0.args[0]? =N (m:Int)) (gP:t0.op=Oz.maL) (Bn:m<i):
 L prog 69 #[ab (N ⟨g,0,Z⟩),I U i] w (RepEnd base g ap cap l vs aP (Oz.maj l i) w):=by
 have w1:=();exact kmw
def kwz (base g ap cap i:Nat) (l:List St) (vs:List C) (aP:C) (s:St) (w:O) (h:EdX w base g ap cap l vs aP) (al:l[i]? =N s) (ak:∀ s∈l,s.args.length≤3∧∀ a∈s.args,0≤a∧a≤100000) (ba:s.op=Oz.maL) (az:s.args.length=1) (bO:Nat) (t0:St) (ec:s.args[0]? =N (bO:Int)) (cE:l[bO]? =N t0) (hi0:bO<i)(gP:t0.op≠Oz.maL):
 L prog 69 #[ab (N ⟨g,0,Z⟩),I U i] w (RepEnd base g ap cap l vs aP (Oz.maj l i) w):=by
 exact kmw
def kwA (base g ap cap i:Nat) (l:List St) (vs:List C) (aP:C) (s:St) (w:O) (h:EdX w base g ap cap l vs aP) (al:l[i]? =N s) (aD:s.op≠Oz.maF) (af:s.op≠Oz.maY) (ao:s.op≠Oz.maJ) (av:s.op≠Oz.maT) (bk:s.op≠Oz.maS) (cb:s.op≠Oz.mbC) (dE:s.op≠Oz.oOr) (fi:s.op≠Oz.mbF) (hv:s.op≠Oz.maI) (gM:s.op≠Oz.maO) (py:s.op≠Oz.maU) (n6:s.op≠Oz.ma4) (oK:s.op≠Oz.maL):
 L prog 69 #[ab (N ⟨g,0,Z⟩),I U i] w (RepEnd base g ap cap l vs aP (Oz.maj l i) w):=by
 have zv:=();exact kd2
def kwJ (base g ap cap i:Nat) (l:List St) (vs:List C) (aP:C) (s:St) (w:O) (h:EdX w base g ap cap l vs aP) (al:l[i]? =N s) (an:kaf l=0):
 L prog 69 #[ab (N ⟨g,0,Z⟩),I U i] w (RepEnd base g ap cap l vs aP (Oz.maj l i) w):=by
 have ak:=kck an;by_cases aD:s.op=Oz.maF
 .have dL:=kaV an al 2 (by rw[aD];kernel_rfl);have RF:=();exact kcD
 by_cases af:s.op=Oz.maY
 .have dL:=kaV an al 2 (by rw[af];kernel_rfl);have RG:=();exact kcD
 by_cases ao:s.op=Oz.maJ
 .have dL:=kaV an al 2 (by rw[ao];kernel_rfl);have RH:=();exact kcD
 by_cases av:s.op=Oz.maT
 .have dL:=kaV an al 2 (by rw[av];kernel_rfl);have RI:=();exact kcD
 by_cases bk:s.op=Oz.maS
 .have dL:=kaV an al 2 (by rw[bk];kernel_rfl);have RJ:=();exact kcD
 by_cases cb:s.op=Oz.mbC
 .have dL:=kaV an al 2 (by rw[cb];kernel_rfl);have RK:=();exact kcD
 by_cases dE:s.op=Oz.oOr
 .have dL:=kaV an al 2 (by rw[dE];kernel_rfl);have RL:=();exact kcD
 by_cases fi:s.op=Oz.mbF
 .have dL:=kaV an al 2 (by rw[fi];kernel_rfl);have RM:=();exact kcD
 by_cases hv:s.op=Oz.maI
 .have dL:=kaV an al 2 (by rw[hv];kernel_rfl);have RN:=();exact kcD
 by_cases gM:s.op=Oz.maO
 .have dL:=kaV an al 2 (by rw[gM];kernel_rfl);have RO:=();exact kcD
 by_cases py:s.op=Oz.maU
 .have dL:=kaV an al 2 (by rw[py];kernel_rfl);have RP:=();exact kcD
 by_cases n6:s.op=Oz.ma4
 .have dL:=kaV an al 3 (by rw[n6];kernel_rfl);exact kcD
 by_cases oK:s.op=Oz.maL
 .have dL:=kaV an al 1 (by rw[oK];kernel_rfl);obtain ⟨bO,t0,ec,hi0,cE,_,_⟩:=kbi an al (k:=0) oM;by_cases gP:t0.op=Oz.maL
  .have BB:=kaV an cE 1 (by rw[gP];kernel_rfl);obtain ⟨m,_,bg,BK,_⟩:=kbi an cE (k:=0) oM;exact kwy base g ap cap i l vs aP s w h al ak oK dL bO t0 ec cE hi0 m bg gP oM
  .exact kwz base g ap cap i l vs aP s w h al ak oK dL bO t0 ec cE hi0 gP
 exact kwA base g ap cap i l vs aP s w h al aD af ao av bk cb dE fi hv gM py n6 oK
def namesR:List (List UInt8):=[[115,104,97,114,101],[102,111,108,100],[110,101,117,116,114,97,108],[110,101,103,97,116,101],[99,111,109,109,111,110],[109,97,116,99,104,101,115],[102,105,114,115,116,102,105,110,100],[108,101,110,99,117,116],[108,101,110,115,117,109],[108,101,110,114,101,112],[117,110,117,115,101,100]]
def kcY:Array C:= #[Q ⟨#[115,104,97,114,101]⟩,Q ⟨#[102,111,108,100]⟩,Q ⟨#[110,101,117,116,114,97,108]⟩,Q ⟨#[110,101,103,97,116,101]⟩,Q ⟨#[99,111,109,109,111,110]⟩,Q ⟨#[109,97,116,99,104,101,115]⟩,Q ⟨#[102,105,114,115,116,102,105,110,100]⟩,Q ⟨#[108,101,110,99,117,116]⟩,Q ⟨#[108,101,110,115,117,109]⟩,Q ⟨#[108,101,110,114,101,112]⟩,Q ⟨#[117,110,117,115,101,100]⟩]
def kp2 {i:Nat} {s:List UInt8} (h:namesR[i]? =N s):kcY[i]? =N (Q ⟨s.toArray⟩):=by have hi:=(gH h).1;have hi:i<11:=hi;have an:i=0∨i=1∨i=2∨i=3∨i=4∨i=5∨i=6∨i=7∨i=8∨i=9∨i=10:=oM;rcases an with rfl|rfl|rfl|rfl|rfl|rfl|rfl|rfl|rfl|rfl|rfl <;> (injection h with h;subst h;rfl)
def koX (w:O):L prog 38 #[] w fun e w'=>e=ac (D (N ⟨w,0,Z⟩) 11 11)∧Blk w' w 9 kcY∧H w w w':=by have aV:=hD (Blk.new w 9 kcY);have eg:=hD (kax w (y kcY 9));unfold kcY at aV eg ⊢;go_enter func38,ntmps38;go_wp2_with fail;go_ret;exact ⟨rfl,aV.o,eg.o⟩
def kvi (w:O):L prog 43 #[] w fun e w'=>e=ac (D (N ⟨w,0,Z⟩) 11 11)∧Blk w' w 9 kcY∧H w w w':=by have aV:=hD (Blk.new w 9 kcY);have eg:=hD (kax w (y kcY 9));unfold kcY at aV eg ⊢;go_enter func43,ntmps43;go_wp2_with fail;go_ret;exact ⟨rfl,aV.o,eg.o⟩
def kpc (w:O) (a b c d e:C) (t:ah):Reads (w.alloc (y #[a,b,c,d,e] t)) (w.heap.size+1) 5 (N ⟨w,0,Z⟩) 1 [a,b,c,d,e]:=
 ⟨rfl,fun _=>⟨_,rfl,by simp,fun j u aI=>kcI w #[a,b,c,d,e] t j u aI⟩⟩
def StVs.mbW {w w':O} {base:Nat} {cw Nb:List (Option Nat)} {P:List St} {bV:List C} (h:StVs w (stF w base cw) P bV) (aw:∀ i cur,N i∉cw→Blk w i 3 cur→w'.heap[i]? =w.heap[i]?) (al:w.heap.size≤w'.heap.size)
  (hD : ∀ i, i < w.heap.size → N i ∉ cw → N i ∉ Nb) : StVs w' (stF w' base Nb) P bV :=
 h.keep (fun i hi _ => by obtain ⟨_, _, av, cur, bk⟩ := hi; exact aw i cur av bk) al (fun i hi az => by
  obtain ⟨af, ao, av, cur, bk⟩ := hi
  exact ⟨af, by omega, hD i az av, cur, (aw i cur av bk).trans bk⟩)
def ArgPl (w:O) (A:Option ae) (l:List St):Prop:=∀(i:Nat) (s:St),l[i]? =N s→∃ b o c6 c,A=N ⟨b,o,Z⟩∧b<w.heap.size∧w.cell? ⟨b,o+i*5,Z⟩=N (Q ⟨s.op.toArray⟩)∧w.cell? ⟨b,o+i*5+1,Z⟩=N (D c6 s.args.length c)∧
 w.cell? ⟨b,o+i*5+2,Z⟩=N (I U s.num)∧w.cell? ⟨b,o+i*5+3,Z⟩=N (Q ⟨s.text.toArray⟩)∧w.cell? ⟨b,o+i*5+4,Z⟩=N (I U s.ty)∧Reads w w 1 c6 s.args.length (s.args.map (I U))
def ArgPl.below {w w':O} {A:Option ae} {l:List St} (h:ArgPl w A l) (ak:H w w w'):ArgPl w' A l:=fun i s al=>by obtain ⟨b,o,c6,c,e,az,aN,aM,aZ,bC,b1,am⟩:=h i s al;exact ⟨b,o,c6,c,e,ua7 az ak.size,(ak.cell (p:=⟨b,_,Z⟩) az).trans aN,(ak.cell (p:=⟨b,_,Z⟩) az).trans aM,(ak.cell (p:=⟨b,_,Z⟩) az).trans aZ,(ak.cell (p:=⟨b,_,Z⟩) az).trans bC,(ak.cell (p:=⟨b,_,Z⟩) az).trans b1,(am.below ak).more ak.size⟩
def kCV (w:O) (l:List St) (e:Ending) (w':O):Prop:=H w w w'∧∃ A c,e=ac (aa #[D A l.length c])∧PlAt w' (fun i=>w.heap.size≤i∧i<w'.heap.size) A l
def kCX (w:O) (l:List St) (f:Nat) (i:C) (wr:O):Prop:=∃(k:Nat) (A:Option ae) (c:Nat) (bV:List C),i=I U k∧k≤l.length∧l.length-k<f∧Hz (Blk wr (w.heap.size+1) 26 #[D A k c])∧Hz (Blk wr w 26 #[D Z 0 0])∧
 Hz (wr.ownsRow (w.heap.size+1) 77 5 (D A k c) k bV)∧Hz (StVs wr (stF wr (w.heap.size+1) []) (l.take k) bV)∧Hz (H w w wr)
def kyx:(prog.info? 77).map (fun i=>(i.zero,i.size,i.bytes))=N (N (aa #[Q ⟨#[]⟩,D Z 0 0,I U 0,Q ⟨#[]⟩,I U 0]),5,72):=kR
def kyB:(prog.info? 3).map (fun i=>(i.zero,i.size,i.bytes))=N (N (I U 0),1,8):=kR
def yq5 (h:P:=by
 (first|guard_hyp ha;have hR:=hD h|have hR:=hD h.arg);have hQ:=hD aE;(first|guard_hyp ha;have lh:=hD ((Blk.new w 26 #[D Z 0 0]).alloc (y #[D Z 0 0] 26));have gY:=hD (Blk.new (w.alloc (y #[D Z 0 0] 26)) 26 #[D Z 0 0]);have dN:(w.alloc (y #[D Z 0 0] 26)).heap.size=w.heap.size+1:=(by simp);rw[dN] at gY;have f7:=hD ((kax w (y #[D Z 0 0] 26)).alloc (by simp) (y #[D Z 0 0] 26));clear h aE dN;go_enter func9,ntmps9|have f7:=hD (kax w (y #[D A l.length c] 26));have hj:=hD (Blk.new w 26 #[D A l.length c]);have dN:w.heap.size+1≤(w.alloc (y #[D A l.length c] 26)).heap.size:=(by simp);clear h aE;go_enter func16,ntmps16);go_wp2_with fail
 first
 |guard_hyp ha;go_loopg [5,8] (l.length+1) (fun f _ i wr=>kCX w l f i wr)
  case atStart=>exact ⟨0,Z,0,[],rfl,oM,oM,gY,lh,hD ⟨rfl, .inl ⟨rfl,rfl⟩⟩,hD rfl,f7⟩
 |go_loopg [3,5,9] (l.length+1) (fun f v _ i wr=>kDj w l f v i wr)
  case atStart=>exact ⟨0,Z,0,[],rfl,rfl,oM,oM,dN,hD ⟨rfl, .inl ⟨rfl,rfl⟩⟩,hD rfl,f7⟩
 case round=>
  (first|guard_hyp ha;clear gY lh f7;obtain ⟨k,l5,bP,bV,rfl,aw,fo,cp,a1,dB,eY,aV⟩:=hrel|clear f7 dN hj;obtain ⟨k,l5,bP,bV,rfl,rfl,aw,fo,cJ,dB,eY,aV⟩:=hrel);obtain ⟨f,rfl⟩:=xS gk;(first|guard_hyp ha;have ef:=cp.o.lt|skip);have oQ:=aV.o.size;by_cases bG:k<l.length
  .obtain ⟨s,al⟩:∃ s,l[k]? =N s:=⟨l[k],ua3 bG⟩;obtain ⟨dt,o,c6,cs,rfl,JY,be,b8,cn,c0,c3,dx⟩:=(hR.o.below aV.o) k s al;have dL:=hQ.o s (ua4 al);have b7:=hD al;obtain ⟨op,args,num,text,ty⟩:=s;dsimp only at be b8 cn c0 c3 dx dL;have cU:(k:Int)<(l.length:Int):=oM;have bE:=nN k;go_upto_region 5 with (fail);(first|guard_hyp ha;obtain ⟨fe,sb⟩:=xE (wr.alloc (y #[Q ⟨op.toArray⟩,D c6 args.length cs,I U num,Q ⟨text.toArray⟩,I U ty] 76))|obtain ⟨fe,sb⟩:=xE (wr.alloc (y #[Q ⟨op.toArray⟩,D c6 args.length cs,I U num,Q ⟨text.toArray⟩,I U ty] 77)));rw[←sb];have io:=bA sb;have jE:=bM sb;(first|guard_hyp ha;have tH:=hD (cp.o.below io ef);have JZ:=hD (a1.o.below io a1.o.lt)|skip);obtain ⟨pQ,Co,zw⟩:=hd3 (kaI dB.o io) (StVs.mbW eY.o (w':=fe) (fun i cur _ ak=>io.block i ak.lt) io.size (fun i _ h=>h)) (aV.o.trans (io.mono oQ));replace dx:=(dx.below io).more io.size;replace be:=jE.cell 0;replace b8:=jE.cell 1;replace cn:=jE.cell 2;replace c0:=jE.cell 3;replace c3:=jE.cell 4;simp only[gA,gB,gC] at be b8 cn c0 c3;(first|guard_hyp ha;have vd:w.heap.size+1<fe.heap.size:=tH.o.lt|have eW:w.heap.size+1≤fe.heap.size:=uc9 cJ io.size);have J0:=zw.o.size;have dR:=jE.lt;obtain ⟨b,Fa⟩:=xE wr.heap.size;rw[←Fa] at be b8 cn c0 c3 dR ⊢;(first|guard_hyp ha;have RQ:w.heap.size+1<b:=oM|have RQ:w.heap.size+1≤b:=oM);have lL:∀ g,(D l5 k bP).ownBlock=N g→g≠b:=fun g hg=>by obtain ⟨_,cur,an⟩:=kbE dB.o hg;have:=an.lt;omega
   have RR:=hD lL;(first|guard_hyp ha;clear sb io jE cp a1 dB eY aV ef oQ JY Fa lL;have eD:=tH.o.cell 0;have EZ:=tH.o.frozen 0;simp only[gA,gB] at eD|clear sb io jE dB eY aV oQ JY Fa lL);obtain ⟨m,bg⟩:=xE args.length;obtain ⟨zs,pR⟩:=xE (args.map (I U));rw[←bg,←pR] at dx;rw[←bg] at b8 dL;obtain ⟨fQ,Cp,ro⟩:=hd3 dx pR bg;have RS:∀ u∈zs,u.oneCell'=K:=(by rw[pR];intro u aI;obtain ⟨z,_,rfl⟩:=uh8.1 aI;rfl);have Fb:=hD RS;have qA:=World.ownsRow_lit (base:=w.heap.size+1) (e:=3) (size:=1) fe #[] 0 oM dC rfl;have Fc:=kaI qA ((ub5 _ _).drew);have Fd:Reads (fe.alloc (y #[] 3)).drew fe.heap.size 1 c6 m zs:=(dx.alloc (nR) _).drew;have jV:0+m≤maxLen:=(by unfold maxLen;omega);have kZ:(0+m)*8≤140737488355328:=oM;have wF:w.heap.size+1≤(fe.alloc (y #[] 3)).drew.heap.size:=(by have:=((kax fe (y #[] 3)).drew).size;omega);have wD:k+1≤maxLen:=(by unfold maxLen;omega);have J1:(k+1)*72≤140737488355328:=oM
   first
   |guard_hyp ha
    have nh := hD (show ∀ W, H fe fe W → W.cell? ⟨w.heap.size + 1, 0, Z⟩ = N (D l5 k bP) ∧ W.cell? ⟨b, 0, Z⟩ = N (Q ⟨op.toArray⟩) ∧ W.cell? ⟨b, 1, Z⟩ = N (D c6 m cs) ∧ W.cell? ⟨b, 2, Z⟩ = N (I U num) ∧ W.cell? ⟨b, 3, Z⟩ = N (Q ⟨text.toArray⟩) ∧ W.cell? ⟨b, 4, Z⟩ = N (I U ty) from
     fun W dH => ⟨(dH.cell (p := ⟨w.heap.size + 1, 0, Z⟩) vd).trans eD, (dH.cell (p := ⟨b, _, Z⟩) dR).trans be, (dH.cell (p := ⟨b, _, Z⟩) dR).trans b8, (dH.cell (p := ⟨b, _, Z⟩) dR).trans cn, (dH.cell (p := ⟨b, _, Z⟩) dR).trans c0, (dH.cell (p := ⟨b, _, Z⟩) dR).trans c3⟩)
    have zx:=hD (show ∀ W,H fe fe W→W.ownsRow (w.heap.size+1) 77 5 (D l5 k bP) k bV from fun W dH=>kaI pQ.o dH);have J2:=hD (show ∀ W p3,H fe fe W→W.grownBy p3 (D l5 k bP).ownBlock→Blk p3 (w.heap.size+1) 26 #[D l5 k bP] from fun W p3 dH hg=>(tH.o.below dH tH.o.lt).grown hg (fun e=>ka5 pQ.o tH.o dC e.symm))
   |have nh := hD (show ∀ W, H fe fe W → W.cell? ⟨b, 0, Z⟩ = N (Q ⟨op.toArray⟩) ∧ W.cell? ⟨b, 1, Z⟩ = N (D c6 m cs) ∧ W.cell? ⟨b, 2, Z⟩ = N (I U num) ∧ W.cell? ⟨b, 3, Z⟩ = N (Q ⟨text.toArray⟩) ∧ W.cell? ⟨b, 4, Z⟩ = N (I U ty) from
     fun W dH => ⟨(dH.cell (p := ⟨b, _, Z⟩) dR).trans be, (dH.cell (p := ⟨b, _, Z⟩) dR).trans b8, (dH.cell (p := ⟨b, _, Z⟩) dR).trans cn, (dH.cell (p := ⟨b, _, Z⟩) dR).trans c0, (dH.cell (p := ⟨b, _, Z⟩) dR).trans c3⟩)
    have zx:=hD (show ∀ W,H fe fe W→W.ownsRow (w.heap.size+1) 76 5 (D l5 k bP) k bV from fun W dH=>kaI pQ.o dH)
   have Fe:=hD (show ∀ W p3,H fe fe W→W.grownBy p3 (D l5 k bP).ownBlock→p3.cell? ⟨b,0,Z⟩=N (Q ⟨op.toArray⟩)∧p3.cell? ⟨b,1,Z⟩=N (D c6 m cs)∧p3.cell? ⟨b,2,Z⟩=N (I U num)∧p3.cell? ⟨b,3,Z⟩=N (Q ⟨text.toArray⟩)∧p3.cell? ⟨b,4,Z⟩=N (I U ty) from fun W p3 dH hg=>by have an:∀ i,p3.cell? ⟨b,i,Z⟩=fe.cell? ⟨b,i,Z⟩:=fun i=>(ue6 (a:=⟨b,i,Z⟩) (hg.block b (ua7 dR dH.size) (fun e=>RR.o b e.symm rfl))).trans (dH.cell (p:=⟨b,i,Z⟩) dR);exact ⟨(an _).trans be,(an _).trans b8,(an _).trans cn,(an _).trans c0,(an _).trans c3⟩);(first|guard_hyp ha;obtain ⟨RT,_,_,_,_,_⟩:=nh.out _ (kax fe (y #[] 3)).drew;obtain ⟨RU,_,_,_,_,_⟩:=nh.out _ (kax fe (y #[] 3));have w2:¬(w.heap.size+1=fe.heap.size):=oM;have Z0:¬(b=w.heap.size+1):=oM;have Z1:¬(w.heap.size+1=b):=oM|skip);have eZ:¬(b=fe.heap.size):=oM;(first|guard_hyp ha;have Z2:¬(fe.heap.size=w.heap.size+1):=oM|skip);have Z3:¬(fe.heap.size=b):=oM;clear al dx pR bg qA;go_wp2_with fail;obtain ⟨w3,Ff,Fg,Fh,Fj⟩:=ug6 kyB;(first|guard_hyp ha;obtain ⟨eX,zy,zA,zB,zC⟩:=ug6 kyx|obtain ⟨eX,zy,zA,zB,zC⟩:=ug6 kyy);refine ue4 ?_;(first|guard_hyp ha;refine kd6 (z:=18) (S:=(fun w'=>w'.cell? ⟨w.heap.size+1,0,Z⟩=N (D l5 k bP)∧w'.cell? ⟨b,0,Z⟩=N (Q ⟨op.toArray⟩)∧w'.cell? ⟨b,1,Z⟩=N (D c6 m cs)∧w'.cell? ⟨b,2,Z⟩=N (I U num)∧w'.cell? ⟨b,3,Z⟩=N (Q ⟨text.toArray⟩)∧w'.cell? ⟨b,4,Z⟩=N (I U ty))) kR (nh.out _ (ub5 _ _).drew) (fun ay=>?_)|refine kd6 (z:=16) (S:=(fun w'=>w'.cell? ⟨b,0,Z⟩=N (Q ⟨op.toArray⟩)∧w'.cell? ⟨b,1,Z⟩=N (D c6 m cs)∧w'.cell? ⟨b,2,Z⟩=N (I U num)∧w'.cell? ⟨b,3,Z⟩=N (Q ⟨text.toArray⟩)∧w'.cell? ⟨b,4,Z⟩=N (I U ty))) kR (nh.out _ (ub5 _ _).drew) (fun ay=>?_));refine tkZ 0 ay ?_;refine tkZ 1 ay ?_;refine tkZ 2 ay ?_;(first|guard_hyp ha;refine tkZ 3 ay ?_|refine tkZ 4 ay ?_);refine tkZ 5 ay ?_;(first|guard_hyp ha;refine tkZ 6 ay ?_|refine tkZ 7 ay ?_);refine tkZ 8 ay ?_;refine tkZ 9 ay ?_;refine tkZ 10 ay ?_;refine tkZ 11 ay ?_;refine tkZ 12 ay ?_;(first|guard_hyp ha;refine tkZ 13 ay ?_|skip);clear ay;(first|guard_hyp ha;refine tkP 4 (fun aR aJ=>?_)|refine tkP 3 (fun aR aJ=>?_));go_simp;refine aJ.out _ _ (fun _=>nh.out _ (kax fe (y #[] 3)).drew) ?_;clear aJ aR;(try simp only[Act.put,gE,gF,gG]);(first|guard_hyp ha;refine tkP 7 (fun aR aJ=>?_)|refine tkP 6 (fun aR aJ=>?_));refine kfE _ rfl (.tmp 16) (.tmp 18) 47 rfl (w.heap.size+1) 3 w3 (I U 0) 1 8 underlying47 Ff Fg Fh Fj rfl dC (D (N ⟨fe,0,Z⟩) 0 0) 0 [] rfl Fc fe c6 m cs zs rfl Fd Fb.o jV kZ wF ?_;intro v5 bm h5 g3 g7;rw[ud3] at h5;obtain ⟨fs,c5,rfl⟩:=kaA h5;have cQ:H fe fe bm:=((kax fe (y #[] 3)).drew).grown g3 (by simp) (fun j e=>by have e:N fe.heap.size=N j:=e;injection e with e;omega);(first|guard_hyp ha;obtain ⟨yH,bu,bY,cP,c8,dj⟩:=nh.out bm cQ;obtain ⟨yI,_,_,_,_,_⟩:=nh.out _ (cQ.alloc cQ.size (y #[Q ⟨op.toArray⟩,D fs m c5,I U num,Q ⟨text.toArray⟩,I U ty] 77));have hr:=zx.out _ (cQ.alloc cQ.size (y #[Q ⟨op.toArray⟩,D fs m c5,I U num,Q ⟨text.toArray⟩,I U ty] 77));have sc:=kpc bm (Q ⟨op.toArray⟩) (D fs m c5) (I U num) (Q ⟨text.toArray⟩) (I U ty) 77;have Fk:w.heap.size+1≤(bm.alloc (y #[Q ⟨op.toArray⟩,D fs m c5,I U num,Q ⟨text.toArray⟩,I U ty] 77)).heap.size:=uc9 (show w.heap.size+1≤bm.heap.size by (have:=cQ.size;omega)) (kax bm _).size|obtain ⟨bu,bY,cP,c8,dj⟩:=nh.out bm cQ;have hr:=zx.out _ (cQ.alloc cQ.size (y #[Q ⟨op.toArray⟩,D fs m c5,I U num,Q ⟨text.toArray⟩,I U ty] 76));have sc:=kpc bm (Q ⟨op.toArray⟩) (D fs m c5) (I U num) (Q ⟨text.toArray⟩) (I U ty) 76;have Fk:w.heap.size+1≤(bm.alloc (y #[Q ⟨op.toArray⟩,D fs m c5,I U num,Q ⟨text.toArray⟩,I U ty] 76)).heap.size:=uc9 (show w.heap.size+1≤bm.heap.size by (have:=cQ.size;omega)) (kax bm _).size);have cN:=hD cQ;have j8:=hD h5;have BH:=cQ.size;have ay:=nh.out bm cQ;clear cQ h5 g3 g7;refine aJ.out _ _ (fun _=>ay) ?_;clear aJ aR;(try simp only[Act.put,gE,gF,gG]);(first|guard_hyp ha;refine tkZ 14 ay ?_|refine tkZ 13 ay ?_);clear ay;(first|guard_hyp ha;refine tkP 15 (fun aR aJ=>?_)|refine tkP 14 (fun aR aJ=>?_));go_simp;(first|guard_hyp ha;refine aJ.out _ _ (fun _=>nh.out _ (cN.o.alloc cN.o.size (y #[Q ⟨op.toArray⟩,D fs m c5,I U num,Q ⟨text.toArray⟩,I U ty] 77))) ?_|refine aJ.out _ _ (fun _=>nh.out _ (cN.o.alloc cN.o.size (y #[Q ⟨op.toArray⟩,D fs m c5,I U num,Q ⟨text.toArray⟩,I U ty] 76))) ?_);clear aJ aR;(try simp only[Act.put,gE,gF,gG]);(first|guard_hyp ha;refine tkP 16 (fun aR aJ=>?_);refine kfE _ rfl (.tmp 13) (.tmp 27) 24 rfl (w.heap.size+1) 77 eX (aa #[Q ⟨#[]⟩,D Z 0 0,I U 0,Q ⟨#[]⟩,I U 0]) 5 72 underlying24 zy zA zB zC rfl dC (D l5 k bP) k bV rfl hr (bm.heap.size+1) (N ⟨bm,0,Z⟩) 1 1 [Q ⟨op.toArray⟩,D fs m c5,I U num,Q ⟨text.toArray⟩,I U ty] rfl sc (by simp[Value.oneCell']) wD J1 Fk ?_|refine tkP 15 (fun aR aJ=>?_);refine kfE _ rfl (.tmp 13) (.tmp 27) 22 rfl (w.heap.size+1) 76 eX (aa #[Q ⟨#[]⟩,D Z 0 0,I U 0,Q ⟨#[]⟩,I U 0]) 5 72 underlying22 zy zA zB zC rfl dC (D l5 k bP) k bV rfl hr (bm.heap.size+1) (N ⟨bm,0,Z⟩) 1 1 [Q ⟨op.toArray⟩,D fs m c5,I U num,Q ⟨text.toArray⟩,I U ty] rfl sc (by simp[Value.oneCell']) wD J1 Fk ?_);intro eQ dl fm fV j2;obtain ⟨e4,bI,rfl⟩:=kaA fm;(first|guard_hyp ha;have f1:=hD (cN.o.alloc cN.o.size (y #[Q ⟨op.toArray⟩,D fs m c5,I U num,Q ⟨text.toArray⟩,I U ty] 77));have w4:=J2.out _ dl f1.o fV;have yK:=w4.cell 0;have mQ:=w4.frozen 0|have f1:=hD (cN.o.alloc cN.o.size (y #[Q ⟨op.toArray⟩,D fs m c5,I U num,Q ⟨text.toArray⟩,I U ty] 76)));obtain ⟨t0,bb,db,t3,t4⟩:=Fe.out _ dl f1.o fV;(first|guard_hyp ha;have pP:=hD w4|skip);have rp:=hD fm;have w5:=hD fV;(first|guard_hyp ha;have qC:=And.intro yK (And.intro t0 (And.intro bb (And.intro db (And.intro t3 t4))));clear w4 fm fV j2|have qC:=And.intro t0 (And.intro bb (And.intro db (And.intro t3 t4)));clear fm fV j2);refine aJ.out _ _ (fun _=>qC) ?_;clear aJ aR;(try simp only[Act.put,gE,gF,gG]);(first|guard_hyp ha;refine tkZ 17 qC ?_|skip);clear qC;(first|guard_hyp ha;refine tkP 18 (fun aR aJ=>?_)|refine tkP 16 (fun aR aJ=>?_));go_simp;refine aJ.out _ _ (fun h=>absurd rfl h) ?_;refine kiN kR ?_ _;refine uf0 ?_;clear aJ aR;try simp only[Act.put,gE,gF,gG]
   first
   |guard_hyp ha
    all_goals
     have fW:fe.grownBy dl (D l5 k bP).ownBlock:=(kbR f1.o _).trans w5.o;have w6:dl.ownsRow (w.heap.size+1) 3 1 (D fs m c5) m zs:=kcx (kaI j8.o (kax bm _)) (fun g hg=>by obtain ⟨_,cur,an⟩:=kbE j8.o hg;exact w5.o.block g (an.alloc _).lt (fun e=>ka5 (kaI pQ.o f1.o) (an.alloc _) dC e.symm));have pb:=kdt (p:=⟨w.heap.size+1,0,Z⟩) w6 (ka5 w6 pP.o dC) (D e4 (k+1) bI);have rq:=hD (pP.o.mac 0 (D e4 (k+1) bI));have h9:=hD ((JZ.o.grown fW (fun e=>by have:=(kbE pQ.o e.symm).1;omega)).far (p:=⟨w.heap.size+1,0,Z⟩) (by show w.heap.size≠w.heap.size+1;omega) (D e4 (k+1) bI));have y8:=hD (kdt (p:=⟨w.heap.size+1,0,Z⟩) rp.o (ka5 rp.o pP.o dC) (D e4 (k+1) bI));have l4:=hD ((zw.o.grown fW J0 (fun j e=>by have:=(kbE pQ.o e).1;omega)).setCell (p:=⟨w.heap.size+1,0,Z⟩) (by show w.heap.size≤w.heap.size+1;omega) (D e4 (k+1) bI))
     have Fl:Hz (StVs (dl.setCell ⟨w.heap.size+1,0,Z⟩ (D e4 (k+1) bI)) (stF (dl.setCell ⟨w.heap.size+1,0,Z⟩ (D e4 (k+1) bI)) (w.heap.size+1) []) (l.take (k+1)) (bV++[Q ⟨op.toArray⟩,D fs m c5,I U num,Q ⟨text.toArray⟩,I U ty])):=hD (by
      have aw:∀ i cur,Blk fe i 3 cur→(dl.setCell ⟨w.heap.size+1,0,Z⟩ (D e4 (k+1) bI)).heap[i]? =fe.heap[i]? :=fun i cur ak=>
       (ud7 dl ⟨w.heap.size+1,0,Z⟩ _ i (Blk.ne_ ak tH.o dC)).trans (fW.block i ak.lt (fun e=>ka5 pQ.o ak dC e.symm))
      rw[ue0,b7.o];have kw:=ro.o;rw[Cp.o] at pb;refine StVs.append (StVs.mbW Co.o (fun i cur _ ak=>aw i cur ak) (by have:=fW.size;simpa using this) (fun i _ h=>h)) (StVs.one ⟨fs,c5,by rw[kw],?_⟩);show RdF _ _ 1 fs args.length (args.map (I U));rw[kw] at pb;refine ⟨pb.1,fun ax=>?_⟩;obtain ⟨zD,cS,Fm,_,rN,vd,an⟩:=kb3 pb ax;injection Fm with d4;subst d4;obtain ⟨_,cur,ak⟩:=kbE pb (g:=zD) rfl;exact ⟨zD,0,rfl,⟨rN,vd,by simp,cur,ak⟩,vd,fun j u aS=>by rw[ud3];exact an j u aS⟩)
     clear fW w6 pb f1 w5 rp pP j8 cN nh zx J2 Fe tH JZ pQ Co zw hr sc Fc Fd Fb fQ Cp ro b7 eD EZ RT RU yH yI yK mQ be b8 cn c0 c3 bu bY cP c8 dj t0 bb db t3 t4 Ff Fg Fh Fj zy zA zB zC;generalize dl.setCell ⟨w.heap.size+1,0,Z⟩ (D e4 (k+1) bI)=hE at*;go_wp2_with fail;go_roundg f
     case measure=>omega
     case rel=>exact ⟨k+1,e4,bI,_,by go_num,oM,oM,rq,h9,y8,Fl,l4⟩
   |all_goals
     have fW:fe.grownBy dl (D l5 k bP).ownBlock:=(kbR f1.o _).trans w5.o;have w6:dl.ownsRow (w.heap.size+1) 3 1 (D fs m c5) m zs:=kcx (kaI j8.o (kax bm _)) (fun g hg=>by obtain ⟨_,cur,an⟩:=kbE j8.o hg;exact w5.o.block g (an.alloc _).lt (fun e=>ka5 (kaI pQ.o f1.o) (an.alloc _) dC e.symm));have pb:=w6;have y8:=rp;have l4:=hD (zw.o.grown fW J0 (fun j e=>by have:=(kbE pQ.o e).1;omega))
     have Fl:Hz (StVs dl (stF dl (w.heap.size+1) []) (l.take (k+1)) (bV++[Q ⟨op.toArray⟩,D fs m c5,I U num,Q ⟨text.toArray⟩,I U ty])):=hD (by
      have aw:∀ i cur,Blk fe i 3 cur→dl.heap[i]? =fe.heap[i]? :=fun i cur ak=>
       fW.block i ak.lt (fun e=>ka5 pQ.o ak dC e.symm)
      rw[ue0,b7.o];have kw:=ro.o;rw[Cp.o] at pb;refine StVs.append (StVs.mbW Co.o (fun i cur _ ak=>aw i cur ak) (fW.size) (fun i _ h=>h)) (StVs.one ⟨fs,c5,by rw[kw],?_⟩);show RdF _ _ 1 fs args.length (args.map (I U));rw[kw] at pb;refine ⟨pb.1,fun ax=>?_⟩;obtain ⟨zD,cS,Fm,_,rN,vd,an⟩:=kb3 pb ax;injection Fm with d4;subst d4;obtain ⟨_,cur,ak⟩:=kbE pb (g:=zD) rfl;exact ⟨zD,0,rfl,⟨rN,vd,by simp,cur,ak⟩,vd,fun j u aS=>by rw[ud3];exact an j u aS⟩)
     have EP:w.heap.size+1≤dl.heap.size:=uc9 eW fW.size;clear fW w6 pb f1 w5 j8 cN nh zx Fe pQ Co zw hr sc Fc Fd Fb fQ Cp ro b7 be b8 cn c0 c3 bu bY cP c8 dj t0 bb db t3 t4 Ff Fg Fh Fj zy zA zB zC;go_wp2_with fail;go_roundg f
     case measure=>omega
     case rel=>exact ⟨k+1,e4,bI,_,by go_num,rfl,oM,oM,EP,y8,Fl,l4⟩
  .have gp:k=l.length:=oM;subst gp;have cU:¬((l.length:Int)<(l.length:Int)):=oM;(first|guard_hyp ha;have eD:=cp.o.cell 0;have r0:=a1.o.cell 0;have Z4:=a1.o.frozen 0;have hl:=a1.o.lt;simp only[gA,gB] at eD r0|skip);have dr:=eY.o;rw[uf2] at dr;(first|guard_hyp ha;have sd:=hD (show PlAt wr (fun i=>w.heap.size+1≤i∧i<wr.heap.size) l5 l from ⟨bV,kjv dB.o (fun g af ao=>⟨af,ao⟩),dr.keep (w':=wr) (fun _ _ _=>rfl) (nR) (fun i hi _=>⟨hi.1,hi.2.1⟩)⟩)|have sd:=hD (show PlAt wr (fun i=>i<wr.heap.size) l5 l from ⟨bV,kjv dB.o (fun g _ ao=>ao),dr.keep (w':=wr) (fun _ _ _=>rfl) (nR) (fun i hi _=>hi.2.1)⟩));go_wp2_with fail;first|guard_hyp ha;refine ub2 (v:=aa #[D l5 l.length bP]) (by simp[results,results9,go_sem,r0]) rfl ?_;refine ⟨aV.o.setCell (p:=⟨w,0,Z⟩) (nR) _,l5,bP,rfl,?_⟩;exact PlAt.keep (fun i hi _=>ud7 wr ⟨w,0,Z⟩ _ i (by have:=hi.1;show i≠w.heap.size;omega)) (by simp) (fun i hi _=>⟨by have:=hi.1;omega,by simpa using hi.2⟩) sd.o|go_ret;exact ⟨aV.o,l5,bP,rfl,sd.o.arg⟩):=h
def kn1 (A:Option ae) (c:Nat) (l:List St) (w:O) (h:ArgPl w A l) (ax:l.length≤100000) (aE:∀ s∈l,s.args.length≤2000000):
 L prog 9 #[D A l.length c] w (kCV w l):=by
 have ha:=();exact yq5
def kDe (w:O) (n f:Nat) (i:C) (wr:O):Prop:=∃ k:Nat,i=I U k∧k≤n∧n-k<f∧Hz (H w w wr)
def kyq (A B:Option ae) (c d:Nat) (xs:List Int) (w:O) (Yi:xs.length≤100000) (af:Reads w w 1 A xs.length (xs.map (I U))) (ao:Reads w w 1 B xs.length (xs.map (I U))):
 L prog 28 #[D A xs.length c,D B xs.length d] w (kfm w):=by
 have kQ:=hD af;have lR:=hD ao;obtain ⟨n,ax⟩:=xE xs.length;have bF:=hD ax;rw[←ax] at kQ lR Yi ⊢;clear af ao ax;go_enter func28,ntmps28;go_wp2_with fail;go_loopg [5] (n+1) (fun f i wr=>kDe w n f i wr)
 case atStart=>exact ⟨0,rfl,oM,oM,hD (ub5 _ _)⟩
 case round=>
  obtain ⟨k,rfl,aw,fo,aV⟩:=hrel;obtain ⟨f,rfl⟩:=xS gk;by_cases bG:k<n
  .obtain ⟨x,aA⟩:∃ x,xs[k]? =N x:=⟨xs[k]'(by have:=bF.o;omega),ua3 _⟩;obtain ⟨fj,oa,rfl,_,iV⟩:=(kQ.o.below aV.o).form oM;obtain ⟨i5,hV,rfl,_,ej⟩:=(lR.o.below aV.o).form oM;have ca:=iV k (I U x) (by rw[ub9,aA];rfl);have cI:=ej k (I U x) (by rw[ub9,aA];rfl);have cU:(k:Int)<(n:Int):=oM;have bE:=nN k;clear iV ej aA;go_wp2_with fail;go_quiet (fail);go_wp2_with fail;go_roundg f
   case measure=>omega
   case rel=>exact ⟨k+1,by go_num,oM,oM,hD (kbm aV.o _)⟩
  .have iq:k=n:=oM;subst iq;have cU:¬((k:Int)<(k:Int)):=oM;go_wp2_with fail;go_ret;exact ⟨rfl,aV.o⟩
def kDf (w:O) (l:List St) (A:Option ae) (c f:Nat) (i:C) (wr:O):Prop:=∃ k:Nat,i=I U k∧k≤l.length∧l.length-k<f∧Hz (Blk wr w 26 #[D A l.length c])∧Hz (H w w wr)
def kyp (A B:Option ae) (c d:Nat) (l:List St) (w:O) (cZ:PlAt w (fun i=>i<w.heap.size) A l) (d4:ArgPl w B l) (ax:l.length≤100000) (aE:∀ s∈l,s.args.length≤100000):
 L prog 13 #[aa #[D A l.length c],D B l.length d] w (kfm w):=by
 obtain ⟨cp,hR,b7,hj,f7⟩:=hd5 cZ d4 aE (Blk.new w 26 #[D A l.length c]) (kax w (y #[D A l.length c] 26));clear cZ d4 aE;go_enter func13,ntmps13;go_wp2_with fail;go_loopg [5,6,16] (l.length+1) (fun f _ _ i wr=>kDf w l A c f i wr)
 case atStart=>exact ⟨0,rfl,oM,oM,hj,f7⟩
 case round=>
  clear hj f7;obtain ⟨k,rfl,aw,fo,de,aV⟩:=hrel;obtain ⟨f,rfl⟩:=xS gk;have oQ:=aV.o.size;have ov:=de.o.lt;by_cases bG:k<l.length
  .obtain ⟨s,al⟩:∃ s,l[k]? =N s:=⟨l[k],ua3 bG⟩;have tI:=b7.o s (ua4 al);have s0:=de.o.cell 0;simp only[gA,gB] at s0;obtain ⟨b,hV,c6,cs,rfl,Ow,dR,be,b8,cn,c0,c3,gl⟩:=(cp.o.at_ aV.o).step al;obtain ⟨fH,Z5,ve,qW,rfl,zE,bu,bY,cP,c8,dj,Fo⟩:=(hR.o.below aV.o) k s al;have cU:(k:Int)<(l.length:Int):=oM;have bE:=nN k;obtain ⟨op,args,num,text,ty⟩:=s;dsimp only at be b8 cn c0 c3 bu bY cP c8 dj gl Fo tI;have qi:=hD gl;have RV:=hD Fo;clear al gl Fo;go_upto_region 6 with (fail);obtain ⟨aF,bW⟩:=xE (wr.alloc (y #[Q ⟨op.toArray⟩,D c6 args.length cs,I U num,Q ⟨text.toArray⟩,I U ty] 77));rw[←bW];have bs:=bA bW;have bo:=hD (aV.o.trans (bs.mono oQ));have kt:=hD (de.o.below bs ov);have gv:=hD (show Blk aF wr 77 #[Q ⟨op.toArray⟩,D c6 args.length cs,I U num,Q ⟨text.toArray⟩,I U ty] by rw[bW];exact Blk.new _ _ _);have eD:=gv.o.cell 0;have eS:=gv.o.cell 1;have il:=gv.o.cell 2;have ma:=gv.o.cell 3;have un:=gv.o.cell 4;simp only[gA,gB,gC] at eD eS il ma un;have k0:=ui5 eD;have k1:=ui5 eS;have bS:=ui5 il;have fp:=ui5 ma;have gy:=ui5 un;have z0:=ui5 ((bs.cell (p:=⟨fH,_,Z⟩) zE).trans bu);have ca:=ui5 ((bs.cell (p:=⟨fH,_,Z⟩) zE).trans bY);have cI:=ui5 ((bs.cell (p:=⟨fH,_,Z⟩) zE).trans cP);have z3:=ui5 ((bs.cell (p:=⟨fH,_,Z⟩) zE).trans c8);have z4:=ui5 ((bs.cell (p:=⟨fH,_,Z⟩) zE).trans dj);have kT:Reads aF aF 1 c6 args.length (args.map (I U)):=⟨by simp,fun gh=>by obtain ⟨g,dp,aL,bJ,dn,h6⟩:=qi.o.form (by simpa using gh);refine ⟨⟨g,dp,Z⟩,aL,ua7 dn bs.size,fun j u aS=>?_⟩;rw[kb8];exact (bs.cell (p:=⟨g,dp+j,Z⟩) dn).trans (h6 j u aS)⟩;have kA:Reads aF aF 1 ve args.length (args.map (I U)):=(RV.o.below bs).more bs.size
   have J3:∀ tN os,L prog 28 #[D c6 args.length cs,D ve args.length qW] (Go.Sort.grow (redrawn aF tN) os) fun e sr=>e=ac (V K)∧∃ p:Regrown,sr=Go.Sort.grow (redrawn aF p.d) p.os:=
    fun tN os=>ur0 (kyq c6 ve cs qW args _ tI ((kT.below (uk1 aF tN os)).more (uk1 aF tN os).size) ((kA.below (uk1 aF tN os)).more (uk1 aF tN os).size))
   have e1:=hD bW;clear bW bs eD eS il ma un be b8 cn c0 c3 bu bY cP c8 dj s0 kT kA;refine uo9 kR kR ?_;(repeat (quiet_step (exact J3 _ _)));refine uu2 ?_;intro _ vL;obtain ⟨⟨q8,osq⟩,uO⟩:=vL;subst uO;have bj:=uk1 aF q8 osq;simp only;have bU:=bT bo bj;have jr:=hD (kt.o.below bj kt.o.lt);clear bj J3 k0 k1 bS fp gy z0 ca cI z3 z4;go_wp2_with fail;go_roundg f
   case measure=>omega
   case rel=>exact ⟨k+1,by go_num,oM,oM,jr,bU⟩
  .have gp:k=l.length:=oM;subst gp;have cU:¬((l.length:Int)<(l.length:Int)):=oM;go_wp2_with fail;go_ret;exact ⟨rfl,aV.o⟩
def namesB:List ByteArray:=namesR.map fun s=>⟨s.toArray⟩
def kj2 (name:List UInt8):Bool:=Lib.containsS (namesB.take 11) ⟨name.toArray⟩
def kyj (name:List UInt8):kj2 name=K↔name∈namesR:=by
 unfold kj2;rw[Lib.containsS_iff,show namesB.take 11=namesB from rfl];unfold namesB;rw[uh8];constructor
 .rintro ⟨s,al,aG⟩;have:=ud4 (fun x:ByteArray=>x.data.toList) aG;have:s=name:=(by simpa using this);rw[←this];exact al
 .intro h;exact ⟨name,h,rfl⟩
def PlAt.arg {w:O} {A:Option ae} {l:List St} (h:PlAt w (fun i=>i<w.heap.size) A l):ArgPl w A l:=fun i s al=>by obtain ⟨b,o,dd,c,e,_,ak,be,b8,cn,c0,c3,am⟩:=h.step al;exact ⟨b,o,dd,c,e,ak,be,b8,cn,c0,c3,am.reads⟩
def kyy:(prog.info? 76).map (fun i=>(i.zero,i.size,i.bytes))=N (N (aa #[Q ⟨#[]⟩,D Z 0 0,I U 0,Q ⟨#[]⟩,I U 0]),5,72):=kR
def kDj (w:O) (l:List St) (f:Nat) (v i:C) (wr:O):Prop:=∃(k:Nat) (A:Option ae) (c:Nat) (bV:List C),i=I U k∧v=D A k c∧k≤l.length∧l.length-k<f∧w.heap.size+1≤wr.heap.size∧
 Hz (wr.ownsRow (w.heap.size+1) 76 5 (D A k c) k bV)∧Hz (StVs wr (stF wr (w.heap.size+1) []) (l.take k) bV)∧Hz (H w w wr)
def kDk (w:O) (l:List St) (e:Ending) (w':O):Prop:=H w w w'∧∃ A c,e=ac (D A l.length c)∧ArgPl w' A l
def kzI (A:Option ae) (c:Nat) (l:List St) (w:O) (h:PlAt w (fun i=>i<w.heap.size) A l) (ax:l.length≤100000) (aE:∀ s∈l,s.args.length≤2000000):
 L prog 16 #[aa #[D A l.length c]] w (kDk w l):=by
 exact yq5
end Go.Proofs.YtamhdmkolfmmdaaGreatDoor
namespace Go.Proofs.YtamhdmkolfmmdaaGreatDoor
open Go.RowKit Go.ChangeShapes Go.WideShapes Go.Deep
variable {P:Prop}
def klw (h:P:=by obtain ⟨l6,n,_,_,_,b5⟩:=rR 0 (w7 0 oM);obtain ⟨v0,bu,d8,_,t0⟩:=b5 0 _ rfl;simpa[Addr.add] using World.cell?_spot d8):=h
def klm (h:P:=by obtain ⟨i,hi0⟩:=uh7 al;obtain ⟨hi1,rfl⟩:=ue1.1 hi0;exact (bj i hi1).2.1):=h
theorem kB4 {eR:Type} (d:DataW eR):1≤Rows.uptoBulk d:=by
 cases d with
 |lit l=>cases l <;> simp[Rows.uptoBulk]
 |nil=>simp[Rows.uptoBulk]
 |ptr d=>simp[Rows.uptoBulk]
 |slice MU qQ=>simp[Rows.uptoBulk]
 |agg rA=>simp[Rows.uptoBulk]
 |iface t d=>simp[Rows.uptoBulk]
 |map XZ=>simp[Rows.uptoBulk]
 |held h=>simp[Rows.uptoBulk]
theorem kkU {eR:Type} :∀ l:List (DataW eR),l.length≤Rows.uptoBulkAll l
 |[]=>ud1 _
 |x::r=>by have:=kB4 x;have:=kkU r;simp only[Rows.uptoBulkAll,uc8];omega
theorem kB3 {eR:Type} (d:DataW eR):Joins.sliceLen d≤Rows.uptoBulk d:=by
 cases d with
 |slice MU qQ=>have:=kkU MU;simp only[Joins.sliceLen,Rows.uptoBulk];omega
 |lit l=>simp[Joins.sliceLen]
 |nil=>simp[Joins.sliceLen]
 |ptr d=>simp[Joins.sliceLen]
 |agg rA=>simp[Joins.sliceLen]
 |iface t d=>simp[Joins.sliceLen]
 |map XZ=>simp[Joins.sliceLen]
 |held h=>simp[Joins.sliceLen]
theorem khD {eR:Type} {aC:DataW eR} :∀(l:List (DataW eR)),aC∈l→Rows.uptoBulk aC≤Rows.uptoBulkAll l
 |[],h=>by cases h
 |a::t,h=>by
  simp only[Rows.uptoBulkAll];rcases uc7.1 h with rfl|h
  .omega
  .have:=khD t h;omega
theorem kp8 {α:Type} (len:Nat) (cY:Nat→α→Prop) (h:∀ i,i<len→∃ st,cY i st):∃ l:List α,l.length=len∧∀ i (hi:i<l.length),cY i l[i]:=by
 induction len with
 |zero=>exact ⟨[],rfl,fun i hi=>by simp at hi⟩
 |succ k bQ=>
  obtain ⟨l,az,bj⟩:=bQ fun i hi=>h i oM;obtain ⟨st,al⟩:=h k oM;refine ⟨l++[st],by simp[az],fun i hi=>?_⟩;by_cases n5:i<l.length
  .rw[List.getElem_append_left n5];exact bj i n5
  .have:i=l.length:=(by simp at hi;omega);subst this;rw[List.getElem_append_right (nR)];simp[az,al]
def kvw {w:O} {x:ae} {len cap:Nat} {zs:List Int} (az:len≤cap) (bd:zs.length=cap)
 (sA:∀ i,i<zs.length→w.cell? (x.add i)=N (I U (zs.getD i 0))):Reads w w 1 (N x) len ((zs.take len).map (I U)):=by
 refine ⟨by simp;omega,fun ax=>?_⟩;have ak:x.block<w.heap.size:=(by have:=ut3 (sA 0 oM);rwa [kkV] at this);refine ⟨x,rfl,ak,fun j u aI=>?_⟩;rw[ub9] at aI;by_cases aS:j<len
 .have y1:j<zs.length:=oM;rw[uc4,ua1 aS,ua3 y1] at aI;simp only[ue5,ug0] at aI;rw[sA j y1,←aI];simp[List.getD,y1]
 .rw[uc4,ua0 aS] at aI;simp at aI
section
variable {eR:Type} {fC:ah×C→eR} {P:Program} {w:O} {base:Nat} {qQ:Nat→Bool} {held:Bool}
theorem kpF {t e:TypeId} {n4:Array Field} {fuel:Nat} {cs:List Value} {x:DataW eR×List MemPlace} (aB:P.underlying t=some (.slice e)) (aG:P.underlying e=some (.struct n4))
 (d9:oneCellFields P n4=true) (kL:P.cellsOf e=n4.size) (h:DataW.trod fC P w base qQ held fuel t cs=some x):
 (cs=[.slice none 0 0]∧x=(.nil,[]))∨
 ∃(a:Addr) (len cap m:Nat) (cw:Nat→DataW eR) (xI:Nat→List MemPlace),cs=[.slice (some a) len cap]∧base≤a.block∧len≤cap∧cap≤maxLen∧m=(if qQ a.block then cap else len)∧
 x=(.slice ((List.range len).map cw) ((List.range (m-len)).map fun j=>cw (len+j)),MemPlace.row a (m*n4.size)++(List.range m).flatMap xI)∧
 ∀ i,i<m→∃(l6:List (DataW eR×List MemPlace)) (n:Nat),cw i= .agg (l6.map (·.1))∧xI i=l6.flatMap (·.2)∧l6.length=n4.size∧
 ∀(j:Nat) (f:Field),n4[j]? =some f→∃(v:Value) (aC:DataW eR×List MemPlace),w.cell? (a.add (i*n4.size+j))=some v∧l6[j]? =some aC∧DataW.trod fC P w base qQ held n f.type [v]=some aC:=by
 rcases open_slice aB h with aD|⟨a,len,cap,m,n,cw,xI,gR,ak,az,bg,kw,aA,hi⟩
 .exact .inl aD
 .refine .inr ⟨a,len,cap,m,cw,xI,gR,ak,az,bg,kw,by rw[kL] at aA;exact aA,fun i w7=>?_⟩;obtain ⟨eo,an,h4⟩:=hi i w7;rw[kL] at an;obtain ⟨l6,jC,Z6,bp,dz,Cq,b5⟩:=DataW.trod_struct aG h4;obtain ⟨_,ia,rr⟩:=World.cells?_some an;simp only[uq8] at bp;refine ⟨l6,jC,bp.1,bp.2,Cq,fun j f aS=>?_⟩;obtain ⟨bf,aw⟩:=hone_of d9 j f aS;have dk:j<n4.size:=(um6.1 aS).1;have sA:=rr j dk;have au:eo[j]? =some (eo[j]'oM):=ua3 oM;have af:=b5 j f aS;rw[bf,aw] at af;have oX:(eo.drop j).take 1=[eo[j]'oM]:=(by rw[ue7 oM];rfl);rw[oX] at af;have zF:l6[j]? =some (l6[j]'oM):=ua3 oM;refine ⟨_,_,?_,zF,af.trans zF⟩;rw[←Go.Deep.add_add,sA,au]
end
def kvT {eR:Type} {fC:TypeId×Value→eR} {w:World} {base fuel:Nat} {qQ:Nat→Bool} {held:Bool} {v:Value} {x:DataW eR×List MemPlace}
 (h:DataW.trod fC prog w base qQ held fuel 47 [v]=some x):∃(A:Option Addr) (jh:Nat) (l:List Int),v= .slice A l.length jh∧Reads w w 1 A l.length (l.map (Value.int .i64))∧l.length≤Rows.uptoBulk x.1∧∀ k∈l, -9223372036854775808≤k∧k≤9223372036854775807:=by
 obtain ⟨b8,cn⟩:=x;rcases open_ints underlying47 underlying3 kR h with ⟨gR,_⟩|⟨x,l,c,zs,gR,_,az,bg,bd,_,sA,ka⟩
 .simp at gR;exact ⟨none,0,[],gR,Reads.none_,ud1 _,fun k aw=>by cases aw⟩
 .simp at gR;subst gR;have Bo:l≤zs.length:=(by rw[bd];split <;> omega);have dz:(zs.take l).length=l:=(by rw[ub8];omega);refine ⟨some x,c,zs.take l,by rw[dz],by rw[dz];exact kvw Bo rfl sA,?_,fun k aw=>?_⟩
  .have:=Joins.sliceLen_trod underlying47 h;rw[dz,←this];exact kB3 _
  .have:=ka k (uk4 aw);simp[Lit.wf,IntKind.min,IntKind.max,IntKind.signed,IntKind.bits] at this;omega
structure StOk (s:St):Prop where
 args:s.args.length≤1048576
 text:s.text.length≤9223372036854775807
 op:s.op.length≤9223372036854775807
 num: -9223372036854775808≤s.num∧s.num≤9223372036854775807
 ty: -9223372036854775808≤s.ty∧s.ty≤9223372036854775807
 ints:∀ k∈s.args, -9223372036854775808≤k∧k≤9223372036854775807
 textB:s.text.length≤1048576
def open_steps {eR:Type} {fC:TypeId×Value→eR} {w:World} {base fuel:Nat} {qQ:Nat→Bool} {held:Bool} {A:Option Addr} {len cap:Nat} {x:DataW eR×List MemPlace}
 (h:DataW.trod fC prog w base qQ held fuel 22 [.slice A len cap]=some x) (aA:Rows.uptoBulk x.1≤1048576):∃ l:List St,l.length=len∧ArgPl w A l∧len≤1048576∧∀ s∈l,StOk s:=by
 rcases kpF underlying22 underlying76 kR kR h with ⟨gR,_⟩|⟨a,XY,fE,m,cw,xI,gR,_,az,_,bg,w0,rR⟩
 .simp at gR;obtain ⟨rfl,rfl,rfl⟩:=gR;exact ⟨[],rfl,fun i s al=>by simp at al,oM,fun s al=>by cases al⟩
 .simp at gR;obtain ⟨rfl,rfl,rfl⟩:=gR;have w7:∀ j,j<len→j<m:=fun j aS=>by rw[bg];split <;> omega
  rw[w0] at aA;simp only[Rows.uptoBulk] at aA;have dz:=kkU ((List.range len).map cw);rw[ui9,List.length_range] at dz;obtain ⟨b,o,um⟩:=a
  obtain ⟨l, k5, bj⟩ := kp8 len (fun i (s : St) => um = none ∧ StOk s ∧ ∃ c6 c, b < w.heap.size ∧ w.cell? ⟨b, o + i * 5, none⟩ = some (.string ⟨s.op.toArray⟩) ∧ w.cell? ⟨b, o + i * 5 + 1, none⟩ = some (.slice c6 s.args.length c) ∧
   w.cell? ⟨b, o + i * 5 + 2, none⟩ = some (.int .i64 s.num) ∧ w.cell? ⟨b, o + i * 5 + 3, none⟩ = some (.string ⟨s.text.toArray⟩) ∧ w.cell? ⟨b, o + i * 5 + 4, none⟩ = some (.int .i64 s.ty) ∧ Reads w w 1 c6 s.args.length (s.args.map (Value.int .i64))) fun i hi => by
   have xT : um = none := by
    exact klw
   subst xT
   obtain ⟨l6, n, hD, _, _, b5⟩ := rR i (w7 i hi)
   obtain ⟨v0, bu, d8, _, t0⟩ := b5 0 _ rfl
   obtain ⟨dX, bY, g1, aL, bb⟩ := b5 1 _ rfl
   obtain ⟨eb, cP, eN, _, db⟩ := b5 2 _ rfl
   obtain ⟨v3, c8, gV, dn, t3⟩ := b5 3 _ rfl
   obtain ⟨v4, dj, iA, _, t4⟩ := b5 4 _ rfl
   obtain ⟨z0, f0, _, Fp⟩ := uq4 underlying9 t0
   obtain ⟨RW, mD, J4, b2, kT, cm, fZ⟩ := kvT bb
   obtain ⟨cI, cB, _, RX⟩ := DataW.trod_int underlying3 db
   obtain ⟨z3, dS, br, RY⟩ := uq4 underlying9 t3
   obtain ⟨z4, eJ, _, RZ⟩ := DataW.trod_int underlying3 t4
   simp at f0 cB dS eJ
   subst f0 b2 cB dS eJ
   simp [Lit.wf, IntKind.min, IntKind.max, IntKind.signed, IntKind.bits] at RX RZ
   rw [kb8] at d8 g1 eN gV iA
   have ni : Rows.uptoBulk (cw i) ≤ 1048576 := by
    have := khD ((List.range len).map cw) (uh8.2 ⟨i, uk3.2 hi, rfl⟩)
    omega
   have bs : Rows.uptoBulk bY.1 ≤ Rows.uptoBulk (cw i) := by
    have := khD (l6.map (·.1)) (uh8.2 ⟨bY, ua4 aL, rfl⟩)
    rw [hD]
    simp only [Rows.uptoBulk]
    omega
   have b3 : Rows.uptoBulk c8.1 ≤ Rows.uptoBulk (cw i) := by
    have := khD (l6.map (·.1)) (uh8.2 ⟨c8, ua4 dn, rfl⟩)
    rw [hD]
    simp only [Rows.uptoBulk]
    omega
   rw [br] at b3
   simp only [Rows.uptoBulk] at b3
   have ds : (⟨z0.data.toList.toArray⟩ : ByteArray) = z0 := by cases z0; simp
   have Cr : (⟨z3.data.toList.toArray⟩ : ByteArray) = z3 := by cases z3; simp
   have hw : z0.data.toList.length ≤ 9223372036854775807 := by have : z0.size ≤ 9223372036854775807 := Fp; simpa using this
   have Eh : z3.data.toList.length ≤ 9223372036854775807 := by have : z3.size ≤ 9223372036854775807 := RY; simpa using this
   exact ⟨⟨z0.data.toList, J4, cI, z3.data.toList, z4⟩, rfl, ⟨by show J4.length ≤ _; omega, Eh, hw, show (-9223372036854775808 : Int) ≤ cI ∧ cI ≤ 9223372036854775807 from by omega, show (-9223372036854775808 : Int) ≤ z4 ∧ z4 ≤ 9223372036854775807 from by omega, fZ, by show z3.data.toList.length ≤ _; omega⟩, RW, mD, ut3 d8, by dsimp only; rw [ds]; exact d8, g1, eN, by dsimp only; rw [Cr]; exact gV, iA, kT⟩
  refine ⟨l,k5,fun i s al=>?_,oM,fun s al=>?_⟩
  .obtain ⟨hi,rfl⟩:=ue1.1 al;obtain ⟨af,_,c6,c,ao⟩:=bj i hi;subst af;exact ⟨b,o,c6,c,rfl,ao⟩
  .exact klm
end Go.Proofs.YtamhdmkolfmmdaaGreatDoor
