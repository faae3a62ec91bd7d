/- Part al of the proof. -/
import Derived.Test.YtamhdmkolfmmdaaGreatDoorwaj
import Derived.Test.YtamhdmkolfmmdaaGreatDoorwak
set_option linter.all false
set_option maxHeartbeats 16000000
set_option maxRecDepth 100000
open Go.Proofs.Tryz
open Go.Value renaming int→I,slice→D,bool→V,string→Q,pointer→ab,agg→aa,tuple→ag,nilIface→aj
open Go.IntKind renaming i64→U,u64→Y,u8→ai
open Go.Obj renaming cells→y
open Go.Ending renaming returned→ac
open Option renaming none→Z,some→N
open Bool renaming true→K,false→J
open Go renaming World→O,Value→C,Calls→L,TypeId→ah,Addr→ae
open Go.RowKit renaming Below→H
namespace Go.Proofs.YtamhdmkolfmmdaaGreatDoor
open Go.RowKit
variable {P:Prop}
def kbc (h:P:=by obtain ⟨fB,aN,eP,nn,hU, -⟩:=gl.c5 0 oM;obtain ⟨dA,aM,gI,i1,gZ, -⟩:=gl.c5 1 oM;first|guard_hyp Uf;exact kBV g _ bP aw _ _ w F hg eP.2.2.1 gI.2.2.1 oM|guard_hyp Ug;exact kBO g _ bP aw _ _ w F hg eP.1 gI.1 df bD|guard_hyp Uh;exact kBP g _ bP aw _ _ w F hg eP.1 gI.1 df bD|guard_hyp Ui;exact kBX g _ bP aw _ _ w F hg eP.1 gI.1 df bD|guard_hyp Uj;exact kBI g _ bP aw _ _ w F hg eP.1 gI.1 df bD|guard_hyp Uk;exact kBN g _ bP aw _ _ w F hg eP.1 gI.1 df bD|guard_hyp Ul;exact kBU g _ bP aw _ _ _ _ _ _ w F hg eP.1 eP.2.1 eP.2.2.1 gI.1 gI.2.1 gI.2.2.1|guard_hyp Um;exact kBM g _ bP aw _ _ _ _ _ _ w F hg eP.1 eP.2.1 eP.2.2.1 gI.1 gI.2.1 gI.2.2.1|guard_hyp Un;exact kBQ g _ bP aw _ _ _ _ w F hg eP.1 eP.2.2.1 gI.1 gI.2.2.1|guard_hyp Uo;exact kBS g _ bP aw _ _ _ _ w F hg eP.1 eP.2.2.1 gI.1 gI.2.2.1|guard_hyp Up;exact kBW g _ bP aw _ _ w F hg eP.2.1 gI.2.1|guard_hyp Uq;exact kBK g _ bP aw _ _ w F hg eP.2.1 gI.2.1|guard_hyp Ur;exact kcB _ dC g _ bP w F _ hF (fun W ak=>kxk g _ bP aw _ _ env Fi W F (ua7 hg ak.size) ((ak.cell (p:=⟨g,3,Z⟩) hg).trans eP.2.2.1) ((ak.cell (p:=⟨g,8,Z⟩) hg).trans gI.2.2.1) t0 bb)|guard_hyp Us;obtain ⟨fD,aZ,rB,f6,iN, -⟩:=gl.c5 2 oM;exact kcB _ dC g _ bP w F _ hF (fun W ak=>kxj g _ bP aw _ _ _ env Fi W F (ua7 hg ak.size) ((ak.cell (p:=⟨g,3,Z⟩) hg).trans eP.2.2.1) ((ak.cell (p:=⟨g,6,Z⟩) hg).trans gI.1) ((ak.cell (p:=⟨g,11,Z⟩) hg).trans rB.1) t0)|guard_hyp Ut;refine kcB _ dC g _ bP w F _ hF (fun W ak=>?_);have h:=kxg g _ bP aw (Ev.v0 vs 0).t (Ev.v0 vs 1).n env Fi W F (ua7 hg ak.size) ((ak.cell (p:=⟨g,3,Z⟩) hg).trans eP.2.2.1) ((ak.cell (p:=⟨g,6,Z⟩) hg).trans gI.1) t0;exact h|guard_hyp Uu;exact kcB _ dC g _ bP w F _ hF (fun W ak=>kxc g _ bP aw _ _ env Fi W F (ua7 hg ak.size) ((ak.cell (p:=⟨g,3,Z⟩) hg).trans eP.2.2.1) ((ak.cell (p:=⟨g,6,Z⟩) hg).trans gI.1) t0)|guard_hyp Uv;obtain ⟨fD,aZ,rB,f6,iN, -⟩:=gl.c5 2 oM;refine kcB _ dC g _ bP w F _ hF (fun W ak=>?_);have h:=kxd g _ bP aw (Ev.v0 vs 0).t _ (Ev.v0 vs 1).l _ (Ev.v0 vs 2).n F env Fi W F (ua7 hg ak.size) ((ak.cell (p:=⟨g,3,Z⟩) hg).trans eP.2.2.1) ((ak.cell (p:=⟨g,9,Z⟩) hg).trans gI.2.2.2) ((ak.cell (p:=⟨g,11,Z⟩) hg).trans rB.1) (gZ.below ak (G:=F) (fun _ h=>h)) t0 (gs _ bx).2;exact h|guard_hyp Uw;exact kcB _ dC g _ bP w F _ hF (fun W ak=>kw9 g _ bP aw _ _ _ W F (ua7 hg ak.size) ((ak.cell (p:=⟨g,3,Z⟩) hg).trans eP.2.2.1) ((ak.cell (p:=⟨g,1,Z⟩) hg).trans eP.1) ((ak.cell (p:=⟨g,6,Z⟩) hg).trans gI.1))|guard_hyp Ux;exact kcB _ dC g _ bP w F _ hF (fun W ak=>kw7 g _ bP aw _ _ _ _ _ _ _ F F W F (ua7 hg ak.size) ((ak.cell (p:=⟨g,3,Z⟩) hg).trans eP.2.2.1) ((ak.cell (p:=⟨g,4,Z⟩) hg).trans eP.2.2.2) ((ak.cell (p:=⟨g,9,Z⟩) hg).trans gI.2.2.2) (hU.below ak (G:=F) (fun _ h=>h)) (gZ.below ak (G:=F) (fun _ h=>h)) (gs _ b6).2 (gs _ bx).2 s0 s1)|guard_hyp Uy;exact kcB _ dC g _ bP w F _ hF (fun W ak=>kxe g _ bP aw _ _ _ _ _ _ _ F F W F (ua7 hg ak.size) ((ak.cell (p:=⟨g,3,Z⟩) hg).trans eP.2.2.1) ((ak.cell (p:=⟨g,4,Z⟩) hg).trans eP.2.2.2) ((ak.cell (p:=⟨g,9,Z⟩) hg).trans gI.2.2.2) (hU.below ak (G:=F) (fun _ h=>h)) (gZ.below ak (G:=F) (fun _ h=>h)) (gs _ b6).2 (gs _ bx).2 s0 s1)|guard_hyp Uz;exact kcB _ dC g _ bP w F _ hF (fun W ak=>kw8 g _ bP aw _ _ _ _ _ _ _ F F W F (ua7 hg ak.size) ((ak.cell (p:=⟨g,3,Z⟩) hg).trans eP.2.2.1) ((ak.cell (p:=⟨g,4,Z⟩) hg).trans eP.2.2.2) ((ak.cell (p:=⟨g,9,Z⟩) hg).trans gI.2.2.2) (hU.below ak (G:=F) (fun _ h=>h)) (gZ.below ak (G:=F) (fun _ h=>h)) (gs _ b6).1 (gs _ bx).1)|guard_hyp UA;exact kcB _ dC g _ bP w F _ hF (fun W ak=>kxf g _ bP aw _ _ _ _ _ _ _ F F W F (ua7 hg ak.size) ((ak.cell (p:=⟨g,3,Z⟩) hg).trans eP.2.2.1) ((ak.cell (p:=⟨g,4,Z⟩) hg).trans eP.2.2.2) ((ak.cell (p:=⟨g,9,Z⟩) hg).trans gI.2.2.2) (hU.below ak (G:=F) (fun _ h=>h)) (gZ.below ak (G:=F) (fun _ h=>h)) (gs _ b6).2 (gs _ bx).2)|guard_hyp UB;obtain ⟨fD,aZ,rB,f6,iN, -⟩:=gl.c5 2 oM;exact kcB _ dC g _ bP w F _ hF (fun W ak=>kxl g _ bP aw _ _ _ _ _ _ _ F F _ W F (ua7 hg ak.size) ((ak.cell (p:=⟨g,3,Z⟩) hg).trans eP.2.2.1) ((ak.cell (p:=⟨g,4,Z⟩) hg).trans eP.2.2.2) ((ak.cell (p:=⟨g,9,Z⟩) hg).trans gI.2.2.2) ((ak.cell (p:=⟨g,11,Z⟩) hg).trans rB.1) (hU.below ak (G:=F) (fun _ h=>h)) (gZ.below ak (G:=F) (fun _ h=>h)) (gs _ b6).2 (gs _ bx).2 s0 s1)|exact kcB _ dC g _ bP w F _ hF (fun W ak=>kxi g _ bP aw _ _ _ _ _ F W F (ua7 hg ak.size) ((ak.cell (p:=⟨g,3,Z⟩) hg).trans eP.2.2.1) ((ak.cell (p:=⟨g,4,Z⟩) hg).trans eP.2.2.2) ((ak.cell (p:=⟨g,6,Z⟩) hg).trans gI.1) (fun i hi=>ua7 (hF i hi) ak.size) (fun _ h=>h) (hU.below ak (G:=F) (fun _ h=>h)) nn (gs _ b6).2)):=h
def kBZ:List (List UInt8):=[[108,101,110],[108,105,110,101,115],[115,105,122,101],[99,111,109,109,111,110],[109,105,110],[109,97,120],[43],[45],[42],[61,61],[33,61],[60],[60,61],[97,110,100],[111,114],[110,111,116]]
def kfb:List (List UInt8×Nat):=[([108,101,110],1),([108,105,110,101,115],1),([115,105,122,101],1),([99,111,109,109,111,110],2),([109,105,110],2),([109,97,120],2),([43],2),([45],2),([42],2),([61,61],2),([33,61],2),([60],2),([60,61],2),([97,110,100],2),([111,114],2),([110,111,116],1),([43,43],2),([99,117,116],3),([108,105,110,101],2),([114,101,112],2),([112,105,99,107],3),([114,111,119,115],1),([115,112,97,110],2),([119,105,116,104,105,110],2),([111,118,101,114],2),([117,110,105,111,110],2),([109,105,110,117,115],2),([97,102,116,101,114],3),([102,105,114,115,116],2)]
def kq1 {X:Ev.Cx} {v:Ev.Va} (h:kaD X v): -1152921504606846976≤v.n∧v.n≤1152921504606846976:=ke0 h
theorem kq2 {X:Ev.Cx} {v:Ev.Va} (h:kaD X v):v.l.length≤4096:=by
 cases v with
 |sps l=>exact h.2
 |num n=>exact ud1 _
 |tru b=>exact ud1 _
 |txt t=>exact ud1 _
def kcB (op:List UInt8) (ch:∀ c∈kBZ,op≠c) (g bt bP:Nat) (w:O) (F:Nat→Prop) (r:Ev.Re Ev.Va) (hF:∀ i,F i→i<w.heap.size) (an:∀ W,H w w W→L prog 131 #[Q ⟨op.toArray⟩,D (N ⟨g,0,Z⟩) bt bP] W (kao W F r)):
 L prog 83 #[Q ⟨op.toArray⟩,D (N ⟨g,0,Z⟩) bt bP] w (kao w F r):=by
 have Ha:=();exact kcQ
def kkS (op:List UInt8) (k:Nat) (ba:(op,k)∈kfb) (vs:List Ev.Va) (aw:k≤vs.length) (g bP:Nat) (env:List (List UInt8×List UInt8)) (Fi:Ev.Fi) (w:O) (F:Nat→Prop) (hF:∀ i,F i→i<w.heap.size) (hg:g<w.heap.size) (gl:ArV w F g vs) (ii:∀ v∈vs,kaD (X57 env Fi) v) (mp:∀ v∈vs,SmV v):
 L prog 83 #[Q ⟨op.toArray⟩,D (N ⟨g,0,Z⟩) vs.length bP] w (kao w F (Ev.call (X57 env Fi) op vs)):=by
 have d8:=kct ii 0;have g1:=kct ii 1;have eN:=kct ii 2;have s0:=kfA mp 0;have s1:=kfA mp 1;have t0:(Ev.v0 vs 0).t.length≤3000:=kc0 d8;have bb:(Ev.v0 vs 1).t.length≤3000:=kc0 g1;have df:=kq1 d8;have bD:=kq1 g1;have b6:=kq2 d8;have bx:=kq2 g1;have gs:∀ l:List (Int×Int),l.length≤4096→l.length≤10000∧l.length≤100000:=fun l h=>⟨oM,oM⟩;simp only[kfb,uc7,uq8,List.mem_nil_iff,ui2] at ba;rcases ba with ⟨rfl,rfl⟩|⟨rfl,rfl⟩|⟨rfl,rfl⟩|⟨rfl,rfl⟩|⟨rfl,rfl⟩|⟨rfl,rfl⟩|⟨rfl,rfl⟩|⟨rfl,rfl⟩|⟨rfl,rfl⟩|⟨rfl,rfl⟩|⟨rfl,rfl⟩|⟨rfl,rfl⟩|⟨rfl,rfl⟩|⟨rfl,rfl⟩|⟨rfl,rfl⟩|⟨rfl,rfl⟩|⟨rfl,rfl⟩|⟨rfl,rfl⟩|⟨rfl,rfl⟩|⟨rfl,rfl⟩|⟨rfl,rfl⟩|⟨rfl,rfl⟩|⟨rfl,rfl⟩|⟨rfl,rfl⟩|⟨rfl,rfl⟩|⟨rfl,rfl⟩|⟨rfl,rfl⟩|⟨rfl,rfl⟩|⟨rfl,rfl⟩
 .obtain ⟨fB,aN,eP,nn,hU, -⟩:=gl.c5 0 oM;exact krZ g _ bP aw _ w F hg eP.2.2.1
 .obtain ⟨fB,aN,eP,nn,hU, -⟩:=gl.c5 0 oM;exact kBR g _ bP aw _ w F hg eP.2.2.1 oM
 .obtain ⟨fB,aN,eP,nn,hU, -⟩:=gl.c5 0 oM;exact krY g _ bP aw _ _ _ w F hg eP.2.2.2
 .have Uf:=();exact kbc
 .have Ug:=();exact kbc
 .have Uh:=();exact kbc
 .have Ui:=();exact kbc
 .have Uj:=();exact kbc
 .have Uk:=();exact kbc
 .have Ul:=();exact kbc
 .have Um:=();exact kbc
 .have Un:=();exact kbc
 .have Uo:=();exact kbc
 .have Up:=();exact kbc
 .have Uq:=();exact kbc
 .obtain ⟨fB,aN,eP,nn,hU, -⟩:=gl.c5 0 oM;exact kBL g _ bP aw _ w F hg eP.2.1
 .have Ur:=();exact kbc
 .have Us:=();exact kbc
 .have Ut:=();exact kbc
 .have Uu:=();exact kbc
 .have Uv:=();exact kbc
 .obtain ⟨fB,aN,eP,nn,hU, -⟩:=gl.c5 0 oM;exact kcB _ dC g _ bP w F _ hF (fun W ak=>kxb g _ bP aw _ W F (ua7 hg ak.size) ((ak.cell (p:=⟨g,3,Z⟩) hg).trans eP.2.2.1) t0)
 .have Uw:=();exact kbc
 .have Ux:=();exact kbc
 .have Uy:=();exact kbc
 .have Uz:=();exact kbc
 .have UA:=();exact kbc
 .have UB:=();exact kbc
 .exact kbc
def khL:List (List UInt8):=[[110,117,109,98,101,114],[115,116,114,105,110,103],[114,101,102],[99,111,117,110,116],[104,97,115],[102,105,110,100],[109,97,116,99,104,101,115],[102,105,114,115,116,102,105,110,100],[108,101,110,99,117,116]]
theorem kAb {env:List (List UInt8×List UInt8)} {p:List UInt8} :∀ {k:Nat} {x:List UInt8×List UInt8} (_:∀ i aC,i<k→env[i]? =N aC→aC.1≠p) (_:env[k]? =N x) (_:x.1=p),env.find? (fun x=>decide (x.1=p))=N x:=by
 induction env with
 |nil=>intro k x _ h;simp at h
 |cons e env bQ=>
  intro k x af ao av
  cases k with
  |zero=>simp only[gB,ug0] at ao;subst ao;rw[ur5,ub3 av]
  |succ k=>have aG:=af 0 e oM rfl;rw[ur5,ua5 aG];exact bQ (k:=k) (fun i aC hi bp=>af (i+1) aC oM (by simpa using bp)) (by simpa using ao) av
def kAa {env:List (List UInt8×List UInt8)} {p:List UInt8} (h:∀ i aC,i<env.length→env[i]? =N aC→aC.1≠p):env.find? (fun x=>decide (x.1=p))=Z:=by rw[List.find?_eq_none];intro x aA;obtain ⟨i,hi⟩:=uh7 aA;simpa using h i x (gH hi).1 hi
def kjt (X:Ev.Cx) (p:List UInt8):Ev.Re Ev.Va:=match X.env.find? fun x=>decide (x.1=p) with
 |some x=>Ev.maG X x.2
 |none=> .error (some 13)
def kCy (num:Int) (text:List UInt8) (dF:Option ae) (bt bP:Nat) (fF:Option ae) (M gb:Nat) (w:O) (F:Nat→Prop):L prog 45 #[Q ⟨#[110,117,109,98,101,114]⟩,I U num,Q ⟨text.toArray⟩,D dF bt bP,D fF M gb] w (kao w F (Ev.mah num)):=by have UC:=();exact kcQ
def kCv (num:Int) (text:List UInt8) (dF:Option ae) (bt bP:Nat) (fF:Option ae) (M gb:Nat) (env:List (List UInt8×List UInt8)) (Fi:Ev.Fi) (w:O) (F:Nat→Prop) (aB:text.length≤9223372036854775807):L prog 45 #[Q ⟨#[115,116,114,105,110,103]⟩,I U num,Q ⟨text.toArray⟩,D dF bt bP,D fF M gb] w (kao w F (Ev.maG (X57 env Fi) text)):=by have UD:=();exact kcQ
theorem kCx (num:Int) (text:List UInt8) (dF:Option ae) (bt bP:Nat) (fF:Option ae) (gb:Nat) (env:List (List UInt8×List UInt8)) (Fi:Ev.Fi) (w:O) (F:Nat→Prop) (aG:EnvAt w fF env) (hA:env.length≤100) (qR:∀ x∈env,x.2.length≤9223372036854775807):
 L prog 45 #[Q ⟨#[114,101,102]⟩,I U num,Q ⟨text.toArray⟩,D dF bt bP,D fF env.length gb] w (kao w F (kjt (X57 env Fi) text)):=by
 obtain ⟨es,bK⟩:=xE (kjt (X57 env Fi) text);rw[←bK]
 have bK : es = (match env.find? fun x => decide (x.1 = text) with
  | some x => Ev.maG (X57 env Fi) x.2
  | none => .error (some 13)) := bK
 have fz:=hD bK;obtain ⟨aq,aQ⟩:=xE (w.alloc (y #[I .i64 0,I U 0,V J,Q ⟨#[]⟩,D Z 0 0] 40));have j0:=bM aQ;have c4:=bA aQ;have fy:=wS aQ;obtain ⟨dv,a7,cd⟩:=hd3 j0 c4 aQ;clear j0 c4 aQ;have jb:w.heap.size<aq.heap.size:=oM;have yn:=hD (aG.below a7.o);have m4:=hD qR;clear aG qR bK;go_enter func45,ntmps45;go_upto_region 1 with (fail);rw[←cd.o];clear cd;go_wp2_with fail;go_loopg [13] (env.length+1) (fun f v wr=>∃ k:Nat,v=I U k∧k≤env.length∧env.length<k+f∧Hz (∀ i aC,i<k→env[i]? =N aC→aC.1≠text)∧aq=wr)
 case atStart=>exact ⟨0,rfl,oM,oM,hD (fun i aC hi=>by omega),rfl⟩
 case round=>
  obtain ⟨k,rfl,aw,fo,bF,rfl⟩:=hrel;obtain ⟨f,rfl⟩:=xS gk;by_cases bG:k<env.length
  .obtain ⟨x,aA⟩:=xG env bG;obtain ⟨b,o,rfl,ak,bu,bY⟩:=yn.o k x aA;have cU:(k:Int)<(env.length:Int):=oM;have bE:=nN k;by_cases pg:x.1=text
   .have ey:=fz.o;rw[kAb bF.o aA pg] at ey;have ov:=m4.o x (ua4 aA);obtain ⟨dJ,eC⟩:=x;dsimp only at ey bu bY pg ov;subst pg;have bw:(dJ==dJ)=K:=um2 _;have a8:=hD (kd8 eC env Fi (fun _=>False) aq ov);rw[←ey] at a8;clear aA ey ov bF;have L4:=();exact kgD
   .have jv:Hz (∀ i aC,i<k+1→env[i]? =N aC→aC.1≠text):=hD (fun i aC hi bp=>by
     rcases ug1 i k with af|af
     .exact bF.o i aC af bp
     .obtain rfl:i=k:=oM;rw[aA] at bp;injection bp with bp;rw[←bp];exact pg)
    obtain ⟨dJ,eC⟩:=x;dsimp only at bu bY pg;have bw:(dJ==text)=J:=ua2.2 pg;clear aA bF pg;go_wp2_with fail;go_roundg f
    case measure=>omega
    case rel=>exact ⟨k+1,by go_num,oM,oM,jv,rfl⟩
  .obtain rfl:k=env.length:=oM;have ey:=fz.o;rw[kAa bF.o] at ey;have a8:=hD (kcS 13 dC (fun _=>False) aq);dsimp only at ey;rw[←ey] at a8;clear ey bF;have L4:=();exact kgD
def kCG (num:Int) (text:List UInt8) (g bt bP:Nat) (fF:Option ae) (M gb:Nat) (t0:List UInt8) (w:O) (F:Nat→Prop) (cj:0<bt) (hg:g<w.heap.size) (aD:w.cell? ⟨g,3,Z⟩=N (Q ⟨t0.toArray⟩)) (dY:NoneAt w) (aB:text.length≤4611686018427387904) (cE:t0.length≤9223372036854775807):
 L prog 45 #[Q ⟨#[99,111,117,110,116]⟩,I U num,Q ⟨text.toArray⟩,D (N ⟨g,0,Z⟩) bt bP,D fF M gb] w (kao w F (kce kb5 (F57 text t0))):=by
 have UE:=();exact kcQ
def kCC (num:Int) (text:List UInt8) (g bt bP:Nat) (fF:Option ae) (M gb:Nat) (t0:List UInt8) (w:O) (F:Nat→Prop) (cj:0<bt) (hg:g<w.heap.size) (aD:w.cell? ⟨g,3,Z⟩=N (Q ⟨t0.toArray⟩)) (dY:NoneAt w) (aB:text.length≤4611686018427387904) (cE:t0.length≤9223372036854775807):
 L prog 45 #[Q ⟨#[104,97,115]⟩,I U num,Q ⟨text.toArray⟩,D (N ⟨g,0,Z⟩) bt bP,D fF M gb] w (kao w F (kce kb4 (F57 text t0))):=by
 have UF:=();exact kcQ
def kCF (num:Int) (text:List UInt8) (g bt bP:Nat) (fF:Option ae) (M gb:Nat) (t0:List UInt8) (w:O) (F:Nat→Prop) (cj:0<bt) (hg:g<w.heap.size) (aD:w.cell? ⟨g,3,Z⟩=N (Q ⟨t0.toArray⟩)) (dY:NoneAt w) (aB:text.length≤4611686018427387904) (cE:t0.length≤9223372036854775807):
 L prog 45 #[Q ⟨#[102,105,110,100]⟩,I U num,Q ⟨text.toArray⟩,D (N ⟨g,0,Z⟩) bt bP,D fF M gb] w (kao w F (kce kbT (F57 text t0))):=by
 have UG:=();exact kcQ
def kCD (op:List UInt8) (ch:∀ c∈khL,op≠c) (num:Int) (text:List UInt8) (g bt bP:Nat) (fF:Option ae) (M gb:Nat) (w:O) (F:Nat→Prop) (r:Ev.Re Ev.Va) (hF:∀ i,F i→i<w.heap.size) (an:∀ W,H w w W→L prog 83 #[Q ⟨op.toArray⟩,D (N ⟨g,0,Z⟩) bt bP] W (kao W F r)):
 L prog 45 #[Q ⟨op.toArray⟩,I U num,Q ⟨text.toArray⟩,D (N ⟨g,0,Z⟩) bt bP,D fF M gb] w (kao w F r):=by
 have UH:=();exact kcQ
def km1 (h:P:=by have b3:=bA cl;have ea:=hD cl;have bU:=bT bo b3;have fX:=hD (gt.o.below b3 gt.o.lt);have cW:=hD (kb1 fX.o (I U 0) (I U 0) (V J) (Q ⟨#[]⟩) (D Z 0 0));first|guard_hyp UI;have di:=hD (kdB (F:=F) (F0:=fun _=>False) (r:=(.error (N kk))) (x:=ag #[aa #[I .i64 0,I U 0,V J,Q ⟨#[]⟩,D Z 0 0],I U kk,V K]) bU.o ⟨jw,rfl⟩ (fun _ h=>h.elim) (I U 0) (I U 0) (V J) (Q ⟨#[]⟩) (D Z 0 0));have ey:es=(.error (N kk)):=fz.o;rw[←ey] at di;have bw:(kk != 0)=K:=uk2.2 jw;have aL:¬kk=0:=jw;clear b3 cl ey fz;(first|guard_hyp Ts;go_upto_region 20 with (fail);rw[←ea.o];clear ea;obtain ⟨z0,ca,cI,z3,z4,k0,k1,bS,fp,gy⟩:=kak fX.o;go_wp2_with fail;obtain ⟨bi,aW,bc,br,bL, -⟩:=kak cW.o;refine ub2 (v:=ag #[aa #[I .i64 0,I U 0,V J,Q ⟨#[]⟩,D Z 0 0],I U kk,V K]) (by simp[results,results45,go_sem,bi,aW,bc,br,bL]) rfl ?_;exact di.o|go_upto_region 27 with (fail);rw[←ea.o];clear ea;obtain ⟨z0,ca,cI,z3,z4,k0,k1,bS,fp,gy⟩:=kak fX.o;go_wp2_with fail;obtain ⟨bi,aW,bc,br,bL, -⟩:=kak cW.o;refine ub2 (v:=ag #[aa #[I .i64 0,I U 0,V J,Q ⟨#[]⟩,D Z 0 0],I U kk,V K]) (by simp[results,results45,go_sem,bi,aW,bc,br,bL]) rfl ?_;exact di.o)|have di:=hD (kdB (F:=F) (F0:=fun _=>False) (r:=(.error Z)) (x:=ag #[aa #[I .i64 0,I U 0,V J,Q ⟨#[]⟩,D Z 0 0],I U 0,V J]) bU.o ⟨_,_,_,_,_,_,_,rfl⟩ (fun _ h=>h.elim) (I U 0) (I U 0) (V J) (Q ⟨#[]⟩) (D Z 0 0));have ey:es=(.error Z):=fz.o;rw[←ey] at di;clear b3 cl ey fz;(first|guard_hyp Tt;go_upto_region 20 with (fail);rw[←ea.o];clear ea;obtain ⟨z0,ca,cI,z3,z4,k0,k1,bS,fp,gy⟩:=kak fX.o;go_wp2_with fail;obtain ⟨bi,aW,bc,br,bL, -⟩:=kak cW.o;refine ub2 (v:=ag #[aa #[I .i64 0,I U 0,V J,Q ⟨#[]⟩,D Z 0 0],I U 0,V J]) (by simp[results,results45,go_sem,bi,aW,bc,br,bL]) rfl ?_;exact di.o|go_upto_region 27 with (fail);rw[←ea.o];clear ea;obtain ⟨z0,ca,cI,z3,z4,k0,k1,bS,fp,gy⟩:=kak fX.o;go_wp2_with fail;obtain ⟨bi,aW,bc,br,bL, -⟩:=kak cW.o;refine ub2 (v:=ag #[aa #[I .i64 0,I U 0,V J,Q ⟨#[]⟩,D Z 0 0],I U 0,V J]) (by simp[results,results45,go_sem,bi,aW,bc,br,bL]) rfl ?_;exact di.o)):=h
def klZ (h:P:=by obtain ⟨jw,rfl⟩:=kA;obtain ⟨a6,cl⟩:=xE (aF.alloc (y #[I .i64 0,I U 0,V J,Q ⟨#[]⟩,D Z 0 0] 40));have UI:=();exact km1):=h
def klY (h:P:=by obtain ⟨ci,bX,c9,cy,cv,cr,t9,rfl⟩:=kA;obtain ⟨a6,cl⟩:=xE (aF.alloc (y #[I .i64 cy,I U cv,V cr,Q t9,D ci bX c9] 40));exact km1):=h
def knt (h:P:=by
 have jz:=bM cl;have b3:=bA cl;have rf:=wS cl;have ea:=hD cl;have jr:=hD jz;have bU:=bT bo b3;have fX:=hD (gt.o.below b3 gt.o.lt);obtain ⟨ik,qt⟩:=xE aF.heap.size;rw[←qt] at jr;have xD:=hD qt
 first
 |guard_hyp Tu;(first|guard_hyp so;have EB:=hD pc;have UJ:=hD (tX.below b3 (G:=fun i=>F i∨aq.heap.size≤i) (fun i hi=>by rcases hi with h|h;exact h.elim;exact .inr h));have Aj:ik<a6.heap.size:=jr.o.lt;have Ak:ik≠w.heap.size:=oM;have eA:Hz (∀ W,H a6 a6 W→(W.cell? ⟨ik,0,Z⟩=N (I U 4)∧W.cell? ⟨ik,1,Z⟩=N (I U 0)∧W.cell? ⟨ik,2,Z⟩=N (V J)∧W.cell? ⟨ik,3,Z⟩=N (Q ⟨#[]⟩)∧W.cell? ⟨ik,4,Z⟩=N (D ci l.length c9))∧(W.cell? ⟨g,5,Z⟩=N (I U oC)∧W.cell? ⟨g,6,Z⟩=N (I U bD)∧W.cell? ⟨g,7,Z⟩=N (V cL)∧W.cell? ⟨g,8,Z⟩=N (Q ⟨bb.toArray⟩)∧W.cell? ⟨g,9,Z⟩=N (D dA bx.length aM))):=hD (fun W ak=>by obtain ⟨be,b8,cn,c0,c3, -⟩:=kak jr.o;have h:=qn.o W (bU.o.trans (ak.mono bU.o.size));exact ⟨⟨(ak.cell (p:=⟨ik,0,Z⟩) Aj).trans be,(ak.cell (p:=⟨ik,1,Z⟩) Aj).trans b8,(ak.cell (p:=⟨ik,2,Z⟩) Aj).trans cn,(ak.cell (p:=⟨ik,3,Z⟩) Aj).trans c0,(ak.cell (p:=⟨ik,4,Z⟩) Aj).trans c3⟩,h⟩);have gN:Hz (∀ W,H a6 a6 W→∀ aT aU aX a2 d7:C,((((((W.setCell ⟨w,0,Z⟩ aT).setCell ⟨w,1,Z⟩ aU).setCell ⟨w,2,Z⟩ aX).setCell ⟨w,3,Z⟩ a2).setCell ⟨w,4,Z⟩ d7).cell? ⟨ik,0,Z⟩=N (I U 4)∧(((((W.setCell ⟨w,0,Z⟩ aT).setCell ⟨w,1,Z⟩ aU).setCell ⟨w,2,Z⟩ aX).setCell ⟨w,3,Z⟩ a2).setCell ⟨w,4,Z⟩ d7).cell? ⟨ik,1,Z⟩=N (I U 0)∧(((((W.setCell ⟨w,0,Z⟩ aT).setCell ⟨w,1,Z⟩ aU).setCell ⟨w,2,Z⟩ aX).setCell ⟨w,3,Z⟩ a2).setCell ⟨w,4,Z⟩ d7).cell? ⟨ik,2,Z⟩=N (V J)∧(((((W.setCell ⟨w,0,Z⟩ aT).setCell ⟨w,1,Z⟩ aU).setCell ⟨w,2,Z⟩ aX).setCell ⟨w,3,Z⟩ a2).setCell ⟨w,4,Z⟩ d7).cell? ⟨ik,3,Z⟩=N (Q ⟨#[]⟩)∧(((((W.setCell ⟨w,0,Z⟩ aT).setCell ⟨w,1,Z⟩ aU).setCell ⟨w,2,Z⟩ aX).setCell ⟨w,3,Z⟩ a2).setCell ⟨w,4,Z⟩ d7).cell? ⟨ik,4,Z⟩=N (D ci l.length c9))∧((((((W.setCell ⟨w,0,Z⟩ aT).setCell ⟨w,1,Z⟩ aU).setCell ⟨w,2,Z⟩ aX).setCell ⟨w,3,Z⟩ a2).setCell ⟨w,4,Z⟩ d7).cell? ⟨g,5,Z⟩=N (I U oC)∧(((((W.setCell ⟨w,0,Z⟩ aT).setCell ⟨w,1,Z⟩ aU).setCell ⟨w,2,Z⟩ aX).setCell ⟨w,3,Z⟩ a2).setCell ⟨w,4,Z⟩ d7).cell? ⟨g,6,Z⟩=N (I U bD)∧(((((W.setCell ⟨w,0,Z⟩ aT).setCell ⟨w,1,Z⟩ aU).setCell ⟨w,2,Z⟩ aX).setCell ⟨w,3,Z⟩ a2).setCell ⟨w,4,Z⟩ d7).cell? ⟨g,7,Z⟩=N (V cL)∧(((((W.setCell ⟨w,0,Z⟩ aT).setCell ⟨w,1,Z⟩ aU).setCell ⟨w,2,Z⟩ aX).setCell ⟨w,3,Z⟩ a2).setCell ⟨w,4,Z⟩ d7).cell? ⟨g,8,Z⟩=N (Q ⟨bb.toArray⟩)∧(((((W.setCell ⟨w,0,Z⟩ aT).setCell ⟨w,1,Z⟩ aU).setCell ⟨w,2,Z⟩ aX).setCell ⟨w,3,Z⟩ a2).setCell ⟨w,4,Z⟩ d7).cell? ⟨g,9,Z⟩=N (D dA bx.length aM))):=hD (fun W ak aT aU aX a2 d7=>by have h:=eA.o W ak;have e:∀ b o,b≠w.heap.size→(((((W.setCell ⟨w,0,Z⟩ aT).setCell ⟨w,1,Z⟩ aU).setCell ⟨w,2,Z⟩ aX).setCell ⟨w,3,Z⟩ a2).setCell ⟨w,4,Z⟩ d7).cell? ⟨b,o,Z⟩=W.cell? ⟨b,o,Z⟩:=fun b o ak=>ue6 (ke3 W w b ak aT aU aX a2 d7);obtain ⟨⟨a0,aY,bh,a3,a4⟩,dt,cL,fH,g6,u0⟩:=h;exact ⟨⟨(e ik _ Ak).trans a0,(e ik _ Ak).trans aY,(e ik _ Ak).trans bh,(e ik _ Ak).trans a3,(e ik _ Ak).trans a4⟩,(e g _ oM).trans dt,(e g _ oM).trans cL,(e g _ oM).trans fH,(e g _ oM).trans g6,(e g _ oM).trans u0⟩);have hw3l:w.heap.size<a6.heap.size:=oM;clear cl rf jz b3 qt tX pc qn;go_upto_region 20 with (fail);rw[←ea.o,←xD.o];go_upto_region 24 with (fail);clear ea xD;refine ue4 ?_;refine ud6 (S:=(fun w'=>(w'.cell? ⟨ik,0,Z⟩=N (I U 4)∧w'.cell? ⟨ik,1,Z⟩=N (I U 0)∧w'.cell? ⟨ik,2,Z⟩=N (V J)∧w'.cell? ⟨ik,3,Z⟩=N (Q ⟨#[]⟩)∧w'.cell? ⟨ik,4,Z⟩=N (D ci l.length c9))∧(w'.cell? ⟨g,5,Z⟩=N (I U oC)∧w'.cell? ⟨g,6,Z⟩=N (I U bD)∧w'.cell? ⟨g,7,Z⟩=N (V cL)∧w'.cell? ⟨g,8,Z⟩=N (Q ⟨bb.toArray⟩)∧w'.cell? ⟨g,9,Z⟩=N (D dA bx.length aM)))) kR (eA.o _ (ub5 _ _).drew) (fun ay=>?_);refine tk 0 ay ?_;refine tk 1 ay ?_;refine tk 2 ay ?_;refine tk 3 ay ?_;refine tkO 4 (fun aR aJ=>?_);go_simp;have bv:H a6 a6 ((a6.alloc (y #[I .i64 4,I U 0,V J,Q ⟨#[]⟩,D ci l.length c9,I U oC,I U bD,V cL,Q ⟨bb.toArray⟩,D dA bx.length aM] 40)).drew):=(kat a6 _).drew;have hN:Blk ((a6.alloc (y #[I .i64 4,I U 0,V J,Q ⟨#[]⟩,D ci l.length c9,I U oC,I U bD,V cL,Q ⟨bb.toArray⟩,D dA bx.length aM] 40)).drew) a6.heap.size 40 #[I .i64 4,I U 0,V J,Q ⟨#[]⟩,D ci l.length c9,I U oC,I U bD,V cL,Q ⟨bb.toArray⟩,D dA bx.length aM]:=(Blk.new a6 _ _).drew;obtain ⟨aK,e3⟩:=xE ((a6.alloc (y #[I .i64 4,I U 0,V J,Q ⟨#[]⟩,D ci l.length c9,I U oC,I U bD,V cL,Q ⟨bb.toArray⟩,D dA bx.length aM] 40)).drew);rw[←e3] at bv hN ⊢|obtain ⟨aK,e3⟩:=xE (a6.alloc (y #[I .i64 4,I U 0,V J,Q ⟨#[]⟩,D ci l.length c9] 40));have hN:=bM e3;have bv:=bA e3;have k3:=hD e3);have cA:=bT bU bv;have ih:=hD (fX.o.below bv fX.o.lt);have UK:w.heap.size<aK.heap.size:=by have:=bv.size;omega
  first
  |guard_hyp so
   have gl:ArV aK (fun i=>F i∨aq.heap.size≤i) a6.heap.size [Ev.Va.sps l,dX]:=fun k v au=>by
    have aw:k<2:=(gH au).1;refine ⟨hN.lt,?_⟩;rcases ug1 k 1 with h|h
    .obtain rfl:k=0:=oM;injection au with au;subst au;refine ⟨ci,c9,fun j u aI=>?_,EB.o,(UJ.o.below bv (G:=fun i=>F i∨aq.heap.size≤i) (fun i hi=>hi))⟩;rw[show 0*5+j=j by omega,hN.cell];have aS:j<5:=(gH aI).1;have Bp:j=0∨j=1∨j=2∨j=3∨j=4:=oM;rcases Bp with rfl|rfl|rfl|rfl|rfl <;> exact aI
    .obtain rfl:k=1:=oM;injection au with au;subst au;refine ⟨dA,aM,fun j u aI=>?_,n9.o,(L5.o aK (cA.o))⟩;rw[hN.cell];have g5:([I .i64 oC,I U bD,V cL,Q ⟨bb.toArray⟩,D dA bx.length aM]:List C)[j]? =N u:=(by rw[←C8.o];exact aI);have aS:j<5:=(gH g5).1;have Bp:j=0∨j=1∨j=2∨j=3∨j=4:=oM;rcases Bp with rfl|rfl|rfl|rfl|rfl <;> exact g5
   have pJ := hD (kkS Oz.mbq 2 (by decide) [Ev.Va.sps l, dX] (uf1 2) a6.heap.size 2 env Fi aK (fun i => (F i ∨ aq.heap.size ≤ i) ∧ i < aK.heap.size) (fun i hi => hi.2) hN.lt (fun k v au => by
    obtain ⟨af, A, c, ao, av, bk⟩ := gl k v au
    exact ⟨af, A, c, ao, av, bk.keep (fun _ _ _ => rfl) (nR) (fun i hi az => ⟨hi, az⟩)⟩) (fun v au => by
     rcases uc7.1 au with h | h
     ·
      rw [h]; exact ⟨kV.o.1, kV.o.2.1⟩
     ·
      rw [ug5.1 h]; exact Al.o) (fun v au => by
     rcases uc7.1 au with h | h
     ·
      rw [h]; exact kV.o.2.2
     ·
      rw [ug5.1 h]; exact yt.o))
   have rk:=And.intro (eA.o aK bv).1 (eA.o aK bv).2;have xy:=hD bv;have ey:es=Ev.call (X57 env Fi) Oz.mbq [Ev.Va.sps l,dX]:=fz.o;rw[←ey] at pJ;clear bv hN e3 gl ey;refine aJ.out _ _ rk ?_;clear aJ aR;(try simp only[Act.put,gE,gF,gG]);refine tkO 5 (fun aR aJ=>?_);go_simp;go_at_call 83;refine pJ.o.mono ?_
  |have a8:=hD (krY a6 1 1 (uf1 1) ci l c9 aK (fun _=>False) hN.lt (hN.cell 4));have ey:es=Ev.mah l.length:=fz.o;rw[←ey] at a8;clear ey fz;clear cl rf e3 jz hN b3 bv qt tX pc;go_upto_region 20 with (fail);rw[←ea.o,←xD.o];obtain ⟨v0,dX,eb,v3,v4, -⟩:=kak jr.o;go_wp2_with fail;rw[←k3.o];clear ea k3 xD v0 dX eb v3 v4;refine a8.o.mono ?_
  rintro cG c7 ⟨ck,j3,rfl,cF⟩;(first|guard_hyp so;obtain ⟨cy,cv,cr,t9,C4,bX,C6,dM,ff,rfl⟩:=cF.form|obtain ⟨cy,cv,cr,t9,ci,bX,c9,dM,ff,rfl⟩:=cF.form);have dm:=ih.o.below ck ih.o.lt;obtain ⟨z0,ca,cI,z3,z4,k0,k1,bS,fp,gy⟩:=kak dm;(first|guard_hyp so;have cW:=hD (kb1 dm (I U cy) (I U cv) (V cr) (Q t9) (D C4 bX C6));have di:=hD (kaR (F:=F) cA.o oM ck cF (fun i hi=>hi.1.elim (fun h=>⟨by have:=BD.o i h;omega, .inl h⟩) (fun h=>⟨oM, .inr oM⟩)) (I U cy) (I U cv) (V cr) (Q t9) (D C4 bX C6));have C7:H a6 a6 c7:=xy.o.trans (ck.mono xy.o.size);have fq:=And.intro (eA.o c7 C7).1 (eA.o c7 C7).2;have iH:=gN.o c7 C7 (I U cy) (I U cv) (V cr) (Q t9) (D C4 bX C6);clear ck cF dm C7;refine aJ.out _ _ fq ?_;clear aJ aR;(try simp only[Act.put,gE,gF,gG]);refine tk 6 fq ?_;refine tk 7 fq ?_;refine tk 8 fq ?_;refine tkO 9 (fun aR aJ=>?_);go_simp;refine aJ.out _ _ iH ?_;clear aJ aR;(try simp only[Act.put,gE,gF,gG]);refine tkO 10 (fun aR aJ=>?_);go_simp;refine aJ.out _ _ iH ?_;clear aJ aR;(try simp only[Act.put,gE,gF,gG]);refine tkO 11 (fun aR aJ=>?_);go_simp;refine aJ.out _ _ iH ?_;clear aJ aR;(try simp only[Act.put,gE,gF,gG]);refine ug7 kR ?_ _;refine uf0 ?_;(try simp only[Act.put,gE,gF,gG])|have cW:=hD (kb1 dm (I U cy) (I U cv) (V cr) (Q t9) (D ci bX c9));have di:=hD (kaR (F:=F) cA.o oM ck cF (fun _ h=>h.elim) (I U cy) (I U cv) (V cr) (Q t9) (D ci bX c9));clear ck cF dm);go_wp2_with fail;obtain ⟨bi,aW,bc,br,bL, -⟩:=kak cW.o;(first|guard_hyp so;refine ub2 (v:=ag #[aa #[I .i64 cy,I U cv,V cr,Q t9,D C4 bX C6],I U dM,V ff]) (by simp[results,results45,go_sem,bi,aW,bc,br,bL]) rfl ?_|refine ub2 (v:=ag #[aa #[I .i64 cy,I U cv,V cr,Q t9,D ci bX c9],I U dM,V ff]) (by simp[results,results45,go_sem,bi,aW,bc,br,bL]) rfl ?_);exact di.o
 |obtain ⟨aK,e3⟩:=xE (a6.alloc (y #[I .i64 oC,I U bD,V cL,Q ⟨bb.toArray⟩,D ci bx.length c9] 40));have hN:=bM e3;have bv:=bA e3;have k3:=hD e3;have cA:=bT bU bv;have ih:=hD (fX.o.below bv fX.o.lt);have UK:w.heap.size<aK.heap.size:=(by have:=bv.size;omega);have a8:Hz (L prog 83 #[Q ⟨#[108,101,110]⟩,D (N ⟨a6,0,Z⟩) 1 1] aK (kao aK (fun _=>False) es)):=hD (by rw[show es=Ev.mah v.t.length from fz.o,←C9.o];exact krZ a6 1 1 (uf1 1) bb aK (fun _=>False) hN.lt (hN.cell 3));clear cl rf e3 jz hN b3 bv qt;go_upto_region 27 with (fail);rw[←ea.o,←xD.o];obtain ⟨v0,dX,eb,v3,v4, -⟩:=kak jr.o;go_wp2_with fail;rw[←k3.o];clear ea k3 xD v0 dX eb v3 v4;refine a8.o.mono ?_;rintro cG c7 ⟨ck,j3,rfl,cF⟩;obtain ⟨cy,cv,cr,t9,nl,bX,sf,dM,ff,rfl⟩:=cF.form;have dm:=ih.o.below ck ih.o.lt;obtain ⟨z0,ca,cI,z3,z4,k0,k1,bS,fp,gy⟩:=kak dm;have cW:=hD (kb1 dm (I U cy) (I U cv) (V cr) (Q t9) (D nl bX sf));have di:=hD (kaR (F:=F) cA.o oM ck cF (fun _ h=>h.elim) (I U cy) (I U cv) (V cr) (Q t9) (D nl bX sf));clear ck cF dm;go_wp2_with fail;obtain ⟨bi,aW,bc,br,bL, -⟩:=kak cW.o;refine ub2 (v:=ag #[aa #[I .i64 cy,I U cv,V cr,Q t9,D nl bX sf],I U dM,V ff]) (by simp[results,results45,go_sem,bi,aW,bc,br,bL]) rfl ?_;exact di.o):=h
def yq3 (h:P:=by (first|guard_hyp so;obtain ⟨oC,qc⟩:=xE (kbe dX);obtain ⟨bD,e2⟩:=xE dX.n;obtain ⟨cL,cm⟩:=xE dX.b;obtain ⟨bb,dy⟩:=xE dX.t;obtain ⟨bx,ew⟩:=xE dX.l;have C8:Hz (VaC dA aM dX=[I .i64 oC,I U bD,V cL,Q ⟨bb.toArray⟩,D dA bx.length aM]):=hD (by rw[qc,e2,cm,dy,ew];rfl);rw[C8.o] at jy;have iw:=hD e2;have q7:=hD ew;have bu:=jy 0 _ rfl;have bY:=jy 1 _ rfl;have cP:=jy 2 _ rfl;have c8:=jy 3 _ rfl;have dj:=jy 4 _ rfl;have qn:Hz (∀ W,H w w W→W.cell? ⟨g,5,Z⟩=N (I U oC)∧W.cell? ⟨g,6,Z⟩=N (I U bD)∧W.cell? ⟨g,7,Z⟩=N (V cL)∧W.cell? ⟨g,8,Z⟩=N (Q ⟨bb.toArray⟩)∧W.cell? ⟨g,9,Z⟩=N (D dA bx.length aM)):=hD (fun W ak=>⟨(ak.cell (p:=⟨g,5,Z⟩) hg).trans bu,(ak.cell (p:=⟨g,6,Z⟩) hg).trans bY,(ak.cell (p:=⟨g,7,Z⟩) hg).trans cP,(ak.cell (p:=⟨g,8,Z⟩) hg).trans c8,(ak.cell (p:=⟨g,9,Z⟩) hg).trans dj⟩);obtain ⟨n9,L5,Al,yt,BD⟩:=hd5 i1 (fun W (ak:H w w W)=>mM.below ak (G:=fun i=>F i∨w.heap.size+1≤i) (fun i hi=> .inl hi)) ii mp hF;have bE:(1:Int)<(bt:Int):=oM;have q1n:1<bt:=oM;clear qc e2 cm dy ew jy bu bY cP c8 dj i1 mM ii mp hF|skip);exact kcR):=h
theorem ksm {lg:Nat→Int} {len:Nat} (az:∀ p,p≤len→lg p≤1152921504606846976) (dz:len≤1152921504606846976):∀(f p:Nat),SmL (Ev.mbj lg len f p)
 |0,_=>fun x aA=>by cases aA
 |f+1,p=>by
  rw[Ev.mbj];split
  .exact fun x aA=>by cases aA
  .rename_i a n bf;have af:=kfQ bf;have ao:=kjH bf;have av:=az a af.2.1;intro x aA;rcases uc7.1 aA with h|h
   .rw[h];dsimp only;omega
   .exact ksm az dz f _ x h
def kdj {p t:List UInt8} {l:List (Int×Int)} (h:F57 p t= .ok l):kbo l∧l.length≤4096∧SmL l:=by
 unfold F57 at h;split at h
 .cases h
 .rename_i r am;split at h
  .cases h
  split at h
  .cases h
  .rename_i aB;injection h with h;subst h;unfold kfe;refine ⟨ksl _ _,uc9 (ksn _ _) oM,ksm (fun q bj=>?_) oM _ _⟩;have:=kjT r t q bj;omega
def kCA (num:Int) (text:List UInt8) (g bt bP:Nat) (fF:Option ae) (M gb:Nat) (t0:List UInt8) (w:O) (F:Nat→Prop) (cj:1≤bt) (hg:g<w.heap.size) (aD:w.cell? ⟨g,3,Z⟩=N (Q ⟨t0.toArray⟩)) (dY:NoneAt w) (aB:text.length≤4611686018427387904) (cE:t0.length≤9223372036854775807):
 L prog 45 #[Q ⟨#[109,97,116,99,104,101,115]⟩,I U num,Q ⟨text.toArray⟩,D (N ⟨g,0,Z⟩) bt bP,D fF M gb] w (kao w F ((F57 text t0).bind fun l=>Ev.mbl l)):=by
 exact yq3
def kCE (num:Int) (text:List UInt8) (g bt bP:Nat) (fF:Option ae) (M gb:Nat) (dX:Ev.Va) (dA:Option ae) (aM:Nat) (env:List (List UInt8×List UInt8)) (Fi:Ev.Fi) (t0:List UInt8) (w:O) (F:Nat→Prop) (cj:2≤bt) (hg:g<w.heap.size) (aD:w.cell? ⟨g,3,Z⟩=N (Q ⟨t0.toArray⟩)) (dY:NoneAt w) (aB:text.length≤4611686018427387904) (cE:t0.length≤9223372036854775807) (hF:∀ i,F i→i<w.heap.size) (jy:∀ j u,(VaC dA aM dX)[j]? =N u→w.cell? ⟨g,1*5+j,Z⟩=N u) (i1:dX.l.length≤aM) (mM:SpV w F dA dX.l) (ii:kaD (X57 env Fi) dX) (mp:SmV dX):
 L prog 45 #[Q ⟨#[102,105,114,115,116,102,105,110,100]⟩,I U num,Q ⟨text.toArray⟩,D (N ⟨g,0,Z⟩) bt bP,D fF M gb] w (kao w F ((F57 text t0).bind fun l=>Ev.ma3 l dX.n)):=by
 have so:=();exact yq3
theorem kCB (num:Int) (text:List UInt8) (g bt bP:Nat) (fF:Option ae) (M gb:Nat) (env:List (List UInt8×List UInt8)) (Fi:Ev.Fi) (r:Ev.Re Ev.Va) (w:O) (F:Nat→Prop) (hF:∀ i,F i→i<w.heap.size) (an:∀ W,H w w W→L prog 83 #[Q ⟨#[99,117,116]⟩,D (N ⟨g,0,Z⟩) bt bP] W (kao W F r)):
 L prog 45 #[Q ⟨#[108,101,110,99,117,116]⟩,I U num,Q ⟨text.toArray⟩,D (N ⟨g,0,Z⟩) bt bP,D fF M gb] w (kao w F (r.bind fun v=>Ev.mah v.t.length)):=by
 obtain ⟨aq,aQ⟩:=xE (w.alloc (y #[I .i64 0,I U 0,V J,Q ⟨#[]⟩,D Z 0 0] 40));have j0:=bM aQ;have c4:=bA aQ;have fy:=wS aQ;obtain ⟨dv,a7,cd⟩:=hd3 j0 c4 aQ;clear j0 c4 aQ;have a8:=hD (an aq a7.o);obtain ⟨es,bK⟩:=xE (r.bind fun v=>Ev.mah v.t.length);rw[←bK];have fz:=hD bK;clear an hF bK;go_enter func45,ntmps45;go_upto_region 1 with (fail);rw[←cd.o];clear cd;go_wp2_with fail;refine a8.o.mono ?_;rintro cG aF ⟨bs,j3,rfl,kA⟩;have bo:=bT a7 bs;have gt:=hD (dv.o.below bs dv.o.lt);have Tr:aq.heap.size≤aF.heap.size:=bs.size;clear bs a8
 cases r with
 |error e=>
  cases e with
  |some kk=>exact klZ
  |none=>exact klY
 |ok v=>obtain ⟨cs,⟨ci,c9,rfl,pc,tX⟩,rfl⟩:=kA;obtain ⟨oC,qc⟩:=xE (kbe v);obtain ⟨bD,e2⟩:=xE v.n;obtain ⟨cL,cm⟩:=xE v.b;obtain ⟨bb,dy⟩:=xE v.t;obtain ⟨bx,ew⟩:=xE v.l;rw[show VaC ci c9 v=[I .i64 oC,I U bD,V cL,Q ⟨bb.toArray⟩,D ci bx.length c9] by rw[qc,e2,cm,dy,ew];rfl];have C9:=hD dy;clear qc e2 cm dy ew tX pc;obtain ⟨a6,cl⟩:=xE (aF.alloc (y #[I .i64 oC,I U bD,V cL,Q ⟨bb.toArray⟩,D ci bx.length c9] 40));exact knt
def koG:List (List UInt8×Nat):=sigT.map fun x=>(x.1,(x.2.1.filter fun t=>decide (t≠0)).length)
theorem koF {n:List UInt8} {q:List Int×Int} :∀ {bl:List (List UInt8×List Int×Int)},kaB n bl=N q→(n,q.1,q.2)∈bl
 |[],h=>by cases h
 |(m,a,r)::bl,h=>by
  rw[kaB] at h;split at h
  .rename_i aG;injection h with h;subst h;rw[aG];exact uf3 ..
  .exact uf6 _ (koF h)
def kuO:∀ x∈koG,x∈kfb∨x=(kb5,1)∨x=(kb4,1)∨x=(kbT,1):=by decide+kernel
def kBY:∀ x∈kfb,∀ c∈khL,x.1≠c:=by decide+kernel
theorem kv2 {n:List UInt8} {o:OpI} (h:opR n=N o):n=kac∨n=kaF∨n=kdy∨(n=kbN∧o.args.length=1)∨(n=kbk∧o.args.length=2)∨(n=kbS∧o.args.length=3)∨((n=kb5∨n=kb4∨n=kbT)∧o.args.length=1)∨(n,o.args.length)∈kfb:=by
 unfold opR at h;split at h
 .rename_i af;exact .inl af
 split at h
 .rename_i af;exact af.elim (fun h=> .inr (.inl h)) (fun h=> .inr (.inr (.inl h)))
 split at h
 .rename_i af;injection h with h;subst h;exact .inr (.inr (.inr (.inl ⟨af,rfl⟩)))
 split at h
 .rename_i af;injection h with h;subst h;exact .inr (.inr (.inr (.inr (.inl ⟨af,rfl⟩))))
 split at h
 .rename_i af;injection h with h;subst h;exact .inr (.inr (.inr (.inr (.inr (.inl ⟨af,rfl⟩)))))
 cases al:sig n with
 |none=>rw[al] at h;cases h
 |some q=>
  rw[al] at h;injection h with h;subst h;have bg:=koF al;have aE:(n,(opS q).args.length)∈koG:=uh8.2 ⟨_,bg,rfl⟩;rcases kuO _ aE with af|af|af|af
  .exact .inr (.inr (.inr (.inr (.inr (.inr (.inr af))))))
  .exact .inr (.inr (.inr (.inr (.inr (.inr (.inl ⟨.inl (uq6 af).1,(uq6 af).2⟩))))))
  .exact .inr (.inr (.inr (.inr (.inr (.inr (.inl ⟨.inr (.inl (uq6 af).1),(uq6 af).2⟩))))))
  .exact .inr (.inr (.inr (.inr (.inr (.inr (.inl ⟨.inr (.inr (uq6 af).1),(uq6 af).2⟩))))))
def kCH {X:Ev.Cx} {s:St} {vs:List Ev.Va} (h:∀ c∈khL,s.op≠c):Ev.app X s vs=Ev.call X s.op vs:=by have e:=fun c (an:c∈khL)=>h c an;unfold Ev.app;rw[ua0 (e kac dC),ua0 (e kaF dC),ua0 (e kdy dC),ua0 (e kb5 dC),ua0 (e kb4 dC),ua0 (e kbT dC),ua0 (e kbN dC),ua0 (e kbk dC),ua0 (e kbS dC)]
def kCI (s:St) (o:OpI) (bf:opR s.op=N o) (vs:List Ev.Va) (az:vs.length=o.args.length) (dF:Option ae) (bP g:Nat) (fF:Option ae) (gb:Nat) (env:List (List UInt8×List UInt8)) (w:O) (F:Nat→Prop) (hF:∀ i,F i→i<w.heap.size)
 (hg:0<vs.length→dF=N ⟨g,0,Z⟩∧g<w.heap.size∧ArV w F g vs) (aG:EnvAt w fF env) (hA:env.length≤100) (qR:∀ x∈env,x.2.length≤9223372036854775807) (dY:NoneAt w) (aB:s.text.length≤4611686018427387904) (ii:∀ v∈vs,kaD (X57 env F57) v) (mp:∀ v∈vs,SmV v):
 L prog 45 #[Q ⟨s.op.toArray⟩,I U s.num,Q ⟨s.text.toArray⟩,D dF vs.length bP,D fF env.length gb] w (kao w F (Ev.app (X57 env F57) s vs)):=by
 obtain ⟨op,args,num,text,ty⟩:=s;dsimp only at bf aB ⊢;have t0:(Ev.v0 vs 0).t.length≤3000:=kc0 (kct ii 0);have Am:(Ev.v0 vs 0).t.length≤9223372036854775807:=uc9 t0 dC;rcases kv2 bf with h|h|h|⟨h,aE⟩|⟨h,aE⟩|⟨h,aE⟩|⟨h,aE⟩|h
 .subst h;rw[show Ev.app (X57 env F57) ⟨kac,args,num,text,ty⟩ vs=Ev.mah num from rfl];exact kCy num text dF vs.length bP fF env.length gb w F
 .subst h;rw[show Ev.app (X57 env F57) ⟨kaF,args,num,text,ty⟩ vs=Ev.maG (X57 env F57) text from rfl];exact kCv num text dF vs.length bP fF env.length gb env F57 w F oM
 .subst h;rw[show Ev.app (X57 env F57) ⟨kdy,args,num,text,ty⟩ vs=kjt (X57 env F57) text from rfl];exact kCx num text dF vs.length bP fF gb env F57 w F aG hA qR
 .subst h;obtain ⟨rfl,ef,gl⟩:=hg oM;obtain ⟨fB,aN,eP,nn,hU, -⟩:=gl.c5 0 oM;rw[show Ev.app (X57 env F57) ⟨kbN,args,num,text,ty⟩ vs=((F57 text (Ev.v0 vs 0).t).bind fun l=>Ev.mbl l) from rfl];exact kCA num text g vs.length bP fF env.length gb (Ev.v0 vs 0).t w F oM ef eP.2.2.1 dY aB Am
 .subst h;obtain ⟨rfl,ef,gl⟩:=hg oM;obtain ⟨fB,aN,eP,nn,hU, -⟩:=gl.c5 0 oM;have jy:vs[1]? =N (Ev.v0 vs 1):=(by unfold Ev.v0;rw[ub6,ua3 oM];rfl);obtain ⟨-,dA,aM,af,ao,av⟩:=gl 1 _ jy;rw[show Ev.app (X57 env F57) ⟨kbk,args,num,text,ty⟩ vs=((F57 text (Ev.v0 vs 0).t).bind fun l=>Ev.ma3 l (Ev.v0 vs 1).n) from rfl];exact kCE num text g vs.length bP fF env.length gb (Ev.v0 vs 1) dA aM env F57 (Ev.v0 vs 0).t w F oM ef eP.2.2.1 dY aB Am hF af ao av (kct ii 1) (kfA mp 1)
 .subst h;obtain ⟨rfl,ef,gl⟩:=hg oM;rw[show Ev.app (X57 env F57) ⟨kbS,args,num,text,ty⟩ vs=((Ev.cutV (X57 env F57) (Ev.v0 vs 0).t (Ev.v0 vs 1).n (Ev.v0 vs 2).n).bind fun v=>Ev.mah v.t.length) from rfl];refine kCB num text g vs.length bP fF env.length gb env F57 _ w F hF (fun W ak=>?_);have an:=kkS Oz.ma4 3 dC vs oM g bP env F57 W F (fun i hi=>ua7 (hF i hi) ak.size) (ua7 ef ak.size) (gl.below ak (fun _ h=>h)) ii mp;rw[show Ev.call (X57 env F57) Oz.ma4 vs=Ev.cutV (X57 env F57) (Ev.v0 vs 0).t (Ev.v0 vs 1).n (Ev.v0 vs 2).n from rfl] at an;exact an
 .obtain ⟨rfl,ef,gl⟩:=hg oM;obtain ⟨fB,aN,eP,nn,hU, -⟩:=gl.c5 0 oM;rcases h with h|h|h
  .subst h;rw[show Ev.app (X57 env F57) ⟨kb5,args,num,text,ty⟩ vs=kce kb5 (F57 text (Ev.v0 vs 0).t) from rfl];exact kCG num text g vs.length bP fF env.length gb (Ev.v0 vs 0).t w F oM ef eP.2.2.1 dY aB Am
  .subst h;rw[show Ev.app (X57 env F57) ⟨kb4,args,num,text,ty⟩ vs=kce kb4 (F57 text (Ev.v0 vs 0).t) from rfl];exact kCC num text g vs.length bP fF env.length gb (Ev.v0 vs 0).t w F oM ef eP.2.2.1 dY aB Am
  .subst h;rw[show Ev.app (X57 env F57) ⟨kbT,args,num,text,ty⟩ vs=kce kbT (F57 text (Ev.v0 vs 0).t) from rfl];exact kCF num text g vs.length bP fF env.length gb (Ev.v0 vs 0).t w F oM ef eP.2.2.1 dY aB Am
 .have ch:=kBY _ h;have hm:∀ x∈kfb,0<x.2:=(by decide+kernel);have aO:=hm _ h;dsimp only at aO ch;obtain ⟨rfl,ef,gl⟩:=hg oM;rw[kCH (s:=⟨op,args,num,text,ty⟩) ch];exact kCD op ch num text g vs.length bP fF env.length gb w F _ hF (fun W ak=>kkS op _ h vs oM g bP env F57 W F (fun i hi=>ua7 (hF i hi) ak.size) (ua7 ef ak.size) (gl.below ak (fun _ h=>h)) ii mp)
def kl6 (h:P:=by
 clear aJ aR;(try simp only[Act.put,ub4,ua8,ua9,gE,gF,gG]);refine ug7 kR ?_ _;refine uf0 ?_;try simp only[Act.put,ub4,ua8,ua9,gE,gF,gG]
 first
 |guard_hyp SA;rw[←zJ.o];clear pd xd xe zJ;go_wp2_with fail;go_meet
  case rel=>exact ⟨c7.heap.size,cy,cv,cr,t9,ci,bX,c9,dM,ff,rfl,rfl,rfl,Kq,de,di,sh⟩
 |rw[←zJ.o];clear pd xe zJ xd z0 ca cI z3 z4 k0 k1 bS fp gy;go_wp2_with fail;go_meet
  case rel=>exact ⟨wr.heap.size,cy,cv,cr,t9,ci,bX,c9,dM,ff,rfl,rfl,rfl,An,de,di,sh⟩):=h
def kyw:(prog.info? 40).map (fun i=>(i.zero,i.size,i.bytes))=N (N (aa #[I .i64 0,I U 0,V J,Q ⟨#[]⟩,D Z 0 0]),5,64):=kR
def kdG (s:St) (d:List Ev.Va):List Ev.Va:=s.args.map fun a=>d.getD a.toNat (.num 0)
def kCh (s:St) (d:List Ev.Va):(kdG s d).length=s.args.length:=by unfold kdG;rw[ui9]
theorem ksd {s:St} {d:List Ev.Va} {p:Ev.Va→Prop} (h:∀ v∈d,p v) (aD:p (.num 0)):∀ v∈kdG s d,p v:=by
 intro v au;unfold kdG at au;obtain ⟨a, -,rfl⟩:=uh8.1 au;rw[ub6]
 cases aw:d[a.toNat]? with
 |none=>exact aD
 |some u=>exact h u (ua4 aw)
def kCi {s:St} {d:List Ev.Va} {j q:Nat} (h:s.args[j]? =N (q:Int)) (bj:q<d.length):∃ v,(kdG s d)[j]? =N v∧d[q]? =N v:=by refine ⟨d[q],?_,ua3 bj⟩;unfold kdG;rw[ub9,h];show N (d.getD (q:Int).toNat (.num 0))=_;rw[ub7,ub6,ua3 bj];rfl
def ktI {α:Type} {l:List α} {k:Nat} {x:α} (h:l[k]? =N x):l.take (k+1)=l.take k++[x]:=by rw[ue0,h];rfl
def koW (l:List St) (A:Option ae) (c:Nat) (env:List (List UInt8×List UInt8)) (fF:Option ae) (gb:Nat) (w:O) (h:ArgPl w A l) (an:kaf l=0) (aG:EnvAt w fF env) (hA:env.length≤100) (qR:∀ x∈env,x.2.length≤9223372036854775807) (dY:NoneAt w) (mV:∀ s∈l,s.text.length≤4611686018427387904):
 L prog 15 #[D A l.length c,D fF env.length gb] w (kao w (fun _=>False) (Ev.run (X57 env F57) l)):=by
 have dz:=(kfa an).2.1;have hlen2:l.length≤100000:=oM;obtain ⟨E2,iX,UL⟩:=hd3 h an mV;obtain ⟨es,bK⟩:=xE (Ev.run (X57 env F57) l);rw[←bK];have fz:=hD bK;obtain ⟨aq,aQ⟩:=xE (w.alloc (y #[I .i64 0,I U 0,V J,Q ⟨#[]⟩,D Z 0 0] 40));have j0:=bM aQ;have c4:=bA aQ;have fy:=wS aQ;obtain ⟨dv,a7,cd⟩:=hd3 j0 c4 aQ;clear j0 c4 aQ;obtain ⟨yn,m4,od⟩:=hd3 aG qR dY;obtain ⟨eX,cM,hi0,hi1,hi2⟩:=ug6 kyw;obtain ⟨dc,jP,jQ,jR⟩:=hd4 cM hi0 hi1 hi2;have jb:w.heap.size<aq.heap.size:=oM;obtain ⟨jJ,c4⟩:=xE aq.heap.size;have ev:=hD c4;have tm:w.heap.size<jJ:=oM;clear h an mV bK aG qR dY cM hi0 hi1 hi2 dz fy c4 jb;go_enter func15,ntmps15;go_upto_region 1 with (fail);rw[←cd.o];clear cd;go_wp2_with fail;go_loopg [7,17] (l.length+1) (fun f X8 nW wr=>∃(d:List Ev.Va) (l8:Option ae) (km:Nat) (cs:List C),nW=I U d.length∧X8=D l8 d.length km∧d.length≤l.length∧l.length<d.length+f∧Hz (Ev.maf (X57 env F57) [] (l.take d.length)= .ok d)∧Hz (∀ v∈d,kaD (X57 env F57) v∧SmV v)∧Hz (wr.ownsRow jJ 40 5 (D l8 d.length km) d.length cs)∧Hz (VaVs wr (ka8 jJ wr (D l8 d.length km)) d cs)∧Hz (H jJ aq wr))
 case atStart=>exact ⟨[],Z,0,[],rfl,rfl,ud1 _,by simp,hD rfl,hD (fun v au=>by cases au),hD ⟨rfl, .inl ⟨rfl,rfl⟩⟩,hD rfl,hD (ub5 _ _)⟩
 case round=>
  obtain ⟨d,l8,km,cs,rfl,rfl,ky,UM,cC,Al,xF,Hb,aV⟩:=hrel;obtain ⟨f,rfl⟩:=xS gk;obtain ⟨vE,E9⟩:=xE wr;subst E9;have ep:=hD (a7.o.trans (aV.o.mono (by rw[ev.o];exact a7.o.size)));by_cases bG:d.length<l.length
  .obtain ⟨s,al⟩:∃ s,l[d.length]? =N s:=⟨_,ua3 bG⟩;obtain ⟨o,L6⟩:=kej iX.o al;obtain ⟨b,eO,c6,aab,rfl,dR,aN,aM,aZ,bC, -,dx⟩:=E2.o d.length s al;have bu:=(ep.o.cell (p:=⟨b,eO+d.length*5,Z⟩) dR).trans aN;have bY:=(ep.o.cell (p:=⟨b,eO+d.length*5+1,Z⟩) dR).trans aM;have b7:=hD al;have Hc:=hD L6;have dL:s.args.length≤3:=(kck iX.o s (ua4 al)).1;have fQ:=hD dx;have L7:Hz (∀ W,H w w W→W.cell? ⟨b,eO+d.length*5,Z⟩=N (Q ⟨s.op.toArray⟩)∧W.cell? ⟨b,eO+d.length*5+2,Z⟩=N (I U s.num)∧W.cell? ⟨b,eO+d.length*5+3,Z⟩=N (Q ⟨s.text.toArray⟩)):=hD (fun W ak=>⟨(ak.cell (p:=⟨b,eO+d.length*5,Z⟩) dR).trans aN,(ak.cell (p:=⟨b,eO+d.length*5+2,Z⟩) dR).trans aZ,(ak.cell (p:=⟨b,eO+d.length*5+3,Z⟩) dR).trans bC⟩);have cU:(d.length:Int)<(l.length:Int):=oM;have bE:(0:Int)≤(d.length:Int):=oM;obtain ⟨kC,tU⟩:=xE vE.heap.size;have m1:=hD tU;have L8:jJ≤kC:=(by rw[tU,ev.o];exact aV.o.size);clear al L6 dx aN aM aZ bC tU bu;go_wp2_with fail;go_loopg [9,26] (s.args.length+1) (fun f ik nW jK=>∃(j:Nat) (vF:Option ae) (vG:Nat) (Da:List C),nW=I U j∧ik=D vF j vG∧j≤s.args.length∧s.args.length<j+f∧Hz (jK.ownsRow kC 40 5 (D vF j vG) j Da)∧Hz (VaVs jK (ka8 jJ kC (D l8 d.length km)) ((kdG s d).take j) Da)∧Hz (H kC vE jK))
   case atStart=>exact ⟨0,Z,0,[],rfl,rfl,ud1 _,oM,hD ⟨rfl, .inl ⟨rfl,rfl⟩⟩,hD rfl,hD (ub5 _ _)⟩
   case round=>
    obtain ⟨j,vF,vG,Da,rfl,rfl,aS,qY,nf,wt,hZ⟩:=hrel;obtain ⟨jN,rfl⟩:∃ f,gk=f+1:=⟨gk-1,oM⟩;have An:kC≤wr.heap.size:=(by rw[m1.o];exact hZ.o.size);by_cases sT:j<s.args.length
    .obtain ⟨a,aE⟩:∃ a,s.args[j]? =N a:=⟨_,ua3 sT⟩;have UN:=Hc.o.back a (ua4 aE);obtain ⟨q,rfl⟩:∃ q:Nat,a=(q:Int):=⟨a.toNat,oM⟩;have bj:q<d.length:=oM;obtain ⟨v,jy,eU⟩:=kCi aE bj;obtain ⟨bA,L9,rfl,UO,Ma⟩:=fQ.o.form oM;have vH:=hD (ep.o.trans (hZ.o.mono (by rw[m1.o];exact ep.o.size)));have z0:wr.cell? ⟨bA,L9+j,Z⟩=N (I U (q:Int)):=(vH.o.cell (p:=⟨bA,L9+j,Z⟩) UO).trans (Ma j _ (by rw[ub9,aE];rfl));obtain ⟨t8,UP,Ao,ii,Mb⟩:=xF.o.form oM;obtain ⟨rfl, -,rfl⟩:=uj2 Ao;obtain ⟨pi,oh,q9,tt,og⟩:=Hb.o.get eU;obtain ⟨qK,Mc⟩:=xE (kbe v);obtain ⟨nq,Md⟩:=xE v.n;obtain ⟨pK,io⟩:=xE v.b;obtain ⟨qL,Me⟩:=xE v.t;obtain ⟨qM,Mf⟩:=xE v.l;have ou:VaC pi oh v=[I .i64 qK,I U nq,V pK,Q ⟨qL.toArray⟩,D pi qM.length oh]:=(by rw[Mc,Md,io,Me,Mf];rfl);rw[ou] at q9;have pj:∀ i u,([I .i64 qK,I U nq,V pK,Q ⟨qL.toArray⟩,D pi qM.length oh]:List C)[i]? =N u→wr.cell? ⟨t8,q*5+i,Z⟩=N u:=fun i u aI=>by have hi:i<5:=(gH aI).1;rw[hZ.o.cell (p:=⟨t8,q*5+i,Z⟩) (by rw[m1.o];exact Mb),xF.o.cellAt (q*5+i) oM];exact q9 i u aI
     have bw:=pj 0 _ rfl;have aL:=pj 1 _ rfl;have bJ:=pj 2 _ rfl;have dn:=pj 3 _ rfl;have h6:=pj 4 _ rfl;rw[uh4] at bw;have o8:Hz (VaV wr (ka8 jJ kC (D (N ⟨t8,0,Z⟩) d.length km)) v [I .i64 qK,I U nq,V pK,Q ⟨qL.toArray⟩,D pi qM.length oh]):=hD ⟨pi,oh,ou.symm,tt,og.keep (fun i _ hi=>hZ.o.block i (by rw[m1.o];exact hi)) hZ.o.size (fun i hi _=>⟨hi.1,by rw[m1.o];exact hi.2.1,hi.2.2⟩)⟩;have yk:=hD (ktI jy);have eD:(j:Int)<(s.args.length:Int):=oM;have eS:=nN j;have il:(q:Int)<(d.length:Int):=oM;have ma:=nN q;have i7:=hD (fun (i:Nat) (e:(D vF j vG).ownBlock=N i)=>kbM nf.o e);have hr:=kaI nf.o (kat wr (y #[I .i64 qK,I U nq,V pK,Q ⟨qL.toArray⟩,D pi qM.length oh] 40));have e9:Reads (wr.alloc (y #[I .i64 qK,I U nq,V pK,Q ⟨qL.toArray⟩,D pi qM.length oh] 40)) (wr.heap.size+1) 5 (N ⟨wr,0,Z⟩) 1 [I .i64 qK,I U nq,V pK,Q ⟨qL.toArray⟩,D pi qM.length oh]:=⟨rfl,fun _=>⟨_,rfl,by simp,fun j u aI=>kcI wr #[I .i64 qK,I U nq,V pK,Q ⟨qL.toArray⟩,D pi qM.length oh] 40 j u aI⟩⟩;have d9:∀ u∈([I .i64 qK,I U nq,V pK,Q ⟨qL.toArray⟩,D pi qM.length oh]:List C),u.oneCell'=K:=(by simp[Value.oneCell']);have cM:=dc.o;have hi0:=jP.o;have hi1:=jQ.o;have hi2:=jR.o;clear aE UN jy eU Ma Ao q9 tt og Mc Md io Me Mf ou pj;(go_wp2_with (at_builtin;refine kbs _ rfl (.tmp 30) (.tmp 35) 88 rfl kC 40 eX (aa #[I .i64 0,I U 0,V J,Q ⟨#[]⟩,D Z 0 0]) 5 64 underlying88 cM hi0 hi1 hi2 rfl dC _ j _ rfl hr _ _ _ _ [I .i64 qK,I U nq,V pK,Q ⟨qL.toArray⟩,D pi qM.length oh] rfl e9 d9 (by unfold maxLen;omega) oM (by first|omega|(simp;omega)) ?_));intro eQ dl fm fV j2;obtain ⟨e4,bI,rfl⟩:=kaA fm;have gT:=(kbR (kat wr (y #[I .i64 qK,I U nq,V pK,Q ⟨qL.toArray⟩,D pi qM.length oh] 40)) (D vF j vG).ownBlock).trans fV;have f2:=hD (hZ.o.grown gT An (fun j e=>(i7.o _ e).1));have lC:∀ i,ka8 jJ kC (D (N ⟨t8,0,Z⟩) d.length km) i→i<wr.heap.size→dl.heap[i]? =wr.heap[i]? :=fun i hi az=>gT.block i az (fun e=>by have:=i7.o i e.symm;have:=hi.2.1;omega);have UQ:Hz (VaVs dl (ka8 jJ kC (D (N ⟨t8,0,Z⟩) d.length km)) ((kdG s d).take (j+1)) (Da++[I .i64 qK,I U nq,V pK,Q ⟨qL.toArray⟩,D pi qM.length oh])):=hD (by rw[yk.o];exact VaVs.snoc (o8.o.keep lC gT.size (fun i hi _=>hi)) (wt.o.keep lC gT.size (fun i hi _=>hi)));have UR:=hD fm;clear hr e9 d9 cM hi0 hi1 hi2 fm fV j2 gT lC o8 yk nf wt;go_wp2_with fail;go_roundg jN
     case measure=>omega
     case rel=>exact ⟨j+1,e4,bI,_,by go_num,rfl,oM,oM,UR,UQ,f2⟩
    .obtain rfl:j=s.args.length:=oM;have q5:=kCh s d;have ws:=wt.o;rw[ui7 oM] at ws;have Mg:=hD ws;have vH:=hD (ep.o.trans (hZ.o.mono (by rw[m1.o];exact ep.o.size)));have qt:=ksd (s:=s) (p:=fun v=>kaD (X57 env F57) v∧SmV v) Al.o ⟨⟨dC,dC⟩,keb rfl⟩
     have se:Hz (∀ W,H wr wr W→L prog 45 #[Q ⟨s.op.toArray⟩,I U s.num,Q ⟨s.text.toArray⟩,D vF s.args.length vG,D fF env.length gb] W (kao W (ka8 jJ kC (D l8 d.length km)) (Ev.at1 (X57 env F57) s d))):=hD (fun W ak=>by
      have uK:H w w W:=vH.o.trans (ak.mono vH.o.size);have US:∀ i,ka8 jJ kC (D l8 d.length km) i→i<W.heap.size:=fun i hi=>by have:=hi.2.1;have:=ak.size;omega
      have pD:=fun g hg=>kCI s o Hc.o.op (kdG s d) (by rw[q5,Hc.o.len]) vF vG g fF gb env W (ka8 jJ kC (D l8 d.length km)) US hg (yn.o.below uK) hA m4.o (od.o.below uK od.o.1) (UL.o s (ua4 b7.o)) (fun v au=>(qt v au).1) (fun v au=>(qt v au).2);rw[q5] at pD;by_cases aO:0<s.args.length
      .obtain ⟨g,d4,iY,fW,gl⟩:=kCc nf.o Mg.o q5.symm (by rw[q5];exact aO);exact pD g (fun _=>⟨d4,ua7 fW ak.size,gl.below ak (fun _ h=>h)⟩)
      .exact pD 0 (fun h=>absurd h aO))
     obtain ⟨r,am⟩:=xE (Ev.at1 (X57 env F57) s d);rw[←am] at se;have a1:=hD am;have Mh:∀ i,(D l8 d.length km).ownBlock=N i→i<kC:=fun i e=>by rw[m1.o];exact (kbM xF.o e).2
     have Hd:=hD Mh;have ua:=hD (fun W (ak:H wr wr W)=>L7.o W (vH.o.trans (ak.mono vH.o.size)));clear q5 ws qt am Mh wt nf Mg aS qY;go_upto_region 11 with (fail);go_cut [12,13,14] (fun p eB vO wc=>∃(Ap:Nat) (kx nx:Int) (kE:Bool) (iU:ByteArray) (j1:Option ae) (kF im:Nat) (sp:Int) (He:Bool),p=ab (N ⟨Ap,0,Z⟩)∧eB=I U sp∧vO=V He∧kC≤Ap∧Hz (Blk wc Ap 40 #[I .i64 kx,I U nx,V kE,Q iU,D j1 kF im])∧Hz (EvR wc (fun i=>ka8 jJ wc (D l8 d.length km) i∧i≠Ap) r (ag #[aa #[I .i64 kx,I U nx,V kE,Q iU,D j1 kF im],I U sp,V He]))∧Hz (H kC vE wc))
     case first=>refine ue4 ?_;refine ud6 (S:=(fun w'=>w'.cell? ⟨b,eO+d.length*5,Z⟩=N (Q ⟨s.op.toArray⟩)∧w'.cell? ⟨b,eO+d.length*5+2,Z⟩=N (I U s.num)∧w'.cell? ⟨b,eO+d.length*5+3,Z⟩=N (Q ⟨s.text.toArray⟩))) kR (ua.o _ (ub5 _ wr).drew) (fun ay=>?_);exact kgJ
     case rest=>
      obtain ⟨Ap,kx,nx,kE,iU,j1,kF,im,sp,He,rfl,rfl,rfl,Kq,de,di,qD⟩:=hcut;clear se ua vH hZ An L7 cU bE;have Mi:=hD (ep.o.trans (qD.o.mono (by rw[m1.o];exact ep.o.size)));have vI:=hD (dv.o.below (aV.o.trans (qD.o.mono L8)) (by rw[ev.o];exact dv.o.lt))
      cases r with
      |error e=>
       cases e with
       |some kk=>obtain ⟨jw,sq⟩:=di.o;simp at sq;obtain ⟨-,rfl,rfl⟩:=sq;have ey:es=(.error (N sp)):=fz.o.trans (koT cC.o b7.o a1.o.symm);have cW:=hD (kb1 vI.o (I U 0) (I U 0) (V J) (Q ⟨#[]⟩) (D Z 0 0));have ub:=hD (kdB (F:=fun _=>False) (F0:=fun _=>False) (r:=(.error (N sp))) (x:=ag #[aa #[I .i64 0,I U 0,V J,Q ⟨#[]⟩,D Z 0 0],I U sp,V K]) Mi.o ⟨jw,rfl⟩ (fun _ h=>h.elim) (I U 0) (I U 0) (V J) (Q ⟨#[]⟩) (D Z 0 0));rw[←ey] at ub;obtain ⟨z0,ca,cI,z3,z4,k0,k1,bS,fp,gy⟩:=kak vI.o;have bw:(sp != 0)=K:=uk2.2 jw;have aL:¬sp=0:=jw;clear ey;go_wp2_with fail;obtain ⟨bi,aW,bc,br,bL, -⟩:=kak cW.o;refine ub2 (v:=ag #[aa #[I .i64 0,I U 0,V J,Q ⟨#[]⟩,D Z 0 0],I U sp,V K]) (by simp[results,results15,go_sem,bi,aW,bc,br,bL]) rfl ?_;exact ub.o
       |none=>obtain ⟨ci,bX,c9,cy,cv,cr,t9,sq⟩:=di.o;simp at sq;obtain ⟨-,rfl,rfl⟩:=sq;have ey:es=(.error Z):=fz.o.trans (koT cC.o b7.o a1.o.symm);have cW:=hD (kb1 vI.o (I U 0) (I U 0) (V J) (Q ⟨#[]⟩) (D Z 0 0));have ub:=hD (kdB (F:=fun _=>False) (F0:=fun _=>False) (r:=(.error Z)) (x:=ag #[aa #[I .i64 0,I U 0,V J,Q ⟨#[]⟩,D Z 0 0],I U 0,V J]) Mi.o ⟨_,_,_,_,_,_,_,rfl⟩ (fun _ h=>h.elim) (I U 0) (I U 0) (V J) (Q ⟨#[]⟩) (D Z 0 0));rw[←ey] at ub;obtain ⟨z0,ca,cI,z3,z4,k0,k1,bS,fp,gy⟩:=kak vI.o;clear ey;go_wp2_with fail;obtain ⟨bi,aW,bc,br,bL, -⟩:=kak cW.o;refine ub2 (v:=ag #[aa #[I .i64 0,I U 0,V J,Q ⟨#[]⟩,D Z 0 0],I U 0,V J]) (by simp[results,results15,go_sem,bi,aW,bc,br,bL]) rfl ?_;exact ub.o
      |ok v=>
       obtain ⟨AT,⟨ci,c9,rfl,pc,tX⟩,sq⟩:=di.o;rw[show VaC ci c9 v=[I .i64 (kbe v),I U v.n,V v.b,Q ⟨v.t.toArray⟩,D ci v.l.length c9] from rfl] at sq;simp at sq;obtain ⟨⟨b8,cn,c0,c3,jA,jc,mT⟩,rfl,rfl⟩:=sq;have ou:VaC ci c9 v=[I .i64 kx,I U nx,V kE,Q iU,D j1 kF im]:=(by rw[b8,cn,c0,c3,jA,jc,mT];rfl);have o8:Hz (VaV wc (ka8 jJ wc (D l8 d.length km)) v [I .i64 kx,I U nx,V kE,Q iU,D j1 kF im]):=hD ⟨ci,c9,ou.symm,pc,tX.keep (fun _ _ _=>rfl) (nR) (fun i hi _=>hi.1)⟩;have uc:H vE vE wc:=(by rw[←m1.o];exact qD.o);have Hf:=kaI xF.o uc;have Mj:=hD (Hb.o.keep (G:=ka8 jJ wc (D l8 d.length km)) (fun i _ hi=>uc.block i hi) uc.size (fun i hi az=>⟨hi.1,ua7 az uc.size,hi.2.2⟩));have UT:=hD (kva cC.o b7.o a1.o.symm);have Mk:kaD (X57 env F57) v∧SmV v:=(by have aE:=ksd (s:=s) (p:=fun v=>kaD (X57 env F57) v∧SmV v) Al.o ⟨⟨dC,dC⟩,keb rfl⟩;have je:CxOk (X57 env F57):=⟨fun p t l h=>⟨(kdj h).1,(kdj h).2.1⟩,(by show ((3000:Nat):Int)≤1152921504606846976;omega), .inr rfl⟩;exact ⟨(ksg je (fun u aI=>(aE u aI).1) v a1.o.symm).1,kCw (X:=X57 env F57) (nR) (fun p t l h=>(kdj h).2.2) (fun u aI=>(aE u aI).2) (fun u aI=>(aE u aI).1) v a1.o.symm⟩);have UU:Hz (∀ u∈d++[v],kaD (X57 env F57) u∧SmV u):=hD (fun u aI=>(uh2.1 aI).elim (Al.o u) (fun h=>by rw[ug5.1 h];exact Mk));have UV:jJ≤wc.heap.size:=(by have:=Hd;have:=qD.o.size;have:=m1.o;omega);have i7:=hD (fun (i:Nat) (e:(D l8 d.length km).ownBlock=N i)=>kbM Hf e);have hr:=kaI Hf (kat wc (y #[I .i64 kx,I U nx,V kE,Q iU,D j1 kF im] 40));have e9:Reads (wc.alloc (y #[I .i64 kx,I U nx,V kE,Q iU,D j1 kF im] 40)) (wc.heap.size+1) 5 (N ⟨wc,0,Z⟩) 1 [I .i64 kx,I U nx,V kE,Q iU,D j1 kF im]:=⟨rfl,fun _=>⟨_,rfl,by simp,fun j u aI=>kcI wc #[I .i64 kx,I U nx,V kE,Q iU,D j1 kF im] 40 j u aI⟩⟩;have d9:∀ u∈([I .i64 kx,I U nx,V kE,Q iU,D j1 kF im]:List C),u.oneCell'=K:=(by simp[Value.oneCell']);have cM:=dc.o;have hi0:=jP.o;have hi1:=jQ.o;have hi2:=jR.o;have vm:=hD (aV.o.trans (qD.o.mono L8));clear b8 cn c0 c3 jA jc mT ou uc Hf Mk tX pc di;obtain ⟨be,b8,cn,c0,c3, -⟩:=kak de.o;(go_wp2_with (at_builtin;refine kbs _ rfl (.tmp 69) (.tmp 71) 88 rfl jJ 40 eX (aa #[I .i64 0,I U 0,V J,Q ⟨#[]⟩,D Z 0 0]) 5 64 underlying88 cM hi0 hi1 hi2 rfl dC _ d.length _ rfl hr _ _ _ _ [I .i64 kx,I U nx,V kE,Q iU,D j1 kF im] rfl e9 d9 (by unfold maxLen;omega) oM (by first|omega|(simp;omega)) ?_));intro eQ dl fm fV j2;obtain ⟨e4,bI,rfl⟩:=kaA fm;have gT:=(kbR (kat wc (y #[I .i64 kx,I U nx,V kE,Q iU,D j1 kF im] 40)) (D l8 d.length km).ownBlock).trans fV;have f2:=hD (vm.o.grown gT UV (fun j e=>(i7.o _ e).1));have lC:∀ i,ka8 jJ wc (D l8 d.length km) i→i<wc.heap.size→dl.heap[i]? =wc.heap[i]? :=fun i hi az=>gT.block i az (fun e=>hi.2.2 e.symm)
       have up:∀ i,ka8 jJ wc (D l8 d.length km) i→i<wc.heap.size→ka8 jJ dl (D e4 (d.length+1) bI) i:=fun i hi az=>⟨hi.1,ua7 az gT.size,fun e=>by
        rcases j2 with h|h
        .exact hi.2.2 (h.symm.trans e)
        .have bJ:=h.symm.trans e;simp at bJ;omega⟩
       have UW:Hz (VaVs dl (ka8 jJ dl (D e4 (d.length+1) bI)) (d++[v]) (cs++[I .i64 kx,I U nx,V kE,Q iU,D j1 kF im])):=hD (VaVs.snoc (o8.o.keep lC gT.size up) (Mj.o.keep lC gT.size up));have UX:=hD fm;have ew:(d++[v]).length=d.length+1:=(by rw[ua6];rfl);clear hr e9 d9 cM hi0 hi1 hi2 fm fV j2 gT lC up o8 Mj be b8 cn c0 c3;go_wp2_with fail;go_roundg f
       case measure=>omega
       case rel=>exact ⟨d++[v],e4,bI,cs++[I .i64 kx,I U nx,V kE,Q iU,D j1 kF im],by rw[ew];go_num,by rw[ew],oM,oM,hD (by rw[ew];exact UT.o),UU,hD (by rw[ew];exact UX.o),hD (by rw[ew];exact UW.o),f2⟩
  .have Ml:d.length=l.length:=oM;have Mm:0<d.length:=(by have:=(kfa iX.o).1;omega);have ey:es= .ok (d.getLastD (.num 0)):=fz.o.trans (kvd (by rw[←Ml];exact cC.o));obtain ⟨q,bj⟩:=xE (d.length-1);obtain ⟨v,au⟩:∃ v,d[q]? =N v:=⟨_,ua3 oM⟩;have hk:d.getLastD (.num 0)=v:=(by rw[up7,List.getLast?_eq_getElem?,←bj,au];rfl);rw[hk] at ey;obtain ⟨t8,UP,Ao,ii,Mb⟩:=xF.o.form Mm;obtain ⟨rfl, -,rfl⟩:=uj2 Ao;obtain ⟨j1,im,je,Mn,Mo⟩:=Hb.o.get au;obtain ⟨kx,Mp⟩:=xE (kbe v);obtain ⟨nx,oA⟩:=xE v.n;obtain ⟨kE,uc⟩:=xE v.b;obtain ⟨iU,mV⟩:=xE v.t;obtain ⟨kF,Mq⟩:=xE v.l;have ou:VaC j1 im v=[I .i64 kx,I U nx,V kE,Q ⟨iU.toArray⟩,D j1 kF.length im]:=(by rw[Mp,oA,uc,mV,Mq];rfl);rw[ou] at je;have pj:∀ i u,([I .i64 kx,I U nx,V kE,Q ⟨iU.toArray⟩,D j1 kF.length im]:List C)[i]? =N u→vE.cell? ⟨t8,q*5+i,Z⟩=N u:=fun i u aI=>by have hi:i<5:=(gH aI).1;rw[xF.o.cellAt (q*5+i) oM];exact je i u aI
   have bw:=pj 0 _ rfl;have aL:=pj 1 _ rfl;have bJ:=pj 2 _ rfl;have dn:=pj 3 _ rfl;have h6:=pj 4 _ rfl;rw[uh4] at bw;have vI:=hD (dv.o.below aV.o (by rw[ev.o];exact dv.o.lt));have cW:=hD (kb1 vI.o (I U kx) (I U nx) (V kE) (Q ⟨iU.toArray⟩) (D j1 kF.length im));have ub:=hD (kdB (F:=fun _=>False) (F0:=ka8 jJ vE (D (N ⟨t8,0,Z⟩) d.length km)) (r:= .ok v) (x:=ag #[aa #[I .i64 kx,I U nx,V kE,Q ⟨iU.toArray⟩,D j1 kF.length im],I U 0,V K]) ep.o ⟨_,⟨j1,im,ou.symm,Mn,Mo⟩,rfl⟩ (fun i hi=>⟨by have:=hi.1;omega, .inr (by have:=hi.1;omega)⟩) (I U kx) (I U nx) (V kE) (Q ⟨iU.toArray⟩) (D j1 kF.length im));rw[←ey] at ub;obtain ⟨z0,ca,cI,z3,z4,k0,k1,bS,fp,gy⟩:=kak vI.o;have Aq:(d.length:Int)-1=(q:Int):=oM;have sb:=uc5 (q:Int) oM;have il:(q:Int)<(d.length:Int):=oM;have ma:=nN q;have hdn:¬(d.length:Int)<(l.length:Int):=oM;clear Ml Mm ey bj au hk Ao je Mn Mo Mp oA uc mV Mq ou pj UM ky bG;go_wp2_with fail;obtain ⟨bi,aW,bc,br,bL, -⟩:=kak cW.o;refine ub2 (v:=ag #[aa #[I .i64 kx,I U nx,V kE,Q ⟨iU.toArray⟩,D j1 kF.length im],I U 0,V K]) (by simp[results,results15,go_sem,bi,aW,bc,br,bL]) rfl ?_;exact ub.o
def klL (h:P:=by go_wp2_with fail;refine (kkW _).mono ?_;rintro e aF ⟨rfl,bs⟩;have bo:=bT a7 bs;clear bs;go_wp2_with fail;go_ret;exact ⟨rfl,bo.o⟩):=h
def knb (h:P:=by
 obtain ⟨n,nv⟩:=xE l.length;obtain ⟨m,kw⟩:=xE env.length;obtain ⟨bF,bq,m4,uL,hR,hQ,eY,od⟩:=hd8 nv aG qR kw h aE aB dY;rw[←kw];rw[←nv] at ax ⊢;clear h aE aB nv aG qR kw dY;(first|guard_hyp Dd;obtain ⟨name,Hg⟩:=kw1 r;have w9:=hD Hg;have UY:=hD (kvh r lM name Hg);clear Hg lM;go_enter func7,ntmps7|go_enter func4,ntmps4);go_wp2_with fail;refine (kkW _).mono ?_;rintro e aq ⟨rfl,cm⟩;have a7:=hD cm;by_cases gs:60<n
 .have cU:(60:Int)<(n:Int):=oM;clear cm;exact klL
 have cU:¬((60:Int)<(n:Int)):=oM;have hn6:n≤60:=oM;by_cases Yq:5<m
 .have bE:(5:Int)<(m:Int):=oM;clear cm gs;exact klL
 have bE:¬((5:Int)<(m:Int)):=oM;have Hh:Hz (kfi l):=hD ⟨by have:=bF.o;omega,fun s al=>⟨hQ.o s al,eY.o.ok s al⟩⟩;have Db:=fun w' (ak:H w w w')=>kn1 A c l w' (hR.o.below ak) (by have:=bF.o;omega) hQ.o;rw[←bF.o] at Db;have CX:=hD Db;have C9:=hD (Db aq cm);have o3:Hz (env.length≤100):=hD (by have:=uL.o;omega);clear cm Db gs Yq;go_wp2_with fail;refine C9.o.mono ?_;rintro e aF ⟨bs,fD,aZ,ir,en⟩;rw[←bF.o] at ir;subst ir;have bo:=bT a7 bs;have lU:=khQ fD aZ l aF (en.keep (w':=aF) (fun _ _ _=>rfl) (nR) (fun i hi _=>hi.2)) Hh.o;rw[←bF.o] at lU;have iX:=hD lU;clear bs en lU C9;go_wp2_with fail;refine iX.o.mono ?_;rintro e a6 ⟨rfl,b3⟩;have bU:=bT bo b3;clear b3 iX a7 bo;obtain ⟨x,aA⟩:=xE (kaf l);rw[←aA];have de:=hD aA;clear aA;by_cases kH:x=0;rotate_left
 .obtain ⟨v,au⟩:∃ v,kde x= .iface 66 (I U v):=⟨x,ua0 kH⟩;rw[au];clear au kH;go_wp2_with fail;refine (kkW _).mono ?_;rintro e aK ⟨rfl,bv⟩;have cA:=bT bU bv;clear bv;go_wp2_with fail;go_ret;exact ⟨rfl,cA.o⟩
 subst kH;have ls:Hz (kaf l=0):=hD de.o.symm;rw[show kde 0=aj from rfl];have qB:=hD (CX.o a6 bU.o);(first|guard_hyp Dd;obtain ⟨bl,cR⟩:=xE (doR (r % 11) l)|obtain ⟨bl,cR⟩:=xE (ofR l));have lz:=hD cR;(first|guard_hyp Dd;have Dc:Hz (kaf bl=0):=hD (by rw[cR];exact kAM ls.o);have jU:Hz (TxB bl):=hD (by rw[cR];exact kAL eY.o _);have vh:Hz (Ev.run (X57 env F57) l= .error Z∨Ev.run (X57 env F57) bl= .error Z∨Ev.run (X57 env F57) l=Ev.run (X57 env F57) bl):=hD (by rw[cR];exact kqk (by show (3000:Nat)≤1152921504606846976;omega) rfl ((fun hF an=>kCL hF an (r % 11)) (fun p t l h=>⟨(kdj h).1,(kdj h).2.1⟩) ls.o))|have Dc:Hz (kaf bl=0):=hD (by rw[cR];exact (kwd ls.o).1);have jU:Hz (TxB bl):=hD (by rw[cR];exact kwc eY.o);have vh:Hz (Ev.run (X57 env F57) l= .error Z∨Ev.run (X57 env F57) bl= .error Z∨Ev.run (X57 env F57) l=Ev.run (X57 env F57) bl):=hD (by rw[cR];exact kqk (by show (3000:Nat)≤1152921504606846976;omega) rfl (kCK (fun p t l h=>⟨(kdj h).1,(kdj h).2.1⟩) ls.o)));have Hi:Hz (kfi bl):=hD (kpI Dc.o jU.o.ok);obtain ⟨k,aw⟩:=xE bl.length;have Ar:=hD aw;clear cR aw de;go_wp2_with fail;refine qB.o.mono ?_;rintro e aK ⟨bv,gS,b1,rs,jx⟩;rw[←bF.o] at rs;subst rs;have cA:=bT bU bv;have oI:Hz (PlAt aK (fun i=>i<aK.heap.size) gS l):=hD (jx.keep (w':=aK) (fun _ _ _=>rfl) (nR) (fun i hi _=>hi.2));clear bv jx qB;(first|guard_hyp Dd;go_wp2_with fail;refine (UY.o _).mono ?_;rintro e Ht ⟨rfl,HC⟩;have UZ:=bT cA HC;have cg:=ktR gS b1 l (r % 11) name Ht (oI.o.below HC) ls.o Hh.o w9.o;rw[←bF.o,←lz.o] at cg;have cA:=UZ;have o1:=hD cg;clear cg HC|have xv:=kpM gS b1 l aK oI.o ls.o Hh.o;rw[←bF.o,←lz.o] at xv;have o1:=hD xv;clear xv);go_wp2_with fail;refine o1.o.mono ?_;rintro e bm ⟨cQ,nT,su,rfl,rL⟩;rw[←Ar.o];have cN:=bT cA cQ;have rl:Hz (PlAt bm (fun i=>i<bm.heap.size) (N ⟨nT,0,Z⟩) bl):=hD (rL.keep (w':=bm) (fun _ _ _=>rfl) (nR) (fun i hi _=>hi.2));clear cQ rL o1;go_upto_region 4 with (fail);obtain ⟨du,hp⟩:=xE (bm.alloc (y #[D (N ⟨nT,0,Z⟩) k su] 26));rw[←hp];have eu:=bA hp;have f1:=bT cN eu;have ki:=bN hp;obtain ⟨cY,iD⟩:=xE bm.heap.size;rw[←iD] at ki ⊢;have jc:=ki.o.cell 0;simp only[gA,gB] at jc;have Hj:=hD (rl.o.below eu);have lU:=khQ (N ⟨nT,0,Z⟩) su bl du Hj.o Hi.o;rw[Dc.o,←Ar.o] at lU;have iX:=hD (show L prog 11 #[aa #[D (N ⟨nT,0,Z⟩) k su]] du fun e w'=>e=ac aj∧H du du w' from lU);clear hp eu lU iD;go_wp2_with fail;refine iX.o.mono ?_;rintro e dl ⟨rfl,ow⟩;have f2:=bT f1 ow;have k4:=hD (ki.o.below ow ki.o.lt);have pP:=hD (Hj.o.below ow);have Hk:=koW l A c env fF gb dl (hR.o.below f2.o) ls.o (bq.o.below f2.o) o3.o m4.o (od.o.below f2.o od.o.1) (fun s al=>Nat.le_succ_of_le (eY.o s al));obtain ⟨Hl,dT⟩:=xE (Ev.run (X57 env F57) l);obtain ⟨x1,gi⟩:=xE (Ev.run (X57 env F57) bl);have Mr:=vh;rw[←dT,←gi] at Mr;have mm:Hz (∀ v,Hl= .ok v→v.l.length≤100000):=hD (fun v au=>kvc (dT.symm.trans au));have co:=hD gi;rw[←bF.o,←uL.o,←dT] at Hk;have Ms:=hD Hk;clear ow Hk jc dT gi iX vh f1 ki Hj rl;go_wp2_with fail;refine Ms.o.mono ?_;rintro e gx ⟨gn,CR,rfl,tn⟩;obtain ⟨oi,rU,Hm,Mt,nl,Mu,sf,rZ,Mv,rfl⟩:=tn.form;have h9:=hD tn;have l4:=bT f2 gn;have Hn:=hD (k4.o.below gn k4.o.lt);have rq:=hD (pP.o.below gn);clear gn tn Ms f2 k4 pP;go_upto_region 7 with (fail);obtain ⟨c7,jn⟩:=xE (gx.alloc (y #[I .i64 oi,I U rU,V Hm,Q Mt,D nl Mu sf] 40));rw[←jn];have ck:=bA jn;have ho:=bT l4 ck;have pI:=bN jn;obtain ⟨fG,cO⟩:=xE gx.heap.size;rw[←cO] at pI ⊢;have U0:=hD (Hn.o.below ck Hn.o.lt);have U1:=hD (rq.o.below ck);have FI:Hz (EvR c7 (fun _=>True) Hl (ag #[aa #[I .i64 oi,I U rU,V Hm,Q Mt,D nl Mu sf],I U rZ,V Mv])):=hD (h9.o.keep ck (fun _ _=>trivial));have Ho:=kzI (N ⟨nT,0,Z⟩) su bl c7 U1.o Hi.o.1 (fun s al=>(Hi.o.2 s al).1);rw[←Ar.o] at Ho;have zH:=hD Ho;have GA:=U0.o.cell 0;simp only[gA,gB] at GA;clear jn ck cO Ho l4 Hn rq h9;go_wp2_with fail;refine zH.o.mono ?_;rintro e Cz ⟨qN,gS,b1,MR,MS⟩;rw[←Ar.o] at MR;subst MR;have sh:=bT ho qN;have kA:=koW bl gS b1 env fF gb Cz MS Dc.o (bq.o.below sh.o) o3.o m4.o (od.o.below sh.o od.o.1) (fun s al=>Nat.le_succ_of_le (jU.o s al));rw[←Ar.o,←uL.o,←co.o] at kA;obtain ⟨cC,Hp,Mw⟩:=hd3 kA (pI.o.below qN pI.o.lt) (FI.o.keep qN (fun _ h=>h));clear qN MS kA GA zH;go_wp2_with fail;refine cC.o.mono ?_;rintro e De ⟨Di,Tg,rfl,HD⟩;obtain ⟨lw,m3,r7,t5,fs,uQ,c5,BC,Mx,rfl⟩:=HD.form;have U2:=bT sh Di;obtain ⟨Hq,My,z2⟩:=hd3 (Hp.o.below Di Hp.o.lt) (Mw.o.keep Di (fun _ h=>h)) HD;clear Di HD cC;go_upto_region 8 with (fail);obtain ⟨wc,pt⟩:=xE (De.alloc (y #[I .i64 lw,I U m3,V r7,Q t5,D fs uQ c5] 40));rw[←pt];have nM:=bA pt;have vm:=bT U2 nM;have Mz:=bN pt;obtain ⟨Hr,AJ⟩:=xE De.heap.size;rw[←AJ] at Mz ⊢;have C8:=hD (Hq.o.below nM Hq.o.lt);have MA:=hD (My.o.keep nM (fun _ h=>h));have MB:Hz (EvR wc (fun _=>True) x1 (ag #[aa #[I .i64 lw,I U m3,V r7,Q t5,D fs uQ c5],I U BC,V Mx])):=hD (z2.o.keep nM (fun _ _=>trivial));clear pt nM AJ z2 My Hq Mw Hp
 cases Mv with
 |false=>go_wp2_with fail;go_ret;exact ⟨rfl,vm.o⟩
 |true=>
  cases Mx with
  |false=>go_wp2_with fail;go_ret;exact ⟨rfl,vm.o⟩
  |true=>
   have e2:=kkE MA.o;have fT:=kkE MB.o
   have q4:Hl=x1:=by
    rcases Mr.o with h|h|h
    .exact absurd h e2
    .exact absurd h fT
    .exact h
   have xr:=MB.o;rw[←q4] at xr;obtain ⟨t,U3,rfl,rfl,rfl,rfl,rfl,rfl,rfl,rfl,gZ,iN,k5⟩:=kAg MA.o xr mm.o;obtain ⟨v0,dX,eb,v3,v4, -⟩:=kak C8.o;obtain ⟨bu,bY,cP,c8,dj, -⟩:=kak Mz.o;have yt:=hD (ku4 oi rU Hm t U3 nl fs sf c5 wc (fun _=>True) (fun _=>True) gZ iN k5);have cG:(rZ==rZ)=K:=(by simp);clear e2 fT q4 xr gZ iN k5;go_wp2_with fail;refine yt.o.mono ?_;rintro e wf ⟨rfl,CL⟩;have U4:=bT vm CL;clear CL;go_wp2_with fail;go_ret;exact ⟨rfl,U4.o⟩):=h
def kkE {w:O} {F:Nat→Prop} {r:Ev.Re Ev.Va} {a b:C} (h:EvR w F r (ag #[a,b,V K])):r≠ .error Z:=by intro am;subst am;obtain ⟨A,l,c,k,n,z,t,aA⟩:=h;simp at aA
theorem kAg {aq aF:O} {Nh Ni:Nat→Prop} {r:Ev.Re Ev.Va} {k1 bD aL bS dP bJ:Int} {cL fH:Bool} {bb db:ByteArray} {dA fD:Option ae} {bx aM et aZ:Nat}
 (af:EvR aq Nh r (ag #[aa #[I .i64 k1,I U bD,V cL,Q bb,D dA bx aM],I U aL,V K])) (ao:EvR aF Ni r (ag #[aa #[I .i64 bS,I U dP,V fH,Q db,D fD et aZ],I U bJ,V K])) (az:∀ v,r= .ok v→v.l.length≤100000):
 ∃(t:List UInt8) (l:List (Int×Int)),k1=bS∧bD=dP∧cL=fH∧bb=⟨t.toArray⟩∧db=⟨t.toArray⟩∧aL=bJ∧bx=l.length∧et=l.length∧SpV aq Nh dA l∧SpV aF Ni fD l∧l.length≤100000:=by
 match r,af,ao,az with
 | .ok v,⟨cs,⟨A,c,e,_,al⟩,aA⟩,⟨eo,⟨dd,cS,ek,_,fc⟩,qO⟩,az=>subst e ek;simp only[VaC,Value.tuple.injEq,Array.mk.injEq,un7,Value.agg.injEq,Value.int.injEq,Value.bool.injEq,Value.string.injEq,ut0,true_and,ut6] at aA qO;obtain ⟨⟨rfl,rfl,rfl,rfl,rfl,rfl,rfl⟩,rfl⟩:=aA;obtain ⟨⟨rfl,rfl,rfl,rfl,rfl,rfl,rfl⟩,rfl⟩:=qO;exact ⟨v.t,v.l,rfl,rfl,rfl,rfl,rfl,rfl,rfl,rfl,al,fc,az v rfl⟩
 | .error (N k),⟨_,aA⟩,⟨_,qO⟩,_=>simp only[Value.tuple.injEq,Array.mk.injEq,un7,Value.agg.injEq,Value.int.injEq,Value.bool.injEq,Value.string.injEq,ut0,true_and,ut6] at aA qO;obtain ⟨⟨rfl,rfl,rfl,rfl,rfl,rfl,rfl⟩,rfl⟩:=aA;obtain ⟨⟨rfl,rfl,rfl,rfl,rfl,rfl,rfl⟩,rfl⟩:=qO;exact ⟨[],[],rfl,rfl,rfl,rfl,rfl,rfl,rfl,rfl,SpV.nil _ _ _,SpV.nil _ _ _,ud1 _⟩
 | .error Z,h,_,_=>exact absurd rfl (kkE h)
theorem kvc {env:List (List UInt8×List UInt8)} {l:List St} {v:Ev.Va} (h:Ev.run (X57 env F57) l= .ok v):v.l.length≤100000:=by
 have je:CxOk (X57 env F57):=⟨fun p t l h=>⟨(kdj h).1,(kdj h).2.1⟩,(by show ((3000:Nat):Int)≤1152921504606846976;omega), .inr rfl⟩;unfold Ev.run at h
 cases hd:Ev.maf (X57 env F57) [] l with
 |error e=>rw[hd] at h;cases h
 |ok d=>
  rw[hd] at h;have h:Except.ok (d.getLastD (.num 0))=Except.ok v:=h;injection h with h;have hg:=kje (X57 env F57) je l [] d (fun v au=>by cases au) hd
  cases d with
  |nil=>subst h;exact ud1 _
  |cons a d=>have au:v∈a::d:=(by rw[←h,List.getLastD_cons];exact List.getLastD_mem_cons);have:=(ke1 (hg v au)).2;omega
end Go.Proofs.YtamhdmkolfmmdaaGreatDoor
