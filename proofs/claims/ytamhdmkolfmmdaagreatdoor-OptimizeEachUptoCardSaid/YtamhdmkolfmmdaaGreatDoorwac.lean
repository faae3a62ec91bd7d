/- Part ac of the proof. -/
import Derived.Test.YtamhdmkolfmmdaaGreatDoorwab
set_option linter.all false
set_option maxHeartbeats 16000000
set_option maxRecDepth 100000
open Go.Proofs.Tryz
open Go.Value renaming int→I,slice→D,bool→V,string→Q,pointer→ab,agg→aa,tuple→ag,nilIface→aj
open Go.IntKind renaming i64→U,u64→Y,u8→ai
open Go.Obj renaming cells→y
open Go.Ending renaming returned→ac
open Option renaming none→Z,some→N
open Bool renaming true→K,false→J
open Go renaming World→O,Value→C,Calls→L,TypeId→ah,Addr→ae
open Go.RowKit renaming Below→H
namespace Go.Proofs.YtamhdmkolfmmdaaGreatDoor
open Go.RowKit
variable {P:Prop}
def kh0 (h:P:=by rw[ua1 h,ui1 oM,uc4,ua1 h]):=h
def kka {α:Type} (l:List α) (i:Nat) (x:α) (hi:i≤l.length) (q:Nat):(l.take i++x::l.drop i)[q]? =if q<i then l[q]? else if q=i then N x else l[q-1]? :=by
 have az:(l.take i).length=i:=(by rw[ub8];omega);by_cases h:q<i
 .exact kh0
 .rw[ua0 h,uf4 oM,az];by_cases ao:q=i
  .subst ao;rw[ua1 rfl,uo8,gB]
  .rw[ua0 ao];obtain ⟨m,bg⟩:∃ m,q-i=m+1:=⟨q-i-1,oM⟩;rw[bg,gC,ud0];congr 1;omega
def EdX.ins {w aq aF:O} {base g ap cap i n e5 fE:Nat} {l:List St} {vs:List C} {aP:C} (h:EdX w base g ap cap l vs aP) (ax:n=l.length) (hi:i<n) (kX:n+1≤100000) (s':St) (cH:C) (bf:w.ownsRow base 3 1 cH s'.args.length (s'.args.map (I U)))
 (hd:∀(j:Nat) (v:C),vs[j]? =N v→cH.ownBlock=Z∨v.ownBlock≠cH.ownBlock) (jy:cH.oneCell'=K) (iY:w.grownBy aq (N ap)) (Df:e5=ap∨w.heap.size≤e5) (eo:Array C) (cm:Blk aq e5 77 eo) (dN:eo.size=fE*5) (Dj:n+1≤fE)
 (gR:∀ cs,Blk w ap 77 cs→(∀ q,q<i*5→eo[q]? =cs[q]?)∧(∀ q,q<5→eo[i*5+q]? = #[Q ⟨s'.op.toArray⟩,cH,I U s'.num,Q ⟨s'.text.toArray⟩,I U s'.ty][q]?)∧(∀ q,i*5≤q→q<n*5→eo[5+q]? =cs[q]?))
 (aG:aF=aq.setCell ⟨g,0,Z⟩ (D (N ⟨e5,0,Z⟩) (n+1) fE)):EdX aF base g e5 fE (l.take i++s'::l.drop i) (vs.take i++cH::vs.drop i) aP∧FrX base w aF:=by
 subst aG;subst ax;obtain ⟨cs,aL,bJ,dn⟩:=h.blk;obtain ⟨ca,cI,z3⟩:=gR cs aL;have ch:=h.ne;have ef:=h.ed.lt;have f5:=h.maz
 have D0:g≠e5:=by
  rcases Df with rfl|aD
  .exact ch
  .omega
 have q5:=h.len;have qg:Blk aq g 85 #[D (N ⟨ap,0,Z⟩) l.length cap,aP]:=h.ed.grown iY (fun e=>ch (by injection e));have dz:(l.take i++s'::l.drop i).length=l.length+1:=(by simp;omega);have Pg:(vs.take i++cH::vs.drop i).length=l.length+1:=(by simp;omega);have hgs:(aq.setCell ⟨g,0,Z⟩ (D (N ⟨e5,0,Z⟩) (l.length+1) fE)).heap[e5]? =aq.heap[e5]? :=ud7 aq ⟨g,0,Z⟩ _ e5 (fun e=>D0 e.symm)
 have D3:∀ j v,(vs.take i++cH::vs.drop i)[j]? =N v→(∃ hn,vs[hn]? =N v∧(j<i∧hn=j∨i<j∧j=hn+1))∨(j=i∧v=cH):=fun j v au=>by
  rw[kka vs i cH oM] at au;by_cases af:j<i
  .rw[ua1 af] at au;exact .inl ⟨j,au, .inl ⟨af,rfl⟩⟩
  .rw[ua0 af] at au;by_cases ao:j=i
   .rw[ua1 ao] at au;injection au with au;exact .inr ⟨ao,au.symm⟩
   .rw[ua0 ao] at au;exact .inl ⟨j-1,au, .inr ⟨oM,oM⟩⟩
 have q6:∀ j s v,(l.take i++s'::l.drop i)[j]? =N s→(vs.take i++cH::vs.drop i)[j]? =N v→(∃ hn,l[hn]? =N s∧vs[hn]? =N v∧(j<i∧hn=j∨i<j∧j=hn+1))∨(j=i∧s=s'∧v=cH):=fun j s v al au=>by
  rw[kka l i s' oM] at al;rw[kka vs i cH oM] at au;by_cases af:j<i
  .rw[ua1 af] at al au;exact .inl ⟨j,al,au, .inl ⟨af,rfl⟩⟩
  .rw[ua0 af] at al au;by_cases ao:j=i
   .rw[ua1 ao] at al au;injection al with al;injection au with au;exact .inr ⟨ao,al.symm,au.symm⟩
   .rw[ua0 ao] at al au;exact .inl ⟨j-1,al,au, .inr ⟨oM,oM⟩⟩
 have rT:∀ b,b<w.heap.size→b≠g→b≠ap→(aq.setCell ⟨g,0,Z⟩ (D (N ⟨e5,0,Z⟩) (l.length+1) fE)).heap[b]? =w.heap[b]? :=fun b ak af ao=>
  (ud7 aq ⟨g,0,Z⟩ _ b af).trans (iY.block b ak (fun e=>ao (by injection e)))
 refine ⟨⟨by rw[dz];exact qg.mac 0 _,⟨eo,cm.far (p:=⟨g,0,Z⟩) (fun e=>D0 e.symm) _,dN,fun q v bj au=>?_⟩,by rw[dz,Pg],fun j s v al au=>?_,fun j s v al au=>?_,fun a b v eb hz au eU=>?_,by rw[dz];omega,by rw[dz];omega,h.hg,by rcases Df with rfl|aD;exact h.hgs;omega⟩,?_⟩
 .rw[dz] at bj;by_cases af:q<i*5
  .exact dn q v oM (by rw[←ca q af];exact au)
  .by_cases ao:q<i*5+5
   .rw[show q=i*5+(q-i*5) by omega,cI (q-i*5) oM] at au;have bg:=ua4 (by rw[gA] at au;exact au);simp only[uc7,ue3,ui2] at bg;rcases bg with rfl|rfl|rfl|rfl|rfl
    .rfl
    .exact jy
    .rfl
    .rfl
    .rfl
   .exact dn (q-5) v oM (by rw[←z3 (q-5) oM oM,show 5+(q-5)=q by omega];exact au)
 .rcases q6 j s v al au with ⟨hn,fc,g0,an⟩|⟨rfl,rfl,rfl⟩
  .obtain ⟨be,b8,cn,c0,c3⟩:=h.cells hn s v fc g0;have dk:=(ue1.1 fc).1
   have cq:∀ k,k<5→(aq.setCell ⟨g,0,Z⟩ (D (N ⟨e5,0,Z⟩) (l.length+1) fE)).cell? ⟨e5,j*5+k,Z⟩=w.cell? ⟨ap,hn*5+k,Z⟩:=fun k aw=>by
    rw[ue6 (a:=⟨e5,j*5+k,Z⟩) hgs,cm.cell,aL.cell];rcases an with ⟨af,rfl⟩|⟨af,rfl⟩
    .exact ca _ oM
    .rw[show (hn+1)*5+k=5+(hn*5+k) by omega];exact z3 _ oM oM
   exact klA
  .have cq:∀ k,k<5→(aq.setCell ⟨g,0,Z⟩ (D (N ⟨e5,0,Z⟩) (l.length+1) fE)).cell? ⟨e5,j*5+k,Z⟩= #[Q ⟨s.op.toArray⟩,v,I U s.num,Q ⟨s.text.toArray⟩,I U s.ty][k]? :=fun k aw=>by rw[ue6 (a:=⟨e5,j*5+k,Z⟩) hgs,cm.cell];exact cI k aw
   exact ⟨cq 0 oM,cq 1 oM,cq 2 oM,cq 3 oM,cq 4 oM⟩
 .rcases q6 j s v al au with ⟨hn,fc,g0,_⟩|⟨rfl,rfl,rfl⟩
  .refine kcx (h.own hn s v fc g0) (fun b ak=>?_);obtain ⟨jV,kZ⟩:=h.apart fc g0 ak;exact rT b (kdr (h.own hn s v fc g0) b ak) jV kZ
  .refine kcx bf (fun b ak=>rT b (kdr bf b ak) (fun e=>?_) (fun e=>?_))
   .exact ka5 bf h.ed dC (by rw[ak,e])
   .exact ka5 bf aL dC (by rw[ak,e])
 .rcases D3 a v au with ⟨ib,aE,iV⟩|⟨af,rfl⟩
  .rcases D3 b eb eU with ⟨cx,ak,ej⟩|⟨ao,rfl⟩
   .exact h.dis ib cx v eb oM aE ak
   .rcases hd ib v aE with aD|aD
    .cases hvo:v.ownBlock with
     |none=>exact .inl rfl
     |some x=>exact .inr (by rw[aD];intro e;cases e)
    .exact .inr aD
  .rcases D3 b eb eU with ⟨cx,ak,ej⟩|⟨ao,rfl⟩
   .rcases hd cx eb ak with aD|aD
    .exact .inl aD
    .exact .inr (fun e=>aD e.symm)
   .omega
 .exact (FrX.grown iY f5 h.hgs aL dC).setCell (p:=⟨g,0,Z⟩) h.hg qg dC _
def kyt (ap kf n i cap:Nat) (cs ga:Array C) (w:O) (b0:Blk w ap 77 cs) (dN:cs.size=cap*5) (p4:Blk w kf 77 ga) (dU:ga.size=5) (ch:kf≠ap) (hi:i<n) (qk:n≤cap) (rX:n≤100000) (af:∀ q v,q<n*5→cs[q]? =N v→v.oneCell'=K) (ui:∀ v∈ga.toList,v.oneCell'=K):
 L prog 157 #[D (N ⟨ap,0,Z⟩) n cap,I U i,D (N ⟨kf,0,Z⟩) 1 1] w (kgp ap n i cs ga w):=by
 by_cases h:n+1≤cap
 .exact kyr ap kf n i cap cs ga w b0 dN p4 dU ch hi h rX af ui
 .obtain rfl:cap=n:=oM;exact kys ap kf cap i cs ga w b0 dN p4 dU hi rX af ui
def fIn (i:Nat) (a:Int):Int:=if (i:Int)≤a then a+1 else a
def kDg (base g ap cap:Nat) (f0:Int→Int) (i d:Nat) (bx:List St) (vs:List C) (aP:C) (w:O) (dt:Nat) (Az:Array C) (sw:C) (xs:List Int) (f:Nat) (c:C) (wr:O):Prop:=∃ p:Nat,c=I U p∧p≤d∧d-p<f∧Hz (EdX wr base g ap cap (kaw f0 i p bx) vs aP)∧Hz (FrX base w wr)∧Hz (Blk wr dt 77 Az)∧Hz (wr.ownsRow base 3 1 sw xs.length (xs.map (I U)))
def kDh (base g ap cap:Nat) (f0:Int→Int) (i p:Nat) (bx:List St) (s:St) (vs:List C) (aP:C) (w:O) (cL:Nat) (nh:Array C) (dt:Nat) (Az:Array C) (sw:C) (xs:List Int) (f:Nat) (c:C) (wr:O):Prop:=∃ k:Nat,c=I U k∧k≤s.args.length∧s.args.length-k<f∧Hz (Blk wr cL 77 nh)∧Hz (EdX wr base g ap cap ((kaw f0 i p bx).set (i+p) { s with args:=kaZ f0 s.args k }) vs aP)∧Hz (FrX base w wr)∧Hz (Blk wr dt 77 Az)∧Hz (wr.ownsRow base 3 1 sw xs.length (xs.map (I U)))
def kyu {l:List St} {i d:Nat} {s:St} (h:i+d=l.length):(kaw (fIn i) i d l).take i++s::(kaw (fIn i) i d l).drop i=Oz.maq l i s:=by rw[kjR h];have az:(l.take i).length=i:=(by rw[ub8];omega);have af:(l.take i++(l.drop i).map (Oz.mapA (fIn i))).take i=l.take i:=(by rw[ul9 oM,ui7 oM]);have ao:(l.take i++(l.drop i).map (Oz.mapA (fIn i))).drop i=(l.drop i).map (Oz.mapA (fIn i)):=(by rw[List.drop_append_of_le_length oM,um3 oM,uj4]);rw[af,ao];rfl
def kj9 (base g ap cap i:Nat) (l:List St) (vs:List C) (aP:C) (w:O) (h:EdX w base g ap cap l vs aP) (hi:i<l.length) (ew:l.length+1≤100000) (ak:∀ s∈l,s.args.length≤3∧∀ a∈s.args,0≤a∧a≤100000) (op:List UInt8) (xs:List Int) (num:Int) (text:List UInt8) (ty:Int) (sw:C)
 (pu:w.ownsRow base 3 1 sw xs.length (xs.map (I U))) (hd:∀(j:Nat) (v:C),vs[j]? =N v→sw.ownBlock=Z∨v.ownBlock≠sw.ownBlock):
 L prog 120 #[ab (N ⟨g,0,Z⟩),I U i,aa #[Q ⟨op.toArray⟩,sw,I U num,Q ⟨text.toArray⟩,I U ty]] w fun e w'=>e=ac (ag #[])∧(∃ e5 fE,EdX w' base g e5 fE (Oz.maq l i (Oz.mk op xs num text ty)) (vs.take i++sw::vs.drop i) aP)∧FrX base w w':=by
 obtain ⟨oY,oZ,rfl⟩:=kaA pu;have eI:=h.le;have kX:=h.cap;have f5:=h.maz;obtain ⟨n,ax⟩:=xE l.length;have kW:i<n:=oM;obtain ⟨dc,bF,q7,ev,cW,Ph,dh⟩:=hd7 kW ax ew ak hd pu h;have ef:=h.ed.lt;have IK:n≤cap:=oM;have rX:n≤100000:=oM;clear h ak hd pu ax ew hi eI kX;go_enter func120,ntmps120;go_upto_region 1 with (fail);obtain ⟨aF,bW⟩:=xE (w.alloc (y #[Q ⟨op.toArray⟩,D oY xs.length oZ,I U num,Q ⟨text.toArray⟩,I U ty] 77));rw[←bW];have bs:=bA bW;have ei:=bN bW;obtain ⟨eY,b4,oT⟩:=hd3 (dh.o.below bs) ((FrX.refl base w).below bs f5) (kaI Ph.o bs);have z0:=eY.o.ed.cell 0;simp only[gA,gB] at z0;rw[←bF.o] at z0;obtain ⟨d,hd⟩:=xE (n-i);have AR:n-i=d:=hd.symm;have AS:¬(cap=i):=oM;have wk:(i:Int)≤(n:Int):=oM;have Ij:=nN i;have wl:(n:Int)≤(cap:Int):=oM;have sY:Hz (i+d=n):=hD (by have:=dc.o;omega);have rV:d≤100000:=oM;have sZ:Hz (EdX aF base g ap cap (kaw (fIn i) i 0 l) vs aP):=hD (by rw[kjO];exact eY.o);clear bW bs hd eY;go_wp2_with fail;clear z0;go_loopg [7,8,9,17,24] (d+1) (fun f _ _ _ c _ wr=>kDg base g ap cap (fIn i) i d l vs aP w w #[Q ⟨op.toArray⟩,D oY xs.length oZ,I U num,Q ⟨text.toArray⟩,I U ty] (D oY xs.length oZ) xs f c wr)
 case atStart=>exact ⟨0,rfl,oM,oM,sZ,b4,ei,oT⟩
 case round=>
  clear sZ b4 ei oT;obtain ⟨p,rfl,aO,Br,bq,b4,f7,oT⟩:=hrel;obtain ⟨f,rfl⟩:=xS gk;by_cases bG:p<d
  .obtain ⟨s,al⟩:∃ s,l[i+p]? =N s:=⟨l[i+p]'(by have:=bF.o;have:=sY.o;omega),ua3 _⟩;have fc:(kaw (fIn i) i p l)[i+p]? =N s:=mapFrom_get.trans al;have ku:=ev.o s (ua4 al);obtain ⟨v,au,⟨be,b8,cn,c0,c3⟩,bf⟩:=bq.o.at_ fc;obtain ⟨A,c,rfl⟩:=kaA bf;rw[show (i+p)*5=i*5+p*5 by omega] at be b8 cn c0 c3;have sN:=hD (kjP (f:=fIn i) al);exact kio
  .have oR:p=d:=oM;subst oR;have cU:¬((p:Int)<(p:Int)):=oM;clear bG Br aO;go_upto_region 11 with (fail);obtain ⟨m,bg⟩:=xE (kaw (fIn i) i p l);rw[←bg] at bq;have jl:m.length=n:=(by rw[bg,kjQ];exact bF.o.symm);have IR:m.take i++Oz.mk op xs num text ty::m.drop i=Oz.maq l i (Oz.mk op xs num text ty):=(by rw[bg];exact kyu (by rw[←bF.o];exact sY.o));obtain ⟨W,dH⟩:=xE ((wr.alloc (y #[Q ⟨op.toArray⟩,D oY xs.length oZ,I U num,Q ⟨text.toArray⟩,I U ty] 77)).drew);have uK:H wr wr W:=(by rw[dH];exact (kax _ _).drew);have wo:Blk W wr 77 #[Q ⟨op.toArray⟩,D oY xs.length oZ,I U num,Q ⟨text.toArray⟩,I U ty]:=(by rw[dH];exact (Blk.new _ _ _).drew);obtain ⟨yJ,BD,IS⟩:=hd3 (bq.o.below uK) (b4.o.below uK bq.o.maz) (kaI oT.o uK);obtain ⟨cs,aL,bJ,dn⟩:=yJ.o.blk;rw[jl] at dn;have IT:=hD aL;have IU:wr.heap.size≠ap:=fun e=>by have:=bq.o.maR;omega
   have Bt:=kyt ap wr n i cap cs _ W aL bJ wo rfl IU dc.o IK rX (fun q v bj au=>dn q v bj au) (by simp[Value.oneCell']);have uL:=hD jl;have IV:Hz (L prog 157 #[D (N ⟨ap,0,Z⟩) n cap,I U i,D (N ⟨wr,0,Z⟩) 1 1] W fun e bm=>∃ e5 fE,e=ac (D (N ⟨e5,0,Z⟩) (n+1) fE)∧bm.cell? ⟨g,0,Z⟩=N (D (N ⟨ap,0,Z⟩) n cap)∧bm.frozen? ⟨g,0,Z⟩=J∧EdX (bm.setCell ⟨g,0,Z⟩ (D (N ⟨e5,0,Z⟩) (n+1) fE)) base g e5 fE (Oz.maq l i (Oz.mk op xs num text ty)) (vs.take i++D oY xs.length oZ::vs.drop i) aP∧FrX base w (bm.setCell ⟨g,0,Z⟩ (D (N ⟨e5,0,Z⟩) (n+1) fE))):=hD (by refine Bt.mono ?_;rintro e bm ⟨e5,fE,eo,rfl,hg,Df,cQ,mX,vJ,af,ao,av⟩;have sL:Blk bm g 85 #[D (N ⟨ap,0,Z⟩) m.length cap,aP]:=yJ.o.ed.grown hg (fun e=>yJ.o.ne (by injection e));rw[uL.o] at sL;have D4:=yJ.o.ins (n:=n) uL.o.symm dc.o (by have:=q7.o;have:=bF.o;omega) (Oz.mk op xs num text ty) (D oY xs.length oZ) IS.o cW.o rfl hg Df eo cQ mX vJ (fun Cs aD=>by have:Cs=cs:=(by have:=aD.symm.trans IT.o;injection this with this;injection this);subst this;exact ⟨af,ao,av⟩) rfl;rw[IR] at D4;have k0:=sL.cell 0;simp only[gA,gB] at k0;exact ⟨e5,fE,by rw[ub7],k0,sL.frozen 0,D4.1,BD.o.trans D4.2⟩);rw[dH] at IV;have aN:=bq.o.ed.cell 0;simp only[gA,gB] at aN;rw[jl] at aN;obtain ⟨t0,bb,db,t3,t4⟩:wr.cell? ⟨w,0,Z⟩=N (Q ⟨op.toArray⟩)∧wr.cell? ⟨w,1,Z⟩=N (D oY xs.length oZ)∧wr.cell? ⟨w,2,Z⟩=N (I U num)∧wr.cell? ⟨w,3,Z⟩=N (Q ⟨text.toArray⟩)∧wr.cell? ⟨w,4,Z⟩=N (I U ty):=⟨f7.o.cell 0,f7.o.cell 1,f7.o.cell 2,f7.o.cell 3,f7.o.cell 4⟩;have bx:=bq.o.ed.lt;have et:=f7.o.lt;clear Bt aL bJ dn bg jl IR dH uK wo IU yJ BD IS IT uL W;go_region_with (go_at_call 157;refine IV.o.mono ?_;rintro e bm ⟨e5,fE,rfl,k0,k1,hX,i6⟩;have hu:=hD hX;have pA:=hD i6;clear hX i6)
   (all_goals go_wp2_with fail;refine bodyPost_end (v:=ag #[]) (by simp[results,results120,go_sem]) rfl ?_;exact ⟨rfl,⟨_,_,hu.o⟩,pA.o⟩)
def khR (h:P:=by have cC:Hz (R=Z):=hD (by rw[cX.o,ua1 rfl]);exact kh5):=h
def kit (h:P:=by have bd:=uh9 cf.o.symm;have cC:Hz (R=Z):=hD (by rw[a1.o,ua0 bd]);clear bd;exact khX):=h
def kl3 (h:P:=by
 have qo:Oz.arg s 0=(j:Int):=(by unfold Oz.arg;rw[ub6,aS];rfl);rw[kal al] at aH;dsimp only at aH;rw[qo,ub7,kal aB] at aH;obtain ⟨n,ax⟩:=xE l.length;rw[←ax] at be;obtain ⟨dh,bF,ev⟩:=hd3 h ax ak;have dc:Hz (i<l.length):=hD dK;have lj:Hz (j<l.length):=hD dk;have cU:(i:Int)<(n:Int):=oM;have bE:=nN i;have c2:(j:Int)<(n:Int):=oM;have j4:=nN j;have mi:j<n:=oM;have kP:i<n:=oM;have ef:=h.ed.lt;have dW:=h.maR;obtain ⟨hM,D5,eY,b7,hj⟩:=hd5 f8 (kpC h eU) aB al be;obtain ⟨bS,cu⟩:=xE t.args.length;rw[←cu] at ca;have fS:=hD cu;obtain ⟨X,d6⟩:=xE t.text;rw[←d6] at z3;have D6:=hD d6;obtain ⟨op2,gP⟩:=xE t.op;rw[←gP] at z0;have Pi:=hD gP;obtain ⟨oV,mu⟩:=xE t.num;rw[←mu] at cI;have Pj:=hD mu;obtain ⟨oW,mv⟩:=xE t.ty;rw[←mv] at z4;have Pk:=hD mv;have cf:=hD bd
 first
 |guard_hyp Pe;(first|(first|guard_hyp yU|guard_hyp yW);rw[ba,ua0 (by simp only[ul6];exact ⟨dC,oM⟩)] at aH|rw[ba,ua0 dC] at aH);rw[ba] at bu;(first|guard_hyp yU;unfold Oz.mal at bu;have qq:(n:Int)<4096:=oM;have qr:n<4096:=oM;have fd:1≤bS:=(by have:=(gH fK).1;omega);have ma:(0:Int)<(bS:Int):=oM;have yH:0<bS:=oM;obtain ⟨r,bC,gj,_,wy,hl,jX⟩:=kb3 f8 oM;injection gj with d4 hh cq;clear hh;subst d4 cq;have dt:w.cell? ⟨r,0,Z⟩=N (I U a):=jX 0 _ (by rw[ub9,fK];rfl);have fY:Oz.arg t 0=a:=(by unfold Oz.arg;rw[ub6,fK];rfl);have gQ:2≤bS:=(by have:=(gH jL).1;omega);have yI:(1:Int)<(bS:Int):=oM;have yK:1<bS:=oM;have cL:w.cell? ⟨r,1,Z⟩=N (I U b):=jX 1 _ (by rw[ub9,jL];rfl);have eT:Oz.arg t 1=b:=(by unfold Oz.arg;rw[ub6,jL];rfl);have hz:=(bs t (ua4 aB)).2 a (ua4 fK);have eZ:=(bs t (ua4 aB)).2 b (ua4 jL);obtain ⟨yL,D7,yM,wA,D8,IW,wB,dv⟩:=hd8 fY eT dt cL hz eZ bs ca;clear jX dt cL fY eT fK jL bs hz eZ z0 ca cI z3 z4 bY cP c8 dj|guard_hyp yW;unfold Oz.mal at bu;have qq:(n:Int)<4096:=oM;have qr:n<4096:=oM;obtain rfl:z=J:=by rw[bd];exact ua5 (fun e=>dY e.1)|guard_hyp uR;unfold Oz.mal at bu;obtain rfl:z=J:=by rw[bd];exact ua5 dY|guard_hyp yT;unfold Oz.mbq at bu;obtain rfl:z=J:=by rw[bd];exact ua5 (fun e=>dY e.1)|guard_hyp uP;unfold Oz.mal at bu|unfold Oz.mbn at bu);have a1:=hD aH;clear h aI al aB au bf eU f8 ax aH bd ob ba qo aS ak cu d6 gP mu mv jj;(first|guard_hyp uR;go_enter func76,ntmps76|guard_hyp yT;go_enter func73,ntmps73|guard_hyp uP;go_enter func74,ntmps74|guard_hyp Ec;go_enter func72,ntmps72|go_enter func75,ntmps75);go_wp2_with fail;refine a8.o.mono ?_;rintro e aq ⟨rfl,cm⟩;have a7:=hD cm;clear cm a8 be bu
  first
  |guard_hyp yU
   cases z with
   |false=>have bd:=uh9 cf.o.symm;have cC:Hz (R=Z):=hD (by rw[a1.o,ua0 bd]);clear bd;go_wp2_with fail;go_ret;unfold kaH;rw[cC.o];exact ⟨rfl,a7.o⟩
   |true=>
   have bd:=ug4 cf.o.symm;have ic:Hz (∀ w,EdAt w g ap cap l (D (N ⟨bz,0,Z⟩) l.length l.length)→L prog 118 #[ab (N ⟨g,0,Z⟩),I U i,I U j] w fun e w'=>e=ac (V (Oz.maA l i j))∧H w w w'):=hD (fun w h=>kfK g ap cap l _ w h j i b9 dc.o);obtain ⟨jh,ej⟩:=xE (Oz.maA l i j);rw[←ej] at ic;have co:=a1.o;rw[ua1 bd] at co;dsimp only at co;rw[←ej,kal eY.o] at co;have cX:=hD co;have ji:=hD ej;clear bd co ej;go_wp2_with fail;refine (ic.o aq (dh.o.below a7.o).ma5).mono ?_;rintro e aF ⟨rfl,bs⟩;have bo:=bT a7 bs;clear bs ic
   cases jh with
   |false=>have cC:Hz (R=Z):=hD (by rw[cX.o,ua1 rfl]);go_wp2_with fail;go_ret;unfold kaH;rw[cC.o];exact ⟨rfl,bo.o⟩
   |true=>
   obtain ⟨bx,ew⟩:=xE (Oz.maq l j (Oz.mk [108,101,110] [a] 0 [] 1));obtain ⟨et,kI⟩:=xE (Oz.maq bx (j+1) (Oz.mk [108,101,110] [b] 0 [] 1));obtain ⟨lf,kJ⟩:=xE (et.set (j+2) (Oz.mk [43] [(j:Int),(j:Int)+1] 0 [] 1));have e2:bx.length=n+1:=(by rw[ew,kdV,bF.o]);have fT:et.length=n+2:=(by rw[kI,kdV,e2]);have mx:lf.length=n+2:=(by rw[kJ,ud8,fT]);have pB:Oz.maA lf (i+2) (j+2)=K:=(by rw[kJ,khB,kI,kkR bx (i+1) (j+1) _ oM,ew,kkR l i j _ (ui0 lj.o)];exact ji.o.symm);obtain ⟨bX,my⟩:=khd pB;have cC:Hz (R=N bX):=hD (by rw[cX.o,ua0 dC,yL.o,D7.o];rw[kJ,kI,ew] at my;exact my);have BE:Hz (∀ s∈bx,s.args.length≤3∧∀ a∈s.args,0≤a∧a≤4096+1):=hD (by rw[ew];exact kkb wB.o ⟨by show 1≤3;decide,fun x aA=>by have:=D8.o;simp only[Oz.mk,uc7,ue3,ui2] at aA;omega⟩);have Pl:Hz (∀ s∈et,s.args.length≤3∧∀ a∈s.args,0≤a∧a≤4096+1+1):=hD (by rw[kI];exact kkb BE.o ⟨by show 1≤3;decide,fun x aA=>by have:=IW.o;simp only[Oz.mk,uc7,ue3,ui2] at aA;omega⟩);have D9:Hz (∀ s∈lf,s.args.length≤3∧∀ a∈s.args,0≤a∧a≤4096+1+1):=hD (by rw[kJ];exact koK Pl.o ⟨by show 2≤3;decide,fun x aA=>by simp only[Oz.mk,uc7,ue3,ui2] at aA;omega⟩);obtain ⟨q7,kq,uM,uN,iw,jv,nY⟩:=hd7 ew kI kJ my e2 fT mx;have IX:((j+1:Nat):Int)=(j:Int)+1:=oM;have Pm:IntKind.i64.wrap ((j:Int)+1)=(j:Int)+1:=uc5 _ oM;have Y7:IntKind.i64.wrap ((j:Int)+2)=(j:Int)+2:=uc5 _ oM;have Y8:IntKind.i64.wrap ((i:Int)+2)=(i:Int)+2:=uc5 _ oM;have Pn:=hD IX;clear ew kI kJ my e2 fT mx pB IX;have Y9:=wB;rw[←bF.o] at dh;have aN:=(bo.o.cell (p:=⟨g,0,Z⟩) ef).trans hj.o;have aW:=(bo.o.cell (p:=⟨ap,_,Z⟩) dW).trans dv.o;have bw:=(bo.o.cell (p:=⟨r,0,Z⟩) hl).trans yM.o;have aL:=(bo.o.cell (p:=⟨r,1,Z⟩) hl).trans wA.o;go_wp2_with fail;go_quiet (fail);go_upto_region 7 with (fail);obtain ⟨a6,cl⟩:=xE (aF.drewN nq);rw[←cl];have bU:Hz (H w w a6):=hD (by rw[cl];exact kbm bo.o _);clear cl aN aW bw aL;have eL:=hD (dh.o.below bU.o);have ln:=hD ((FrX.refl base w).below bU.o f5);go_wp2_with fail;refine (kjW a a6).mono ?_;rintro e aK ⟨At,rfl,gc,bv⟩;have cj:=(kbE gc rfl).1;have yN:=hD (eL.o.below bv);have l1:=hD (ln.o.below bv eL.o.maz);have r1:=hD (kj9 base g ap cap j l vs (D (N ⟨bz,0,Z⟩) n n) aK yN.o (lj.o) (by have:=bF.o;omega) (kgh wB.o oM) [108,101,110] [a] 0 [] 1 (D (N ⟨At,0,Z⟩) 1 1) (gc.mono eL.o.maz) (kkv eL.o cj 1 1));clear gc bv cj;go_wp2_with fail;refine r1.o.mono ?_;rintro e bm ⟨rfl,⟨nT,su,hX⟩,i6⟩;have pA:=hD (l1.o.trans i6);rw[←q7.o] at hX;have hu:=hD hX;clear hX i6 r1 yN l1 eL ln;obtain ⟨BF,yO⟩:=xE (vs.take j++D (N ⟨At,0,Z⟩) 1 1::vs.drop j);rw[←yO] at hu;clear yO;go_wp2_with fail;refine (kjW b bm).mono ?_;rintro e du ⟨MC,rfl,hr,eu⟩;have cj:=(kbE hr rfl).1;have IY:=hD (hu.o.below eu);have BG:=hD (pA.o.below eu hu.o.maz);have r1:=hD (kj9 base g nT su (j+1) bx BF (D (N ⟨bz,0,Z⟩) n n) du IY.o (by rw[iw.o];omega) (by rw[iw.o];omega) (kgh BE.o oM) [108,101,110] [b] 0 [] 1 (D (N ⟨MC,0,Z⟩) 1 1) (hr.mono hu.o.maz) (kkv hu.o cj 1 1));clear hr eu cj;rw[Pn.o] at r1;go_wp2_with fail;refine r1.o.mono ?_;rintro e dl ⟨rfl,⟨vK,MD,ss⟩,oz⟩;have yx:=hD (BG.o.trans oz);rw[←kq.o] at ss;have qm:=hD ss;clear ss oz r1 IY BG hu pA;obtain ⟨Za,IZ⟩:=xE (BF.take (j+1)++D (N ⟨MC,0,Z⟩) 1 1::BF.drop (j+1));rw[←IZ] at qm;clear IZ;obtain ⟨t9,yP⟩:∃ t9,et[j+2]? =N t9:=⟨_,ua3 (by rw[jv.o];omega)⟩;obtain ⟨v9,Ea,⟨bi,aW,bc,br,bL⟩,yQ⟩:=qm.o.at_ yP;obtain ⟨ci,c9,rfl⟩:=kaA yQ;have aN:=qm.o.ed.cell 0;simp only[gA,gB] at aN;rw[jv.o] at aN;obtain ⟨f0,b2,cB,dS,eJ⟩:dl.frozen? ⟨vK,(j+2)*5,Z⟩=J∧dl.frozen? ⟨vK,(j+2)*5+1,Z⟩=J∧dl.frozen? ⟨vK,(j+2)*5+2,Z⟩=J∧dl.frozen? ⟨vK,(j+2)*5+3,Z⟩=J∧dl.frozen? ⟨vK,(j+2)*5+4,Z⟩=J:=(by obtain ⟨cs,aL,_⟩:=qm.o.blk;exact zq3);have aO:=qm.o.mb9 (i:=j+2) (by rw[jv.o];omega) (Oz.mk [43] [(j:Int),(j:Int)+1] 0 [] 1) (by show 2≤100;decide);rw[←uM.o] at aO;have cp:=hD aO.1;have b4:=hD (yx.o.trans aO.2);have iY:=qm.o.maR;have fW:=qm.o.ed.lt;have wi:(j:Int)+2<(n:Int)+2:=oM;have wj:(0:Int)≤(j:Int)+2:=oM;have ye:((j:Int)+2).toNat=j+2:=oM;clear aO yP Ea yQ;have iB:=hD (kc6 base g vK MD (i+2) (j+2) lf _ _ _ cp.o oM (by rw[nY.o];have:=dc.o;have:=bF.o;omega) (kgh D9.o oM));rw[uN.o,show ((i+2:Nat):Int)=(i:Int)+2 by omega,show ((j+2:Nat):Int)=(j:Int)+2 by omega] at iB;go_upto_region 10 with (fail);clear aN bi aW bc br bL f0 b2 cB dS eJ;go_wp2_with fail;refine iB.o.mono ?_;intro e c7 gM;have gM:e=ac (V K)∧(∃ ip,EdX c7 base g vK MD bX ip (D (N ⟨bz,0,Z⟩) n n))∧FrX base _ c7:=gM;obtain ⟨rfl,⟨ip,jk⟩,ke⟩:=gM;have m6:=hD jk;have f4:=hD (b4.o.trans ke);clear jk ke iB cp b4;go_wp2_with fail;go_ret;unfold kaH;rw[cC.o,←bF.o];exact ⟨rfl,⟨_,_,_,m6.o⟩,f4.o⟩
  |guard_hyp yW;have bd:=uh9 cf.o.symm;have cC:Hz (R=Z):=hD (by rw[a1.o,ua0 bd]);clear bd;go_wp2_with fail;go_ret;unfold kaH;rw[cC.o];exact ⟨rfl,a7.o⟩
  |guard_hyp uR;have bd:=uh9 cf.o.symm;have cC:Hz (R=Z):=hD (by rw[a1.o,ua0 bd]);clear bd;go_wp2_with fail;go_quiet (fail);go_wp2_with fail;go_ret;unfold kaH;rw[cC.o];exact ⟨rfl,kbm a7.o _⟩
  |guard_hyp yT;have bd:=uh9 cf.o.symm;have cC:Hz (R=Z):=hD (by rw[a1.o,ua0 bd]);clear bd;go_wp2_with fail;go_ret;unfold RepEnd;rw[cC.o];exact ⟨rfl,a7.o⟩
  |guard_hyp uP
   cases z with
   |false=>exact kit
   |true=>
   have bd:=ug4 cf.o.symm;have ic:Hz (∀ w,EdAt w g ap cap l (D (N ⟨bz,0,Z⟩) l.length l.length)→L prog 118 #[ab (N ⟨g,0,Z⟩),I U i,I U j] w fun e w'=>e=ac (V (Oz.maA l i j))∧H w w w'):=hD (fun w h=>kfK g ap cap l _ w h j i b9 dc.o);obtain ⟨jh,ej⟩:=xE (Oz.maA l i j);rw[←ej] at ic;have co:=a1.o;rw[ua1 bd] at co;dsimp only at co;rw[←ej,kal eY.o] at co;have cX:=hD co;have ji:=hD ej;clear bd co ej;go_wp2_with fail;refine (ic.o aq (dh.o.below a7.o).ma5).mono ?_;rintro e aF ⟨rfl,bs⟩;have bo:=bT a7 bs;clear bs ic
   cases jh with
   |false=>exact khR
   |true=>
   obtain ⟨bX,my⟩:∃ bX,Oz.mad (l.set j (Oz.mk kbS t.args 0 [] 1)) i j=N bX:=khd (by rw[khB];exact ji.o.symm);have cC:Hz (R=N bX):=hD (by rw[cX.o,ua0 dC];exact my);have uN:=hD my;clear my;have yR:=(bo.o.cell (p:=⟨ap,_,Z⟩) dW).trans z0;have uB:=(bo.o.cell (p:=⟨ap,_,Z⟩) dW).trans ca;have rO:=(bo.o.cell (p:=⟨ap,_,Z⟩) dW).trans cI;have ux:=(bo.o.cell (p:=⟨ap,_,Z⟩) dW).trans z3;have uy:=(bo.o.cell (p:=⟨ap,_,Z⟩) dW).trans z4;have yS:=(bo.o.cell (p:=⟨g,0,Z⟩) ef).trans hj.o;go_upto_region 6 with (fail);obtain ⟨a6,cl⟩:=xE aF;rw[←cl];have bU:Hz (H w w a6):=hD (by rw[cl];exact bo.o);clear cl yR uB rO ux uy yS;have aN:=(bU.o.cell (p:=⟨g,0,Z⟩) ef).trans hj.o;have bi:=(bU.o.cell (p:=⟨ap,_,Z⟩) dW).trans z0;have aW:=(bU.o.cell (p:=⟨ap,_,Z⟩) dW).trans ca;have bc:=(bU.o.cell (p:=⟨ap,_,Z⟩) dW).trans cI;have br:=(bU.o.cell (p:=⟨ap,_,Z⟩) dW).trans z3;have bL:=(bU.o.cell (p:=⟨ap,_,Z⟩) dW).trans z4;obtain ⟨f0,b2,cB,dS,eJ⟩:a6.frozen? ⟨ap,j*5,Z⟩=J∧a6.frozen? ⟨ap,j*5+1,Z⟩=J∧a6.frozen? ⟨ap,j*5+2,Z⟩=J∧a6.frozen? ⟨ap,j*5+3,Z⟩=J∧a6.frozen? ⟨ap,j*5+4,Z⟩=J:=(by obtain ⟨cs,aL,_⟩:=(dh.o.below bU.o).blk;exact zq3);have aO:=(dh.o.below bU.o).put lj.o (Oz.mk kbS t.args 0 [] 1) (D fD t.args.length aZ) (kaI hM.o bU.o) D5.o;rw[←fS.o] at aO;have cp:=hD aO.1;have b4:=hD (((FrX.refl base w).below bU.o f5).trans aO.2);clear aO z0 ca cI z3 z4
   have qp:Hz (∀ s∈l.set j (Oz.mk kbS t.args 0 [] 1),s.args.length≤3∧∀ a∈s.args,0≤a∧a≤100000):=hD (fun s' fc=>by
    rcases uh5 fc with af|rfl
    .exact ev.o s' af
    .exact ev.o t (ua4 eY.o))
   go_region
   have oc:=hD (cp.o.below ((ub5 _ _).drew));have l1:=hD (b4.o.below ((ub5 _ _).drew) cp.o.maz);have iB:=hD (kc6 base g ap cap i j _ _ _ _ oc.o b9 (by rw[ud8];exact dc.o) qp.o);rw[uN.o] at iB;clear cp b4 oc bi aW bc br bL f0 b2 cB dS eJ aN;go_wp2_with fail;refine iB.o.mono ?_;intro e bm cb;have cb:e=ac (V K)∧(∃ ip,EdX bm base g ap cap bX ip (D (N ⟨bz,0,Z⟩) l.length l.length))∧FrX base _ bm:=cb;obtain ⟨rfl,⟨ip,jk⟩,ke⟩:=cb;have m6:=hD jk;have f4:=hD (l1.o.trans ke);clear jk ke iB;go_wp2_with fail;go_ret;unfold RepEnd;rw[cC.o];exact ⟨rfl,⟨_,m6.o⟩,f4.o⟩
  |cases z with
   |false=>exact kit
   |true=>
   have bd:=ug4 cf.o.symm;have ic:Hz (∀ w,EdAt w g ap cap l (D (N ⟨bz,0,Z⟩) l.length l.length)→L prog 118 #[ab (N ⟨g,0,Z⟩),I U i,I U j] w fun e w'=>e=ac (V (Oz.maA l i j))∧H w w w'):=hD (fun w h=>kfK g ap cap l _ w h j i b9 dc.o);obtain ⟨jh,ej⟩:=xE (Oz.maA l i j);rw[←ej] at ic;have co:=a1.o;rw[ua1 bd] at co;dsimp only at co;rw[←ej,kal eY.o] at co;have cX:=hD co;have ji:=hD ej;clear bd co ej;go_wp2_with fail;refine (ic.o aq (dh.o.below a7.o).ma5).mono ?_;rintro e aF ⟨rfl,bs⟩;have bo:=bT a7 bs;clear bs ic
   cases jh with
   |false=>exact khR
   |true=>
   rw[D6.o] at z3;obtain ⟨bX,my⟩:∃ bX,Oz.mad (l.set j (Oz.mk kbN t.args 0 t.text 1)) i j=N bX:=khd (by rw[khB];exact ji.o.symm);have cC:Hz (R=N bX):=hD (by rw[cX.o,ua0 dC];exact my);have uN:=hD my;clear my;have yR:=(bo.o.cell (p:=⟨ap,_,Z⟩) dW).trans z0;have uB:=(bo.o.cell (p:=⟨ap,_,Z⟩) dW).trans ca;have rO:=(bo.o.cell (p:=⟨ap,_,Z⟩) dW).trans cI;have ux:=(bo.o.cell (p:=⟨ap,_,Z⟩) dW).trans z3;have uy:=(bo.o.cell (p:=⟨ap,_,Z⟩) dW).trans z4;have yS:=(bo.o.cell (p:=⟨g,0,Z⟩) ef).trans hj.o;go_upto_region 7 with (fail);obtain ⟨a6,cl⟩:=xE (aF.alloc (y #[Q ⟨op2.toArray⟩,D fD bS aZ,I U oV,Q ⟨t.text.toArray⟩,I U oW] 77));rw[←cl];have b3:=bA cl;have bU:=bT bo b3;have eA:=bN cl;clear cl b3 yR uB rO ux uy yS;have s1:=eA.o.cell 1;have s3:=eA.o.cell 3;simp only[gA,gB,gC] at s1 s3;have aN:=(bU.o.cell (p:=⟨g,0,Z⟩) ef).trans hj.o;have bi:=(bU.o.cell (p:=⟨ap,_,Z⟩) dW).trans z0;have aW:=(bU.o.cell (p:=⟨ap,_,Z⟩) dW).trans ca;have bc:=(bU.o.cell (p:=⟨ap,_,Z⟩) dW).trans cI;have br:=(bU.o.cell (p:=⟨ap,_,Z⟩) dW).trans z3;have bL:=(bU.o.cell (p:=⟨ap,_,Z⟩) dW).trans z4;obtain ⟨f0,b2,cB,dS,eJ⟩:a6.frozen? ⟨ap,j*5,Z⟩=J∧a6.frozen? ⟨ap,j*5+1,Z⟩=J∧a6.frozen? ⟨ap,j*5+2,Z⟩=J∧a6.frozen? ⟨ap,j*5+3,Z⟩=J∧a6.frozen? ⟨ap,j*5+4,Z⟩=J:=(by obtain ⟨cs,aL,_⟩:=(dh.o.below bU.o).blk;exact zq3);have aO:=(dh.o.below bU.o).put lj.o (Oz.mk kbN t.args 0 t.text 1) (D fD t.args.length aZ) (kaI hM.o bU.o) D5.o;rw[←fS.o] at aO;have cp:=hD aO.1;have b4:=hD (((FrX.refl base w).below bU.o f5).trans aO.2);clear aO z0 ca cI z3 z4
   have qp:Hz (∀ s∈l.set j (Oz.mk kbN t.args 0 t.text 1),s.args.length≤3∧∀ a∈s.args,0≤a∧a≤100000):=hD (fun s' fc=>by
    rcases uh5 fc with af|rfl
    .exact ev.o s' af
    .exact ev.o t (ua4 eY.o))
   go_region
   have oc:=hD (cp.o.below ((ub5 _ _).drew));have l1:=hD (b4.o.below ((ub5 _ _).drew) cp.o.maz);have iB:=hD (kc6 base g ap cap i j _ _ _ _ oc.o b9 (by rw[ud8];exact dc.o) qp.o);rw[uN.o] at iB;clear cp b4 oc bi aW bc br bL f0 b2 cB dS eJ aN;go_wp2_with fail;refine iB.o.mono ?_;intro e bm cb;have cb:e=ac (V K)∧(∃ ip,EdX bm base g ap cap bX ip (D (N ⟨bz,0,Z⟩) l.length l.length))∧FrX base _ bm:=cb;obtain ⟨rfl,⟨ip,jk⟩,ke⟩:=cb;have m6:=hD jk;have f4:=hD (l1.o.trans ke);clear jk ke iB;go_wp2_with fail;go_ret;unfold RepEnd;rw[cC.o];exact ⟨rfl,⟨_,m6.o⟩,f4.o⟩
 |rw[ba,ua0 dC] at aH;rw[ba] at bu;unfold Oz.mal at bu;obtain rfl:z=K:=(by rw[bd];exact ub3 Dn);have Po:=(gH td).1;obtain ⟨kf,m0,⟨Eb,_,_,_,_⟩,_⟩:=h.at_ td;have AQ:(mw:Int)<(n:Int):=oM;have Ih:=nN mw;have Ob:mw<n:=oM;have Pp:=hD td;have fd:1≤bS:=(by have:=(gH fK).1;omega);have ma:(0:Int)<(bS:Int):=oM;have yH:0<bS:=oM;obtain ⟨r,bC,gj,_,wy,hl,jX⟩:=kb3 f8 oM;injection gj with d4 hh cq;clear hh;subst d4 cq;have dt:w.cell? ⟨r,0,Z⟩=N (I U a):=jX 0 _ (by rw[ub9,fK];rfl);have fY:Oz.arg t 0=a:=(by unfold Oz.arg;rw[ub6,fK];rfl);have gQ:2≤bS:=(by have:=(gH jL).1;omega);have yI:(1:Int)<(bS:Int):=oM;have yK:1<bS:=oM;have cL:w.cell? ⟨r,1,Z⟩=N (I U mw):=jX 1 _ (by rw[ub9,jL];rfl);have eT:Oz.arg t 1=(mw:Int):=(by unfold Oz.arg;rw[ub6,jL];rfl);have hz:=(bs t (ua4 aB)).2 a (ua4 fK);have eZ:=(bs t (ua4 aB)).2 (mw:Int) (ua4 jL);obtain ⟨yL,D7,yM,wA,D8,IW,wB,dv⟩:=hd8 fY eT dt cL hz eZ bs ca;clear jX dt cL fY eT fK jL bs hz eZ z0 ca cI z3 z4 bY cP c8 dj;rw[ua1 Dn] at aH;dsimp only at aH;rw[kal eY.o,yL.o,D7.o,kal Pp.o] at aH
  first
  |guard_hyp I1;rw[nv] at Eb;unfold kac at Eb;have qq:(n:Int)≤4096:=oM;have qr:n≤4096:=oM;obtain ⟨jh,ej⟩:=xE (Oz.maA l i j);rw[←ej] at aH
   have e8:R=if jh=J then Z else Oz.mad ((Oz.maq l j (Oz.mk [108,101,110] [a] 0 [] 1)).set (j+1) (Oz.mk [42] [(j:Int),(mw:Int)] 0 [] 1)) (i+1) (j+1):=by
    rw[aH]
    cases jh with
    |false=>rw[ua1 (.inr rfl),ua1 rfl]
    |true=>rw[ua0 (by simp[nv]),ua0 dC];rfl
   have cX:=hD e8;have ji:=hD ej;have ic:Hz (∀ w,EdAt w g ap cap l (D (N ⟨bz,0,Z⟩) l.length l.length)→L prog 118 #[ab (N ⟨g,0,Z⟩),I U i,I U j] w fun e w'=>e=ac (V jh)∧H w w w'):=hD (fun w h=>by rw[ej];exact kfK g ap cap l _ w h j i b9 dK);clear e8 nv ej
  |have cC:Hz (R=Z):=hD (by rw[aH,ua1 (.inl nv)]);have dM:(hT.op== [110,117,109,98,101,114])=J:=ua2.2 nv;clear nv
  have a1:=hD aH;clear td m0 Dn Po h aI al aB au bf eU f8 ax aH bd ob ba qo aS ak cu d6 gP mu mv jj;go_enter func76,ntmps76;go_wp2_with fail;refine a8.o.mono ?_;rintro e aq ⟨rfl,cm⟩;have a7:=hD cm;clear cm a8;have aN:=(a7.o.cell (p:=⟨g,0,Z⟩) ef).trans be;have aW:=(a7.o.cell (p:=⟨ap,_,Z⟩) dW).trans dv.o;have aL:=(a7.o.cell (p:=⟨r,1,Z⟩) hl).trans wA.o;have bJ:=(a7.o.cell (p:=⟨ap,_,Z⟩) dW).trans Eb
  first
  |guard_hyp I1;have pC:Hz (∀ d os,L prog 118 #[ab (N ⟨g,0,Z⟩),I U i,I U j] (Go.Sort.grow (redrawn aq d) os) fun e sr=>e=ac (V jh)∧∃ p:Regrown,sr=Go.Sort.grow (redrawn aq p.d) p.os):=hD (fun d os=>ur0 (ic.o _ ((dh.o.below a7.o).ma5.below (uk1 aq d os))));have k0:=ui5 aN;have k1:=ui5 aW;have I0:=ui5 aL;have fp:=ui5 bJ
   cases jh with
   |false=>have cC:Hz (R=Z):=hD (by rw[cX.o,ua1 rfl]);go_wp2_with fail;refine uo9 kR kR ?_;(repeat (go_big_quiet_step ((go_at_call 118;exact pC.o _ _))));refine uu2 ?_;intro _ vL;obtain ⟨⟨q8,osq⟩,uO⟩:=vL;subst uO;have bj:=uk1 aq q8 osq;have bo:=bT a7 bj;simp only;generalize Go.Sort.grow (redrawn aq q8) osq=aF at*;clear bj k0 k1 I0 fp aN aW aL bJ;go_wp2_with fail;go_ret;unfold kaH;rw[cC.o];exact ⟨rfl,bo.o⟩
   |true=>
   obtain ⟨bx,ew⟩:=xE (Oz.maq l j (Oz.mk [108,101,110] [a] 0 [] 1));obtain ⟨lf,kJ⟩:=xE (bx.set (j+1) (Oz.mk [42] [(j:Int),(mw:Int)] 0 [] 1));have e2:bx.length=n+1:=(by rw[ew,kdV,bF.o]);have mx:lf.length=n+1:=(by rw[kJ,ud8,e2]);have pB:Oz.maA lf (i+1) (j+1)=K:=(by rw[kJ,khB,ew,kkR l i j _ (ui0 lj.o)];exact ji.o.symm);obtain ⟨bX,my⟩:=khd pB;have cC:Hz (R=N bX):=hD (by rw[cX.o,ua0 dC];rw[kJ,ew] at my;exact my);have BE:Hz (∀ s∈bx,s.args.length≤3∧∀ a∈s.args,0≤a∧a≤4096+1):=hD (by rw[ew];exact kkb wB.o ⟨by show 1≤3;decide,fun x aA=>by have:=D8.o;simp only[Oz.mk,uc7,ue3,ui2] at aA;omega⟩);have D9:Hz (∀ s∈lf,s.args.length≤3∧∀ a∈s.args,0≤a∧a≤4096+1):=hD (by rw[kJ];exact koK BE.o ⟨by show 2≤3;decide,fun x aA=>by simp only[Oz.mk,uc7,ue3,ui2] at aA;omega⟩);obtain ⟨q7,uM,uN,iw,nY⟩:=hd5 ew kJ my e2 mx;have Pm:IntKind.i64.wrap ((j:Int)+1)=(j:Int)+1:=uc5 _ oM;have Zb:IntKind.i64.wrap ((i:Int)+1)=(i:Int)+1:=uc5 _ oM;clear ew kJ my e2 mx pB;go_wp2_with fail;refine uo9 kR kR ?_;(repeat (go_big_quiet_step ((go_at_call 118;exact pC.o _ _))));refine uu2 ?_;intro _ vL;obtain ⟨⟨q8,osq⟩,uO⟩:=vL;subst uO;have bj:=uk1 aq q8 osq;have bo:=bT a7 bj;simp only;generalize Go.Sort.grow (redrawn aq q8) osq=aF at*;clear bj k0 k1 I0 fp aN aW aL bJ;rw[←bF.o] at dh;have aN:=(bo.o.cell (p:=⟨g,0,Z⟩) ef).trans hj.o;have aW:=(bo.o.cell (p:=⟨ap,_,Z⟩) dW).trans dv.o;have bw:=(bo.o.cell (p:=⟨r,0,Z⟩) hl).trans yM.o;have aL:=(bo.o.cell (p:=⟨r,1,Z⟩) hl).trans wA.o;go_wp2_with fail;go_quiet (fail);go_upto_region 7 with (fail);obtain ⟨a6,cl⟩:=xE (aF.drewN nq);rw[←cl];have bU:Hz (H w w a6):=hD (by rw[cl];exact kbm bo.o _);clear cl aN aW bw aL;have eL:=hD (dh.o.below bU.o);have ln:=hD ((FrX.refl base w).below bU.o f5);go_wp2_with fail;refine (kjW a a6).mono ?_;rintro e aK ⟨At,rfl,gc,bv⟩;have cj:=(kbE gc rfl).1;have yN:=hD (eL.o.below bv);have l1:=hD (ln.o.below bv eL.o.maz);have r1:=hD (kj9 base g ap cap j l vs (D (N ⟨bz,0,Z⟩) n n) aK yN.o (lj.o) (by have:=bF.o;omega) (kgh wB.o oM) [108,101,110] [a] 0 [] 1 (D (N ⟨At,0,Z⟩) 1 1) (gc.mono eL.o.maz) (kkv eL.o cj 1 1));clear gc bv cj;go_wp2_with fail;refine r1.o.mono ?_;rintro e bm ⟨rfl,⟨nT,su,hX⟩,i6⟩;have pA:=hD (l1.o.trans i6);rw[←q7.o] at hX;have hu:=hD hX;clear hX i6 r1 yN l1 eL ln;obtain ⟨BF,yO⟩:=xE (vs.take j++D (N ⟨At,0,Z⟩) 1 1::vs.drop j);rw[←yO] at hu;clear yO;obtain ⟨t9,yP⟩:∃ t9,bx[j+1]? =N t9:=⟨_,ua3 (by rw[iw.o];omega)⟩;obtain ⟨v9,Ea,⟨bi,aW,bc,br,bL⟩,yQ⟩:=hu.o.at_ yP;obtain ⟨ci,c9,rfl⟩:=kaA yQ;have aN:=hu.o.ed.cell 0;simp only[gA,gB] at aN;rw[iw.o] at aN;obtain ⟨f0,b2,cB,dS,eJ⟩:bm.frozen? ⟨nT,(j+1)*5,Z⟩=J∧bm.frozen? ⟨nT,(j+1)*5+1,Z⟩=J∧bm.frozen? ⟨nT,(j+1)*5+2,Z⟩=J∧bm.frozen? ⟨nT,(j+1)*5+3,Z⟩=J∧bm.frozen? ⟨nT,(j+1)*5+4,Z⟩=J:=(by obtain ⟨cs,aL,_⟩:=hu.o.blk;exact zq3);have aO:=hu.o.mb9 (i:=j+1) (by rw[iw.o];omega) (Oz.mk [42] [(j:Int),(mw:Int)] 0 [] 1) (by show 2≤100;decide);rw[←uM.o] at aO;have cp:=hD aO.1;have b4:=hD (pA.o.trans aO.2);have iY:=hu.o.maR;have fW:=hu.o.ed.lt;have wi:(j:Int)+1<(n:Int)+1:=oM;have wj:(0:Int)≤(j:Int)+1:=oM;have ye:((j:Int)+1).toNat=j+1:=oM;clear aO yP Ea yQ;have iB:=hD (kc6 base g nT su (i+1) (j+1) lf _ _ _ cp.o oM (by rw[nY.o];have:=dc.o;have:=bF.o;omega) (kgh D9.o oM));rw[uN.o,show ((i+1:Nat):Int)=(i:Int)+1 by omega,show ((j+1:Nat):Int)=(j:Int)+1 by omega] at iB;go_upto_region 9 with (fail);clear aN bi aW bc br bL f0 b2 cB dS eJ;go_wp2_with fail;refine iB.o.mono ?_;intro e c7 gM;have gM:e=ac (V K)∧(∃ ip,EdX c7 base g nT su bX ip (D (N ⟨bz,0,Z⟩) n n))∧FrX base _ c7:=gM;obtain ⟨rfl,⟨ip,jk⟩,ke⟩:=gM;have m6:=hD jk;have f4:=hD (b4.o.trans ke);clear jk ke iB cp b4;go_wp2_with fail;go_ret;unfold kaH;rw[cC.o,←bF.o];exact ⟨rfl,⟨_,_,_,m6.o⟩,f4.o⟩
  |go_wp2_with fail;go_quiet (fail);go_wp2_with fail;go_ret;unfold kaH;rw[cC.o];exact ⟨rfl,kbm a7.o _⟩):=h
def keC (h:P:=by have dK:=(gH al).1;have dk:=(gH aB).1;have kX:=h.cap;have f5:=h.maz;have be:=h.ed.cell 0;simp only[gA,gB,gC] at be;have Pq:=();exact kiy):=h
def khB (l:List St) (i j:Nat) (t:St):Oz.maA (l.set j t) i j=Oz.maA l i j:=by
 unfold Oz.maA Oz.maN;rw[ud8];congr 2;apply uh3;intro q;rw[ud0,ud0,uc4,uc4];split
 .rw[ue2 oM]
 .rfl
def khd {l:List St} {i j:Nat} (h:Oz.maA l i j=K):∃ l',Oz.mad l i j=N l':=by
 unfold Oz.mad;rw[ua0 (by rw[h];decide)];split
 .exact ⟨_,rfl⟩
 .exact ⟨_,rfl⟩
def kpC {w:O} {base g ap cap:Nat} {l:List St} {vs:List C} {aP:C} (h:EdX w base g ap cap l vs aP) {j:Nat} {eb:C} (eU:vs[j]? =N eb):∀(p:Nat) (v:C),p≠j→vs[p]? =N v→eb.ownBlock=Z∨v.ownBlock≠eb.ownBlock:=fun p v aO au=>by
 rcases h.dis j p eb v (fun e=>aO e.symm) eU au with aD|aD
 .exact .inl aD
 .exact .inr (fun e=>aD e.symm)
def kxt (base g ap bz cap i j:Nat) (l:List St) (vs:List C) (s t:St) (w:O) (h:EdX w base g ap cap l vs (D (N ⟨bz,0,Z⟩) l.length l.length)) (aI:Blk w bz 3 (kau (kag l))) (al:l[i]? =N s) (aB:l[j]? =N t) (aS:s.args[0]? =N (j:Int)) (b9:j<i) (ak:∀ s∈l,s.args.length≤3∧∀ a∈s.args,0≤a∧a≤100000) (ba:s.op=Oz.mbn):
 L prog 72 #[ab (N ⟨g,0,Z⟩),I U i] w (RepEnd base g ap cap l vs (D (N ⟨bz,0,Z⟩) l.length l.length) (Oz.maK l i) w):=by
 have Ec:=();exact keC
def kx7 (base g ap bz cap i j:Nat) (l:List St) (vs:List C) (s t:St) (w:O) (h:EdX w base g ap cap l vs (D (N ⟨bz,0,Z⟩) l.length l.length)) (aI:Blk w bz 3 (kau (kag l))) (al:l[i]? =N s) (aB:l[j]? =N t) (aS:s.args[0]? =N (j:Int)) (b9:j<i) (ak:∀ s∈l,s.args.length≤3∧∀ a∈s.args,0≤a∧a≤100000) (ba:s.op=Oz.mal):
 L prog 74 #[ab (N ⟨g,0,Z⟩),I U i] w (RepEnd base g ap cap l vs (D (N ⟨bz,0,Z⟩) l.length l.length) (Oz.maP l i) w):=by
 have uP:=();exact keC
def kz8 (base g ap bz cap i j:Nat) (l:List St) (vs:List C) (s t:St) (w:O) (h:EdX w base g ap cap l vs (D (N ⟨bz,0,Z⟩) l.length l.length)) (aI:Blk w bz 3 (kau (kag l))) (al:l[i]? =N s) (aB:l[j]? =N t) (aS:s.args[0]? =N (j:Int)) (b9:j<i) (ak:∀ s∈l,s.args.length≤3∧∀ a∈s.args,0≤a∧a≤100000) (ba:s.op=Oz.mbq) (a b:Int) (fK:t.args[0]? =N a) (iN:s.args[1]? =N b):
 L prog 73 #[ab (N ⟨g,0,Z⟩),I U i] w (RepEnd base g ap cap l vs (D (N ⟨bz,0,Z⟩) l.length l.length) (Oz.mav l i) w):=by
 have dK:=(gH al).1;have dk:=(gH aB).1;have kX:=h.cap;have f5:=h.maz;have be:=h.ed.cell 0;simp only[gA,gB,gC] at be;obtain ⟨v,au,⟨bu,bY,cP,c8,dj⟩,bf⟩:=h.at_ al;obtain ⟨A,c,rfl⟩:=kaA bf;obtain ⟨eb,eU,⟨z0,ca,cI,z3,z4⟩,f8⟩:=h.at_ aB;obtain ⟨fD,aZ,rfl⟩:=kaA f8;have jj:(kag l).length=l.length:=kgT l _;have a8:=hD (keO g ap bz cap i j l (kag l) s t w h.ma5 aI jj al aS aB Oz.mbd);unfold Oz.mbd at a8;obtain ⟨z,bd⟩:=xE (decide (t.op=Oz.mbd∧(kag l).getD j 0=1));have ob:=bd;unfold Oz.mbd at ob;rw[←ob] at a8;obtain ⟨R,aH⟩:=xE (Oz.mav l i);rw[←aH];unfold Oz.mav Oz.maV at aH;have qo:Oz.arg s 0=(j:Int):=(by unfold Oz.arg;rw[ub6,aS];rfl);rw[kal al] at aH;dsimp only at aH;rw[qo,ub7,kal aB] at aH;obtain ⟨n,ax⟩:=xE l.length;rw[←ax] at be;obtain ⟨dh,bF,ev⟩:=hd3 h ax ak;have dc:Hz (i<l.length):=hD dK;have lj:Hz (j<l.length):=hD dk;have cU:(i:Int)<(n:Int):=oM;have bE:=nN i;have c2:(j:Int)<(n:Int):=oM;have j4:=nN j;have mi:j<n:=oM;have kP:i<n:=oM;have ef:=h.ed.lt;have dW:=h.maR;obtain ⟨hM,D5,eY,b7,hj⟩:=hd5 f8 (kpC h eU) aB al be;obtain ⟨bS,cu⟩:=xE t.args.length;rw[←cu] at ca;have fS:=hD cu;obtain ⟨X,d6⟩:=xE t.text;rw[←d6] at z3;have D6:=hD d6;obtain ⟨op2,gP⟩:=xE t.op;rw[←gP] at z0;have Pi:=hD gP;obtain ⟨oV,mu⟩:=xE t.num;rw[←mu] at cI;have Pj:=hD mu;obtain ⟨oW,mv⟩:=xE t.ty;rw[←mv] at z4;have Pk:=hD mv;have cf:=hD bd;rw[ba,ua0 dC] at aH;rw[ba] at bu;unfold Oz.mbq at bu;have fY:Oz.arg t 0=a:=(by unfold Oz.arg;rw[ub6,fK];rfl);have eT:Oz.arg s 1=b:=(by unfold Oz.arg;rw[ub6,iN];rfl);have fd:1≤bS:=(by have:=(gH fK).1;omega);have ma:(0:Int)<(bS:Int):=oM;have yH:0<bS:=oM;obtain ⟨k,aw⟩:=xE s.args.length;rw[←aw] at bY;have dg:2≤k:=(by have:=(gH iN).1;omega);have yI:(1:Int)<(k:Int):=oM;have yK:1<k:=oM;obtain ⟨r,bC,gj,_,wy,hl,jX⟩:=kb3 f8 oM;injection gj with d4 hh cq;clear hh;subst d4 cq;have dt:w.cell? ⟨r,0,Z⟩=N (I U a):=jX 0 _ (by rw[ub9,fK];rfl);obtain ⟨q,b1,ql,_,io,fu,q9⟩:=kb3 bf oM;injection ql with d4 hh cq;clear hh;subst d4 cq;have cL:w.cell? ⟨q,1,Z⟩=N (I U b):=q9 1 _ (by rw[ub9,iN];rfl);have gw:Hz (w.cell? ⟨ap,i*5,Z⟩=N (Q ⟨#[102,105,114,115,116]⟩)∧w.cell? ⟨ap,i*5+1,Z⟩=N (D (N ⟨q,0,Z⟩) k c)∧w.cell? ⟨ap,i*5+2,Z⟩=N (I U s.num)∧w.cell? ⟨ap,i*5+3,Z⟩=N (Q ⟨s.text.toArray⟩)∧w.cell? ⟨ap,i*5+4,Z⟩=N (I U s.ty)):=hD ⟨bu,bY,cP,c8,dj⟩
 have qp:Hz (∀ s∈l.set i (Oz.mk kbk [a,b] 0 t.text 4),s.args.length≤3∧∀ a∈s.args,0≤a∧a≤100000):=hD (fun s' fc=>by
  rcases uh5 fc with af|rfl
  .exact ak s' af
  .refine ⟨by show 2≤3;decide,fun x aA=>?_⟩;have av:=(ak t (ua4 aB)).2 a (ua4 fK);have bk:=(ak s (ua4 al)).2 b (ua4 iN);simp only[Oz.mk,uc7,ue3,ui2] at aA;rcases aA with rfl|rfl <;> assumption)
 rw[eT] at aH;obtain ⟨yL,yM,wA⟩:=hd3 fY dt cL;have Pr:Hz (j+1<l.length):=hD oM;clear bY cP c8 dj fY eT jX q9 aw dt cL fK iN;have a1:=hD aH;clear h aI al aB au bf eU f8 ax aH bd ob ba qo aS ak cu d6 gP mu mv jj;go_enter func73,ntmps73;go_wp2_with fail;refine a8.o.mono ?_;rintro e aq ⟨rfl,cm⟩;have a7:=hD cm;clear cm a8 be bu
 cases z with
 |false=>exact kit
 |true=>
 have bd:=ug4 cf.o.symm;have ic:Hz (∀ w,EdAt w g ap cap l (D (N ⟨bz,0,Z⟩) l.length l.length)→L prog 119 #[ab (N ⟨g,0,Z⟩),I U j,I U i] w fun e w'=>e=ac (V (Oz.maN l j i))∧H w w w'):=hD (fun w h=>koQ g ap cap l _ w h j i b9 (ui0 dc.o));obtain ⟨jh,ej⟩:=xE (Oz.maN l j i);rw[←ej] at ic;have co:=a1.o;rw[ua1 bd] at co;dsimp only at co;rw[←ej,kal eY.o] at co;have cX:=hD co;have ji:=hD ej;clear bd co ej;go_wp2_with fail;refine (ic.o aq (dh.o.below a7.o).ma5).mono ?_;rintro e aF ⟨rfl,bs⟩;have bo:=bT a7 bs;clear bs ic
 cases jh with
 |false=>exact khR
 |true=>
 have cC:Hz (R=N (Oz.mai (l.set i (Oz.mk kbk [a,b] 0 t.text 4)) j)):=hD (by rw[cX.o,ua0 dC,yL.o]);have yR:=(bo.o.cell (p:=⟨ap,_,Z⟩) dW).trans z0;have uB:=(bo.o.cell (p:=⟨ap,_,Z⟩) dW).trans ca;have rO:=(bo.o.cell (p:=⟨ap,_,Z⟩) dW).trans cI;have ux:=(bo.o.cell (p:=⟨ap,_,Z⟩) dW).trans z3;have uy:=(bo.o.cell (p:=⟨ap,_,Z⟩) dW).trans z4;have yS:=(bo.o.cell (p:=⟨g,0,Z⟩) ef).trans hj.o;go_upto_region 7 with (fail);obtain ⟨a6,cl⟩:=xE (aF.alloc (y #[Q ⟨op2.toArray⟩,D (N ⟨r,0,Z⟩) bS aZ,I U oV,Q ⟨X.toArray⟩,I U oW] 77));rw[←cl];have b3:=bA cl;have bU:=bT bo b3;have eA:=bN cl;clear cl b3 yR uB rO ux uy yS z0 ca cI z3 z4;have s1:=eA.o.cell 1;simp only[gA,gB,gC] at s1;have bw:=(bU.o.cell (p:=⟨r,0,Z⟩) hl).trans yM.o;have aL:=(bU.o.cell (p:=⟨q,1,Z⟩) fu).trans wA.o;have aN:=(bU.o.cell (p:=⟨g,0,Z⟩) ef).trans hj.o;have aW:=(bU.o.cell (p:=⟨ap,_,Z⟩) dW).trans gw.o.2.1;have bx:=eA.o.lt;have et:g<a6.heap.size:=ua7 ef bU.o.size;have lf:ap<a6.heap.size:=ua7 dW bU.o.size;have tc:q<a6.heap.size:=ua7 fu bU.o.size;have uQ:r<a6.heap.size:=ua7 hl bU.o.size;go_region
 clear s1 bw aL aN aW bx et lf tc uQ;obtain ⟨aK,e3⟩:=xE ((a6.alloc (y #[I .i64 a,I U b] 3)).drew);rw[←e3];have bv:H a6 a6 aK:=(by rw[e3];exact (kax _ _).drew);have cA:=bT bU bv;have fO:=hD (eA.o.below bv eA.o.lt);have n3:Hz (aK.ownsRow w 3 1 (D (N ⟨a6,0,Z⟩) 2 2) 2 [I .i64 a,I U b]):=hD (by rw[e3];exact ((kfN a6 [a,b] (by show 2≤100;decide)).mono bU.o.size).drew);clear e3 bv;have s3:=fO.o.cell 3;simp only[gA,gB,gC] at s3;have aN:=(cA.o.cell (p:=⟨g,0,Z⟩) ef).trans hj.o;have f6:=fun m=>cA.o.cell (p:=⟨ap,m,Z⟩) dW;have bi:=(f6 _).trans gw.o.1;have aW:=(f6 _).trans gw.o.2.1;have bc:=(f6 _).trans gw.o.2.2.1;have br:=(f6 _).trans gw.o.2.2.2.1;have bL:=(f6 _).trans gw.o.2.2.2.2;obtain ⟨f0,b2,cB,dS,eJ⟩:aK.frozen? ⟨ap,i*5,Z⟩=J∧aK.frozen? ⟨ap,i*5+1,Z⟩=J∧aK.frozen? ⟨ap,i*5+2,Z⟩=J∧aK.frozen? ⟨ap,i*5+3,Z⟩=J∧aK.frozen? ⟨ap,i*5+4,Z⟩=J:=(by obtain ⟨cs,aL,_⟩:=(dh.o.below cA.o).blk;exact zq3);have aO:=dh.o.ma2 cA.o dc.o (Oz.mk kbk [a,b] 0 X 4) _ n3.o;have cp:=hD aO.1;have b4:=hD aO.2;rw[←D6.o] at qp cC;clear aO f6;go_wp2_with fail;go_region
 have lX:=hD (khg base g ap cap j _ _ _ _ (cp.o.below (ub5 _ _).drew) (by rw[ud8];exact Pr.o) qp.o);have ln:=hD (b4.o.below (ub5 _ _).drew cp.o.maz);clear cp b4 bi aW bc br bL f0 b2 cB dS eJ aN s3;go_wp2_with fail;refine lX.o.mono ?_;rintro e bm ⟨rfl,hX,i6⟩;have hu:=hD hX;have pA:=hD (ln.o.trans i6);clear hX i6 lX;go_wp2_with fail;go_ret;unfold RepEnd;rw[cC.o];exact ⟨rfl,⟨_,hu.o⟩,pA.o⟩
def kz7 (base g ap bz cap i j:Nat) (l:List St) (vs:List C) (s t:St) (w:O) (h:EdX w base g ap cap l vs (D (N ⟨bz,0,Z⟩) l.length l.length)) (aI:Blk w bz 3 (kau (kag l))) (al:l[i]? =N s) (aB:l[j]? =N t) (aS:s.args[0]? =N (j:Int)) (b9:j<i) (ak:∀ s∈l,s.args.length≤3∧∀ a∈s.args,0≤a∧a≤100000) (ba:s.op=Oz.mbq) (dY:t.op≠Oz.mbd):
 L prog 73 #[ab (N ⟨g,0,Z⟩),I U i] w (RepEnd base g ap cap l vs (D (N ⟨bz,0,Z⟩) l.length l.length) (Oz.mav l i) w):=by
 have yT:=();exact keC
def kxp (base g ap cap i:Nat) (l:List St) (vs:List C) (aP:C) (s:St) (w:O) (h:EdX w base g ap cap l vs aP) (al:l[i]? =N s) (ba:s.op≠Oz.mbn):
 L prog 72 #[ab (N ⟨g,0,Z⟩),I U i] w (RepEnd base g ap cap l vs aP (Oz.maK l i) w):=by
 have Ed:=();exact kd2
def kxr (base g ap bz cap i:Nat) (l:List St) (vs:List C) (s:St) (w:O) (h:EdX w base g ap cap l vs (D (N ⟨bz,0,Z⟩) l.length l.length)) (aI:Blk w bz 3 (kau (kag l))) (al:l[i]? =N s) (an:kaf l=0):
 L prog 72 #[ab (N ⟨g,0,Z⟩),I U i] w (RepEnd base g ap cap l vs (D (N ⟨bz,0,Z⟩) l.length l.length) (Oz.maK l i) w):=by
 by_cases ba:s.op=Oz.mbn
 .have Ps:=();exact kfu
 .exact kxp base g ap cap i l vs _ s w h al ba
def kx3 (base g ap cap i:Nat) (l:List St) (vs:List C) (aP:C) (s:St) (w:O) (h:EdX w base g ap cap l vs aP) (al:l[i]? =N s) (ba:s.op≠Oz.mal):
 L prog 74 #[ab (N ⟨g,0,Z⟩),I U i] w (RepEnd base g ap cap l vs aP (Oz.maP l i) w):=by
 have Ee:=();exact kd2
def kx5 (base g ap bz cap i:Nat) (l:List St) (vs:List C) (s:St) (w:O) (h:EdX w base g ap cap l vs (D (N ⟨bz,0,Z⟩) l.length l.length)) (aI:Blk w bz 3 (kau (kag l))) (al:l[i]? =N s) (an:kaf l=0):
 L prog 74 #[ab (N ⟨g,0,Z⟩),I U i] w (RepEnd base g ap cap l vs (D (N ⟨bz,0,Z⟩) l.length l.length) (Oz.maP l i) w):=by
 by_cases ba:s.op=Oz.mal
 .have Pu:=();exact kfu
 .exact kx3 base g ap cap i l vs _ s w h al ba
def kz3 (base g ap cap i:Nat) (l:List St) (vs:List C) (aP:C) (s:St) (w:O) (h:EdX w base g ap cap l vs aP) (al:l[i]? =N s) (ba:s.op≠Oz.mbq):
 L prog 73 #[ab (N ⟨g,0,Z⟩),I U i] w (RepEnd base g ap cap l vs aP (Oz.mav l i) w):=by
 have Ef:=();exact kd2
def kz5 (base g ap bz cap i:Nat) (l:List St) (vs:List C) (s:St) (w:O) (h:EdX w base g ap cap l vs (D (N ⟨bz,0,Z⟩) l.length l.length)) (aI:Blk w bz 3 (kau (kag l))) (al:l[i]? =N s) (an:kaf l=0):
 L prog 73 #[ab (N ⟨g,0,Z⟩),I U i] w (RepEnd base g ap cap l vs (D (N ⟨bz,0,Z⟩) l.length l.length) (Oz.mav l i) w):=by
 by_cases ba:s.op=Oz.mbq
 .have dL:=kaV an al 2 (by rw[ba];kernel_rfl);obtain ⟨j,t,aS,b9,aB,_,_⟩:=kbi an al (k:=0) oM;obtain ⟨b,_,ak,_⟩:=kbi an al (k:=1) oM;by_cases bd:t.op=Oz.mbd
  .have BB:=kaV an aB 1 (by rw[bd];kernel_rfl);obtain ⟨a,_,aE,_⟩:=kbi an aB (k:=0) oM;exact kz8 base g ap bz cap i j l vs s t w h aI al aB aS b9 (kck an) ba a b aE ak
  .exact kz7 base g ap bz cap i j l vs s t w h aI al aB aS b9 (kck an) ba bd
 .exact kz3 base g ap cap i l vs _ s w h al ba
def kjW (a:Int) (w:O):L prog 121 #[I .i64 a] w fun e w'=>∃ bt,e=ac (aa #[Q ⟨#[108,101,110]⟩,D (N ⟨bt,0,Z⟩) 1 1,I U 0,Q ⟨#[]⟩,I U 1])∧w'.ownsRow w 3 1 (D (N ⟨bt,0,Z⟩) 1 1) 1 [I .i64 a]∧H w w w':=by go_enter func121,ntmps121;go_wp2_with fail;obtain ⟨aq,aQ⟩:=xE (w.alloc (y #[Q ⟨#[108,101,110]⟩,D (N ⟨w.heap.size+1,0,Z⟩) 1 1,I U 0,Q ⟨#[]⟩,I U 1] 77));rw[←aQ];have dN:=wS aQ;have cm:=bM aQ;have b0:=bA aQ;have bf:=kfN aq [a] (by show 1≤100;decide);rw[dN] at bf;have bs:=cm.alloc (y #[I .i64 a] 3);have dZ:=b0.alloc oM (y #[I .i64 a] 3);obtain ⟨aF,bW⟩:=xE (aq.alloc (y #[I .i64 a] 3));have f8:aF.ownsRow (w.heap.size+1) 3 1 (D (N ⟨w.heap.size+1,0,Z⟩) 1 1) 1 [I .i64 a]:=(by rw[bW];exact bf);rw[←bW] at bs dZ ⊢;have f0:=bs.cell 0;have b2:=bs.cell 1;have cB:=bs.cell 2;have dS:=bs.cell 3;have eJ:=bs.cell 4;simp only[gA,gB,gC] at f0 b2 cB dS eJ;refine ub2 (v:=aa #[Q ⟨#[108,101,110]⟩,D (N ⟨w.heap.size+1,0,Z⟩) 1 1,I U 0,Q ⟨#[]⟩,I U 1]) (by simp[results,results121,go_sem,f0,b2,cB,dS,eJ]) rfl ?_;exact ⟨w.heap.size+1,rfl,f8.mono oM,dZ⟩
def kdV (l:List St) (j:Nat) (s:St):(Oz.maq l j s).length=l.length+1:=by unfold Oz.maq;simp only[ua6,ub8,uc8,ui9,ud9];omega
def ket (l:List St) (j:Nat) (s:St) (aS:j≤l.length) (q:Nat):(Oz.maq l j s)[q]? =if q<j then l[q]? else if q=j then N s else (l[q-1]?).map (Oz.mapA (fIn j)):=by
 have az:(l.take j).length=j:=(by rw[ub8];omega);unfold Oz.maq;by_cases h:q<j
 .exact kh0
 .rw[ua0 h,uf4 oM,az];by_cases ao:q=j
  .subst ao;rw[ua1 rfl,uo8,gB]
  .rw[ua0 ao];obtain ⟨m,bg⟩:∃ m,q-j=m+1:=⟨q-j-1,oM⟩;rw[bg,gC,ub9,ud0,show j+m=q-1 by omega];rfl
def kkR (l:List St) (i j:Nat) (s:St) (aS:j≤l.length):Oz.maA (Oz.maq l j s) (i+1) (j+1)=Oz.maA l i j:=by
 unfold Oz.maA;rw[kdV];congr 1
 .congr 1;simp
 .unfold Oz.maN
  have:((Oz.maq l j s).take (i+1)).drop (j+1+1)=((l.take i).drop (j+1)).map (Oz.mapA (fIn j)):=by
   apply uh3;intro q;rw[ud0,uc4,ub9,ud0,uc4];by_cases h:j+1+q<i
   .rw[ua1 oM,ua1 h,ket l j s aS,ua0 oM,ua0 oM];congr 2;omega
   .rw[ua0 oM,ua0 h];rfl
  rw[this,List.all_map];rfl
def kkb {l:List St} {j:Nat} {s:St} {B:Int} (ak:∀ s∈l,s.args.length≤3∧∀ a∈s.args,0≤a∧a≤B) (al:s.args.length≤3∧∀ a∈s.args,0≤a∧a≤B+1):∀ s'∈Oz.maq l j s,s'.args.length≤3∧∀ a∈s'.args,0≤a∧a≤B+1:=fun s' fc=>by
 unfold Oz.maq at fc;rcases uh2.1 fc with h|h
 .have:=ak s' (uk4 h);exact ⟨this.1,fun a aE=>by have:=this.2 a aE;omega⟩
 .rcases uc7.1 h with rfl|h
  .exact al
  .obtain ⟨t,aB,rfl⟩:=uh8.1 h;have:=ak t (up3 aB);refine ⟨by unfold Oz.mapA;simpa using this.1,fun a aE=>?_⟩;unfold Oz.mapA at aE;obtain ⟨b,gW,rfl⟩:=uh8.1 aE;have:=this.2 b gW;split <;> omega
def koK {l:List St} {j:Nat} {s:St} {B:Int} (ak:∀ s∈l,s.args.length≤3∧∀ a∈s.args,0≤a∧a≤B) (al:s.args.length≤3∧∀ a∈s.args,0≤a∧a≤B):∀ s'∈l.set j s,s'.args.length≤3∧∀ a∈s'.args,0≤a∧a≤B:=fun s' fc=>by
 rcases uh5 fc with h|rfl
 .exact ak s' h
 .exact al
def kgh {l:List St} {B jO:Int} (ak:∀ s∈l,s.args.length≤3∧∀ a∈s.args,0≤a∧a≤B) (h:B≤jO):∀ s∈l,s.args.length≤3∧∀ a∈s.args,0≤a∧a≤jO:=fun s al=>⟨(ak s al).1,fun a aE=>by have:=(ak s al).2 a aE;omega⟩
def kkv {w:O} {base g ap cap:Nat} {l:List St} {vs:List C} {aP:C} (h:EdX w base g ap cap l vs aP) {bt:Nat} (cj:w.heap.size≤bt) (n c:Nat):∀(j:Nat) (v:C),vs[j]? =N v→(D (N ⟨bt,0,Z⟩) n c).ownBlock=Z∨v.ownBlock≠(D (N ⟨bt,0,Z⟩) n c).ownBlock:=fun j v au=>by refine .inr (fun e=>?_);have dk:=(gH au).1;rw[h.len] at dk;have:=kdr (h.own j _ v (ua3 dk) au) bt (by rw[e];rfl);omega
def kxV (base g ap bz cap i j:Nat) (l:List St) (vs:List C) (s t:St) (w:O) (h:EdX w base g ap cap l vs (D (N ⟨bz,0,Z⟩) l.length l.length)) (aI:Blk w bz 3 (kau (kag l))) (al:l[i]? =N s) (aB:l[j]? =N t) (aS:s.args[0]? =N (j:Int)) (b9:j<i) (ak:∀ s∈l,s.args.length≤3∧∀ a∈s.args,0≤a∧a≤100000) (ba:s.op=Oz.mal) (bG:l.length<4096) (bs:∀ s∈l,s.args.length≤3∧∀ a∈s.args,0≤a∧a≤4096) (a b:Int) (fK:t.args[0]? =N a) (jL:t.args[1]? =N b):
 L prog 75 #[ab (N ⟨g,0,Z⟩),I U i] w (kaH base g (D (N ⟨bz,0,Z⟩) l.length l.length) (Oz.maD l i) w):=by
 have yU:=();exact keC
def knF (h:P:=by have dK:=(gH al).1;have dk:=(gH aB).1;have kX:=h.cap;have f5:=h.maz;have be:=h.ed.cell 0;simp only[gA,gB,gC] at be;have Pv:=();exact kiy):=h
def kx1 (base g ap bz cap i j:Nat) (l:List St) (vs:List C) (s t:St) (w:O) (h:EdX w base g ap cap l vs (D (N ⟨bz,0,Z⟩) l.length l.length)) (aI:Blk w bz 3 (kau (kag l))) (al:l[i]? =N s) (aB:l[j]? =N t) (aS:s.args[0]? =N (j:Int)) (b9:j<i) (ak:∀ s∈l,s.args.length≤3∧∀ a∈s.args,0≤a∧a≤100000) (ba:s.op=Oz.mal) (dY:¬(t.op=Oz.maU∧(kag l).getD j 0=1)):
 L prog 76 #[ab (N ⟨g,0,Z⟩),I U i] w (kaH base g (D (N ⟨bz,0,Z⟩) l.length l.length) (Oz.maC l i) w):=by
 have uR:=();exact keC
def kx0 (base g ap bz cap i j:Nat) (l:List St) (vs:List C) (s t:St) (w:O) (h:EdX w base g ap cap l vs (D (N ⟨bz,0,Z⟩) l.length l.length)) (aI:Blk w bz 3 (kau (kag l))) (al:l[i]? =N s) (aB:l[j]? =N t) (aS:s.args[0]? =N (j:Int)) (b9:j<i) (ak:∀ s∈l,s.args.length≤3∧∀ a∈s.args,0≤a∧a≤100000) (ba:s.op=Oz.mal) (bG:l.length≤4096) (bs:∀ s∈l,s.args.length≤3∧∀ a∈s.args,0≤a∧a≤4096) (a:Int) (mw:Nat) (hT:St) (fK:t.args[0]? =N a) (jL:t.args[1]? =N (mw:Int)) (td:l[mw]? =N hT) (Dn:t.op=Oz.maU∧(kag l).getD j 0=1) (nv:hT.op≠kac):
 L prog 76 #[ab (N ⟨g,0,Z⟩),I U i] w (kaH base g (D (N ⟨bz,0,Z⟩) l.length l.length) (Oz.maC l i) w):=by
 exact knF
def kx2 (base g ap bz cap i j:Nat) (l:List St) (vs:List C) (s t:St) (w:O) (h:EdX w base g ap cap l vs (D (N ⟨bz,0,Z⟩) l.length l.length)) (aI:Blk w bz 3 (kau (kag l))) (al:l[i]? =N s) (aB:l[j]? =N t) (aS:s.args[0]? =N (j:Int)) (b9:j<i) (ak:∀ s∈l,s.args.length≤3∧∀ a∈s.args,0≤a∧a≤100000) (ba:s.op=Oz.mal) (bG:l.length≤4096) (bs:∀ s∈l,s.args.length≤3∧∀ a∈s.args,0≤a∧a≤4096) (a:Int) (mw:Nat) (hT:St) (fK:t.args[0]? =N a) (jL:t.args[1]? =N (mw:Int)) (td:l[mw]? =N hT) (Dn:t.op=Oz.maU∧(kag l).getD j 0=1) (nv:hT.op=kac):
 L prog 76 #[ab (N ⟨g,0,Z⟩),I U i] w (kaH base g (D (N ⟨bz,0,Z⟩) l.length l.length) (Oz.maC l i) w):=by
 have I1:=();exact knF
def kxP (base g ap cap i:Nat) (l:List St) (vs:List C) (aP:C) (s:St) (w:O) (h:EdX w base g ap cap l vs aP) (al:l[i]? =N s) (ba:s.op≠Oz.mal):
 L prog 75 #[ab (N ⟨g,0,Z⟩),I U i] w (kaH base g aP (Oz.maD l i) w):=by
 have I2:=();exact kd2
def kxW (base g ap cap i:Nat) (l:List St) (vs:List C) (aP:C) (s:St) (w:O) (h:EdX w base g ap cap l vs aP) (al:l[i]? =N s) (ba:s.op≠Oz.mal):
 L prog 76 #[ab (N ⟨g,0,Z⟩),I U i] w (kaH base g aP (Oz.maC l i) w):=by
 have yV:=();exact kd2
def kxU (base g ap bz cap i j:Nat) (l:List St) (vs:List C) (s t:St) (w:O) (h:EdX w base g ap cap l vs (D (N ⟨bz,0,Z⟩) l.length l.length)) (aI:Blk w bz 3 (kau (kag l))) (al:l[i]? =N s) (aB:l[j]? =N t) (aS:s.args[0]? =N (j:Int)) (b9:j<i) (ak:∀ s∈l,s.args.length≤3∧∀ a∈s.args,0≤a∧a≤100000) (ba:s.op=Oz.mal) (bG:l.length<4096) (dY:t.op≠Oz.maO):
 L prog 75 #[ab (N ⟨g,0,Z⟩),I U i] w (kaH base g (D (N ⟨bz,0,Z⟩) l.length l.length) (Oz.maD l i) w):=by
 have yW:=();exact keC
def kxR (base g ap cap i:Nat) (l:List St) (vs:List C) (aP:C) (s:St) (w:O) (h:EdX w base g ap cap l vs aP) (al:l[i]? =N s) (ba:s.op=Oz.mal) (gs:4096≤l.length):
 L prog 75 #[ab (N ⟨g,0,Z⟩),I U i] w (kaH base g aP (Oz.maD l i) w):=by
 have dK:=(gH al).1;have be:=h.ed.cell 0;simp only[gA,gB] at be;obtain ⟨v,au,⟨bu,bY,cP,c8,dj⟩,bf⟩:=h.at_ al;obtain ⟨R,aH⟩:=xE (Oz.maD l i);rw[←aH];unfold Oz.maD at aH;have cC:Hz (R=Z):=hD (by rw[aH,ua1 (.inr gs)]);rw[ba] at bu;unfold Oz.mal at bu;obtain ⟨n,ax⟩:=xE l.length;rw[←ax] at dK be;have cU:(i:Int)<(n:Int):=oM;have bE:=nN i;have c2:(4096:Int)≤(n:Int):=oM;clear h al au bf ax aH ba gs;go_enter func75,ntmps75;go_wp2_with fail;go_ret;unfold kaH;rw[cC.o];exact ⟨rfl,ub5 _ _⟩
def kxS (base g ap bz cap i:Nat) (l:List St) (vs:List C) (s:St) (w:O) (h:EdX w base g ap cap l vs (D (N ⟨bz,0,Z⟩) l.length l.length)) (aI:Blk w bz 3 (kau (kag l))) (al:l[i]? =N s) (an:kaf l=0):
 L prog 75 #[ab (N ⟨g,0,Z⟩),I U i] w (kaH base g (D (N ⟨bz,0,Z⟩) l.length l.length) (Oz.maD l i) w):=by
 by_cases ba:s.op=Oz.mal
 .by_cases gs:4096≤l.length
  .exact kxR base g ap cap i l vs _ s w h al ba gs
  .have Pw:=();exact kfu
 .exact kxP base g ap cap i l vs _ s w h al ba
def kxY (base g ap bz cap i:Nat) (l:List St) (vs:List C) (s:St) (w:O) (h:EdX w base g ap cap l vs (D (N ⟨bz,0,Z⟩) l.length l.length)) (aI:Blk w bz 3 (kau (kag l))) (al:l[i]? =N s) (an:kaf l=0):
 L prog 76 #[ab (N ⟨g,0,Z⟩),I U i] w (kaH base g (D (N ⟨bz,0,Z⟩) l.length l.length) (Oz.maC l i) w):=by
 by_cases ba:s.op=Oz.mal
 .have Px:=();exact kfu
 .exact kxW base g ap cap i l vs _ s w h al ba
def kbl (s:St):KeyS:=⟨s.op,s.text,Oz.arg s 0,Oz.arg s 1,Oz.arg s 2,s.num⟩
def fk (l:List St) (k:Nat) (s:KeyS):Option Nat:=(List.range k).find? fun j=>decide (kbl (Oz.at_ l j)=s)
def kjc (l:List St) (k:Nat):Oz.sameAt l k=fk l k (kbl (Oz.at_ l k)):=by
 unfold Oz.sameAt fk;congr 1;funext j
 have h:(Oz.mbA (Oz.at_ l j)=Oz.mbA (Oz.at_ l k))↔(kbl (Oz.at_ l j)=kbl (Oz.at_ l k)):=by
  unfold Oz.mbA kbl;simp only[uq8,un7,ut6,KeyS.mk.injEq];constructor
  .rintro ⟨a,b,⟨c,d,e⟩,f⟩;exact ⟨a,b,c,d,e,f⟩
  .rintro ⟨a,b,c,d,e,f⟩;exact ⟨a,b,⟨c,d,e⟩,f⟩
 by_cases aD:kbl (Oz.at_ l j)=kbl (Oz.at_ l k)
 .rw[ub3 aD,ub3 (h.2 aD)]
 .rw[ua5 aD,ua5 (fun e=>aD (h.1 e))]
def kky {l:List St} {k j:Nat} {s:KeyS} (h:fk l k s=N j):j<k:=uk3.1 (List.mem_of_find?_eq_some h)
theorem krs (l:List St) (k:Nat) (s:KeyS):fk l (k+1) s=match fk l k s with
 |some j=>some j
 |none=>if kbl (Oz.at_ l k)=s then some k else none:=by
 unfold fk;rw[uu0,List.find?_append];generalize (List.range k).find? (fun j:Nat=>decide (kbl (Oz.at_ l (j:Int))=s))=o
 cases o with
 |some j=>rfl
 |none=>
  show List.find? (fun j:Nat=>decide (kbl (Oz.at_ l (j:Int))=s)) [k]=if kbl (Oz.at_ l k)=s then N k else Z
  by_cases h:kbl (Oz.at_ l k)=s
  .simp[h]
  .simp[h]
theorem kz0 {l:List St} {k j:Nat} (h:fk l k (kbl (Oz.at_ l k))=N j) (s:KeyS):fk l (k+1) s=fk l k s:=by
 rw[krs]
 cases al:fk l k s with
 |some hn=>rfl
 |none=>dsimp only;rw[ua0];intro e;rw[e,al] at h;cases h
def Mirror (l:List St) (k:Nat) (bl:List (KeyS×C)):Prop:=∀ s:KeyS,kbU bl s=(fk l k s).map fun j=>I U (j:Int)
theorem Mirror.miss {l:List St} {k:Nat} {bl:List (KeyS×C)} (h:Mirror l k bl) (ax:fk l k (kbl (Oz.at_ l k))=Z):Mirror l (k+1) (kcb bl (kbl (Oz.at_ l k)) (I U (k:Int))):=fun s=>by
 rw[kxF,krs];by_cases e:kbl (Oz.at_ l k)=s
 .rw[ua1 e];rw[e] at ax;rw[ax];dsimp only;rw[ua1 e];rfl
 .rw[ua0 e,h s]
  cases fk l k s with
  |some j=>rfl
  |none=>dsimp only;rw[ua0 e]
def Mirror.hit {l:List St} {k j:Nat} {bl:List (KeyS×C)} (h:Mirror l k bl) (ax:fk l k (kbl (Oz.at_ l k))=N j):Mirror l (k+1) bl:=fun s=>by rw[kz0 ax];exact h s
def kru {f:List St→Nat→Option (List St)} {l:List St} (h:∀ k,k<l.length→f l k=Z):Oz.maw f l=Z:=by unfold Oz.maw;rw[up4];exact fun k aw=>h k (uk3.1 aw)
theorem krt {f:List St→Nat→Option (List St)} {l l':List St} {k:Nat} (aw:k<l.length) (aD:∀ j,j<k→f l j=Z) (h:f l k=N l'):Oz.maw f l=N l':=by
 unfold Oz.maw
 have am:∀ n,k<n→(List.range n).findSome? (f l)=N l':=by
  intro n
  induction n with
  |zero=>omega
  |succ n bQ=>
   intro ax;rw[uu0,List.findSome?_append];by_cases iq:k<n
   .rw[bQ iq];rfl
   .have iq:k=n:=oM;subst iq;have:(List.range k).findSome? (f l)=Z:=(by rw[up4];exact fun j aS=>aD j (uk3.1 aS));rw[this];simp[h]
 exact am _ aw
def kCY (w:O) (HG:Nat) (l:List St) (f:Nat) (i:C) (wr:O):Prop:=∃(k:Nat) (bl:List (KeyS×C)),i=I U k∧k≤l.length∧l.length-k<f∧Hz (MapIs wr HG kcK bl)∧Hz (Mirror l k bl)∧Hz (H w w wr)∧HG<wr.heap.size∧Hz (∀ j,j<k→Oz.maH l j=Z)
def kuQ (base g ap cap:Nat) (l:List St) (vs:List C) (aP:C) (w:O) (h:EdX w base g ap cap l vs aP) (ak:∀ s∈l,s.args.length≤3∧∀ a∈s.args,0≤a∧a≤100000):
 L prog 66 #[ab (N ⟨g,0,Z⟩)] w (kaH base g aP (Oz.maw Oz.maH l) w):=by
 have kw:∀(W:O),(Instr.makeMap 163 Z).run prog W= .ok (.map (N W.heap.size)) (W.alloc (.map #[] 0)):=fun W=>by simp[Instr.makeMap,uf9 underlying163]
 have ef:=h.ed.lt;have dW:=h.maR;have f5:=h.maz;have be:=h.ed.cell 0;simp only[gA,gB] at be;have kX:=h.cap;obtain ⟨n,ax⟩:=xE l.length;rw[←ax] at be kX;obtain ⟨bF,dh,ev⟩:=hd3 ax h ak;have iY:(w.alloc (.map #[] 0)).cell? ⟨g,0,Z⟩=N (D (N ⟨ap,0,Z⟩) n cap):=(up0 w _ _ ef).trans be;clear h ak be ax;go_enter func66,ntmps66;go_wp2_with fail;clear kw iY;go_loopg [4,5,6,7,8,15] (n+1) (fun f _ _ _ _ _ i wr=>kCY w w l f i wr)
 case atStart=>exact ⟨0,[],rfl,oM,by have:=bF.o;omega,hD (MapIs.new w kcK 0),hD (fun s=>rfl),hD ((ub5 _ _).alloc (nR) _),by simp,hD (fun j aS=>by omega)⟩
 case round=>
  obtain ⟨k,bl,rfl,aw,fo,Py,Eg,aV,jl,od⟩:=hrel;rw[←bF.o] at aw fo;obtain ⟨f,rfl⟩:=xS gk;by_cases bG:k<n
  .obtain ⟨s,al⟩:∃ s,l[k]? =N s:=⟨l[k]'(by have:=bF.o;omega),ua3 _⟩;obtain ⟨v,au,⟨be,b8,cn,c0,c3⟩,bf⟩:=(dh.o.below aV.o).at_ al;obtain ⟨c6,c,rfl⟩:=kaA bf;have aD:=(ev.o s (ua4 al)).1;have cU:(k:Int)<(n:Int):=oM;have bE:=nN k;have Zc:=ua7 dW aV.o.size;obtain ⟨m,bg⟩:=xE s.args.length;rw[←bg] at b8;obtain ⟨num,iW⟩:=xE s.num;rw[←iW] at cn;obtain ⟨ty,fb⟩:=xE s.ty;rw[←fb] at c3;obtain ⟨op,ba⟩:=xE s.op;rw[←ba] at be;obtain ⟨text,lY⟩:=xE s.text;rw[←lY] at c0;obtain ⟨aR,aJ⟩:=xE (kbl s);have a1:=hD (Reads.mb2 bf);have b7:=hD al;have m7:=hD (kyl (op:=op) (text:=text) (num:=num) (args:=s.args) (k:=aR) aD (by rw[aJ,ba];try rfl) (by rw[aJ,lY];try rfl) (by rw[aJ,iW];try rfl) (by rw[aJ];try rfl) (by rw[aJ];try rfl) (by rw[aJ];try rfl));have nB:Hz (aR=kbl (Oz.at_ l k)):=hD (by rw[aJ,kal al]);have uS:Oz.sameAt l k=fk l k aR:=(by rw[kjc,nB.o]);have wC:Hz (Oz.maH l k=match fk l k aR with|none=>none|some j=>Oz.mad l k j):=hD (by unfold Oz.maH;rw[uS];cases fk l k aR <;> rfl);have I3:=hD bg;have Eh:m≤3:=oM;clear al au bf iW fb ba lY aJ uS bg aD;go_upto_region 6 with (fail);obtain ⟨aF,bW⟩:=xE ((wr.alloc (y #[Q ⟨op.toArray⟩,D c6 m c,I U num,Q ⟨text.toArray⟩,I U ty] 77)).alloc (y #[Q ⟨op.toArray⟩,Q ⟨text.toArray⟩,I U 0,I U 0,I U 0,I U num] 166));rw[←bW];have bs:H wr wr aF:=(by rw[bW];exact ((ub5 _ _).alloc (nR) _).alloc (by simp) _);have sW:=hD (show Blk aF (wr.heap.size+1) 166 #[Q ⟨op.toArray⟩,Q ⟨text.toArray⟩,I U 0,I U 0,I U 0,I U num] by rw[bW];have:=Blk.new (wr.alloc (y #[Q ⟨op.toArray⟩,D c6 m c,I U num,Q ⟨text.toArray⟩,I U ty] 77)) 166 #[Q ⟨op.toArray⟩,Q ⟨text.toArray⟩,I U 0,I U 0,I U 0,I U num];simpa using this);have j7:=hD (show Blk aF wr 77 #[Q ⟨op.toArray⟩,D c6 m c,I U num,Q ⟨text.toArray⟩,I U ty] by rw[bW];exact (Blk.new _ _ _).alloc _);have bo:=hD bs;have co:=hD ((a1.o.below bs).more bs.size);have bY:=j7.o.cell 1;simp only[gA,gB,gC] at bY;have x6:w.heap.size<wr.heap.size:=jl;clear bW bs be b8 cn c0 c3;go_region_law (first|(refine step_copy_splice rfl (.tmp 28) (.tmp 30) 47 47 rfl 3 underlying47 kR (N ⟨wr.heap.size+1,2,Z⟩) c6 3 3 m c rfl rfl (wr.heap.size+1) 2 [Q ⟨op.toArray⟩,Q ⟨text.toArray⟩,I U 0,I U 0,I U 0,I U num] 166 sW.o (s.args.map (I U)) (by rw[ui9,←I3.o];exact (uf7 Eh).symm) (fun aO=>⟨rfl,by obtain ⟨ad,aL,_,dn⟩:=co.o.2 (by simpa using aO);exact ⟨ad,aL,dn⟩⟩) (by have:=I3.o;simp;omega) (fun v au=>by obtain ⟨x,_,rfl⟩:=uh8.1 au;rfl) wr.heap.size wr bo.o.drew oM ?_;intro a6 mb b3;have kY:=hD mb.out;have bU:=hD b3;clear mb b3))
   rw[m7.o] at kY;have fx:=hD (show Blk a6 (wr.heap.size+1) 166 #[Q ⟨aR.op.toArray⟩,Q ⟨aR.text.toArray⟩,I U aR.a,I U aR.b,I U aR.c,I U aR.num] from kY.o);have z0:=fx.o.cell 0;have ca:=fx.o.cell 1;have cI:=fx.o.cell 2;have z3:=fx.o.cell 3;have z4:=fx.o.cell 4;have z5:=fx.o.cell 5;simp only[gA,gB,gC] at z0 ca cI z3 z4 z5;have Ei:=hD (Py.o.keep (bU.o.block w jl));have m8:=Ei.o.lookup (kqn a6) underlying163 (fun _ _=>trivial) (z:=I U 0) kR aR trivial K;rw[Eg.o aR] at m8;have uT:=aV.o.size;have cl:=bU.o.size
   cases po:fk l k aR with
   |none=>
    rw[po] at m8;have Pz:=hD po;have kb:Hz (Oz.maH l k=Z):=hD (by rw[wC.o,po]);have m8:(Instr.lookup 163 (.map (N w.heap.size)) (aa #[Q ⟨aR.op.toArray⟩,Q ⟨aR.text.toArray⟩,I U aR.a,I U aR.b,I U aR.c,I U aR.num]) K).run prog a6= .ok (ag #[I .i64 0,V J]) a6:=m8;clear kY bY po;(go_wp2_with (at_mapUpdate;refine ksE rfl _ _ _ 163 rfl w kcK bl 166 3 (fun _=>True) Ei.o (kqn a6) underlying163 (fun _ _=>trivial) aR trivial rfl rfl ?_));intro aK ME s8 r8;have PA:=hD ME;have cA:=hD ((aV.o.trans (bU.o.mono uT)).grown s8 oM (fun j e=>by injection e with e;omega));have Ej:Hz (Mirror l (k+1) (kcb bl aR (I U (k:Int)))):=hD (by have af:=Pz.o;rw[nB.o] at af ⊢;exact Eg.o.miss af)
    have Ek:Hz (∀ j,j<k+1→Oz.maH l j=Z):=hD (fun j aS=>by
     by_cases e:j=k
     .rw[e];exact kb.o
     .exact od.o j oM)
    have BH:w.heap.size<aK.heap.size:=oM;clear ME s8 r8 m8 z0 ca cI z3 z4 z5;go_wp2_with fail;go_roundg f
    case measure=>omega
    case rel=>exact ⟨k+1,_,by go_num,by have:=bF.o;omega,by have:=bF.o;omega,PA,Ej,cA,BH,Ek⟩
   |some j=>
    rw[po] at m8;have iS:=kky po;have m8:(Instr.lookup 163 (.map (N w.heap.size)) (aa #[Q ⟨aR.op.toArray⟩,Q ⟨aR.text.toArray⟩,I U aR.a,I U aR.b,I U aR.c,I U aR.num]) K).run prog a6= .ok (ag #[I .i64 j,V K]) a6:=m8;have El:=hD (aV.o.trans (bU.o.mono uT));obtain ⟨r,am⟩:=xE (Oz.mad l k j);have kb:Hz (Oz.maH l k=r):=hD (by rw[wC.o,po,am]);have iB:=hD (kc6 base g ap cap k j l vs aP a6 (dh.o.below El.o) iS (by have:=bF.o;omega) ev.o);rw[←am] at iB;have Ej:Hz (Mirror l (k+1) bl):=hD (by have af:=po;rw[nB.o] at af;exact Eg.o.hit af);clear kY bY po am;go_wp2_with fail;refine iB.o.mono ?_;intro e bm cb;clear m8 z0 ca cI z3 z4 z5 iB
    cases r with
    |none=>
     have cb:e=ac (V J)∧H a6 a6 bm:=cb;obtain ⟨rfl,cQ⟩:=cb;have cN:=bT El cQ;have BI:=hD (Ei.o.keep (cQ.block w oM));have BH:w.heap.size<bm.heap.size:=by have:=cQ.size;omega
     have Ek:Hz (∀ j,j<k+1→Oz.maH l j=Z):=hD (fun j aS=>by
      by_cases e:j=k
      .rw[e];exact kb.o
      .exact od.o j oM)
     clear cQ;go_wp2_with fail;go_roundg f
     case measure=>omega
     case rel=>exact ⟨k+1,_,by go_num,by have:=bF.o;omega,by have:=bF.o;omega,BI,Ej,cN,BH,Ek⟩
    |some bX=>have cb:e=ac (V K)∧(∃ ip,EdX bm base g ap cap bX ip aP)∧FrX base a6 bm:=cb;obtain ⟨rfl,⟨ip,jk⟩,ke⟩:=cb;have m6:=hD jk;have f4:=hD (((FrX.refl base w).below El.o f5).trans ke);have cC:Hz (Oz.maw Oz.maH l=N bX):=hD (krt (by have:=bF.o;omega) od.o kb.o);clear jk ke;go_wp2_with fail;go_ret;unfold kaH;rw[cC.o];exact ⟨rfl,⟨_,_,_,m6.o⟩,f4.o⟩
  .have iq:k=n:=oM;subst iq;have cU:¬((k:Int)<(k:Int)):=oM;have cC:Hz (Oz.maw Oz.maH l=Z):=hD (kru (fun j aS=>od.o j (by have:=bF.o;omega)));go_wp2_with fail;go_ret;unfold kaH;rw[cC.o];exact ⟨rfl,aV.o⟩
def Fit (l:List St):Prop:=∀(i:Nat) (s:St),l[i]? =N s→∃ o,Fine l i s o
def kz9 {l:List St} {i:Nat} {s:St} {o:OpI} (f:Fine l i s o):ka0 l i s=0:=by
 rw[koo f.op f.len f.back,ua0,ua0,]
 .by_cases h:o.mbm=K
  .rw[ua1 h,f.pat h]
  grind
 .rintro (h|h)
  .exact h f.ty
  .rw[f.typed] at h;cases h
 .rintro (h|⟨h,ao⟩|⟨h,ao⟩)
  .have:=f.num;omega
  .exact ao (f.mct h)
  .rw[f.text h] at ao;cases ao
def check_fit {l:List St} :kaf l=0↔1≤l.length∧l.length≤4096∧Fit l:=by
 constructor
 .intro h;obtain ⟨af,ao,av⟩:=kfa h;exact ⟨af,ao,fun i s al=>kon (av i s al)⟩
 .rintro ⟨af,ao,av⟩;unfold kaf;rw[ua0 oM];refine (kgf l 0).2 fun j s al=>?_;obtain ⟨o,f⟩:=av j s al;rw[ud3];exact kz9 f
def ke6 {l l':List St} {i i':Nat} {s:St} {o:OpI} (f:Int→Int) (h:Fine l i s o) (b5:∀ a∈s.args,0≤f a∧f a<(i':Int)∧kae l' (f a)=kae l a):Fine l' i' (Oz.mapA f s) o:=by
 refine ⟨h.op,by unfold Oz.mapA;rw[ui9];exact h.len,fun a aE=>?_,h.num,h.mct,h.text,h.ty,?_,h.pat⟩
 .unfold Oz.mapA at aE;grind
 .have aB:=h.typed;unfold kbA at aB ⊢;show (if ka9 s.op=K then (if kae l' ((s.args.map f).getD 0 0)≠kae l' ((s.args.map f).getD 1 0) then J else if kae l' ((s.args.map f).getD 0 0)=2 then kdz s.op else decide (kae l' ((s.args.map f).getD 0 0)=1∨kae l' ((s.args.map f).getD 0 0)=3)) else decide ((s.args.map f).map (kae l')=o.args))=K;by_cases an:ka9 s.op=K
  .have az:s.args.length=2:=(by rw[h.len];exact kjF h.op an);grind
  .rw[ua0 an] at aB ⊢;have:(s.args.map f).map (kae l')=s.args.map (kae l):=(by rw[un0];exact um0 fun a aE=>(b5 a aE).2.2);grind
def keQ {f:Int→Int} {s:St} (h:∀ a∈s.args,f a=a):Oz.mapA f s=s:=by
 unfold Oz.mapA
 have:s.args.map f=s.args:=by
  conv=>rhs;rw[←List.map_id s.args]
  exact um0 fun a aE=>by rw[h a aE];rfl
 rw[this]
def kkA {l l':List St} {i:Nat} {s:St} {o:OpI} (h:Fine l i s o) (b5:∀ a∈s.args,kae l' a=kae l a):Fine l' i s o:=by have:=ke6 (l':=l') (i':=i) (fun a=>a) h (fun a aE=>⟨(h.back a aE).1,(h.back a aE).2,b5 a aE⟩);rwa [keQ (fun _ _=>rfl)] at this
def kbK (l:List St) (q:Nat):kae l (q:Int)=(l[q]?).elim 0 (fun s=>s.ty):=by unfold kae;grind
def ken {a:Int} (h:0≤a):∃ q:Nat,a=(q:Int):=⟨a.toNat,oM⟩
def kjs {l:List St} {i:Nat} (hi:i<l.length) (q:Nat):(Oz.mai l i)[q]? =if q<i then l[q]? else (l[q+1]?).map (Oz.mapA (fRm i)):=by
 have az:(l.take i).length=i:=(by rw[ub8];omega);unfold Oz.mai;by_cases h:q<i
 .exact kh0
 .rw[ua0 h,uf4 oM,az,ub9,ud0,show i+1+(q-i)=q+1 by omega];rfl
def khh {l:List St} {i:Nat} (hi:i<l.length):(Oz.mai l i).length=l.length-1:=by unfold Oz.mai;grind
def kiT {l:List St} {i:Nat} (hi:i<l.length) {a:Int} (aE:0≤a) (hai:a≠(i:Int)):kae (Oz.mai l i) (fRm i a)=kae l a:=by
 obtain ⟨q,rfl⟩:=ken aE;unfold fRm;by_cases h:(i:Int)<(q:Int)
 .rw[ua1 h,show (q:Int)-1=((q-1:Nat):Int) by omega,kbK,kbK,kjs hi,ua0 oM,show q-1+1=q by omega];cases l[q]? <;> rfl
 .rw[ua0 h,kbK,kbK,kjs hi,ua1 oM]
theorem kvs {l:List St} {i:Nat} (hi:i<l.length) (h:∀(q:Nat) (s:St),q≠i→l[q]? =N s→(∃ o,Fine l q s o)∧(i:Int)∉s.args):Fit (Oz.mai l i):=fun q s al=>by
 rw[kjs hi] at al;by_cases bj:q<i
 .rw[ua1 bj] at al;obtain ⟨⟨o,f⟩,ax⟩:=h q s oM al;refine ⟨o,?_⟩;have:=ke6 (l':=Oz.mai l i) (i':=q) (fRm i) f (fun a aE=>by have ak:=f.back a aE;have e:fRm i a=a:=ua0 oM;rw[←kiT hi ak.1 oM];omega);rwa [keQ (f:=fRm i) (s:=s) (fun a aE=>ua0 (by have:=f.back a aE;omega))] at this
 .rw[ua0 bj] at al
  cases az:l[q+1]? with
  |none=>rw[az] at al;cases al
  |some t=>rw[az,ue5] at al;injection al with al;subst al;obtain ⟨⟨o,f⟩,ax⟩:=h (q+1) t oM az;refine ⟨o,ke6 (fRm i) f (fun a aE=>?_)⟩;have ak:=f.back a aE;have ch:a≠(i:Int):=fun e=>ax (e ▸ aE);rw[kiT hi ak.1 ch];unfold fRm;omega
def kgc (n:List UInt8):1≤kai n:=by unfold kai;omega
def kew (a b:List St):kaq (a++b)=kaq a+kaq b:=by unfold kaq;grind
def kgd (s:St) (l:List St):kaq (s::l)=kai s.op+kaq l:=by unfold kaq;grind
def kkP (f:Int→Int) (l:List St):kaq (l.map (Oz.mapA f))=kaq l:=by unfold kaq;rw[un0];rfl
theorem kev:∀ l:List St,0≤kaq l
 |[]=>by unfold kaq;simp
 |s::l=>by rw[kgd];have:=kgc s.op;have:=kev l;omega
def khx {l:List St} {i:Nat} {s:St} (h:l[i]? =N s):kaq l=kaq (l.take i)+kai s.op+kaq (l.drop (i+1)):=by
 have hi:=(ue1.1 h);conv=>lhs;rw[←ug3 i l]
 rw[ue7 hi.1,kew,kgd,hi.2];omega
def kkN {l:List St} {i:Nat} {s:St} (h:l[i]? =N s):kaq (Oz.mai l i)=kaq l-kai s.op:=by rw[khx h];unfold Oz.mai;rw[kew];have:=kkP (fun a=>if (i:Int)<a then a-1 else a) (l.drop (i+1));omega
def khy {l:List St} {i:Nat} {s:St} (h:l[i]? =N s) (t:St):kaq (l.set i t)=kaq l-kai s.op+kai t.op:=by have hi:=(gH h).1;have ao:(l.set i t)[i]? =N t:=ud2 hi;rw[khx ao,khx h,List.take_set_of_le (uf1 i),List.drop_set_of_lt oM];omega
def kkO {l:List St} {j:Nat} (s:St):kaq (Oz.maq l j s)=kaq l+kai s.op:=by
 unfold Oz.maq;rw[kew,kgd,kkP];conv=>rhs;rw[←ug3 j l,kew]
 omega
def kA0 {l:List St} {k:Nat} (h:k<l.length):kaq (l.take k)<kaq l:=by
 conv=>rhs;rw[←ug3 k l,kew,ue7 h,kgd]
 have:=kgc l[k].op;have:=kev (l.drop (k+1));omega
def kbx (l:List St):Int:=kae l ((l.length:Int)-1)
def keT {l:List St} {i:Nat} (h:i+1=l.length):kbx l=kae l (i:Int):=by unfold kbx;rw[←h];congr 1;omega
def kyc {l:List St} {i:Nat} (hi:i+1<l.length):kbx (Oz.mai l i)=kbx l:=by obtain ⟨n,ax⟩:∃ n,n+2=l.length:=⟨l.length-2,oM⟩;rw[keT (i:=n) (by rw[khh oM];omega),keT (i:=n+1) oM];have h:=kiT (l:=l) (i:=i) oM (a:=((n+1:Nat):Int)) oM oM;rw[←h];congr 1;unfold fRm;omega
structure Kept57 (l l':List St):Prop where
 fit:Fit l'
 pos:1≤l'.length
 max:l'.length≤l.length
 last:kbx l'=kbx l
def kj6 {l:List St} {i:Nat} (hi:i+1<l.length) (h:∀(q:Nat) (s:St),q≠i→l[q]? =N s→(∃ o,Fine l q s o)∧(i:Int)∉s.args):Kept57 l (Oz.mai l i):=
 ⟨kvs oM h,by rw[khh oM];omega,by rw[khh oM];omega,kyc hi⟩
def ko8 {l:List St} {i j:Nat} (hi:i<l.length) (q:Nat):(l.take (i+1)++(l.drop (i+1)).map (Oz.mapA (fRp i j)))[q]? =if q≤i then l[q]? else (l[q]?).map (Oz.mapA (fRp i j)):=by grind
def kj5 {l l':List St} {i j:Nat} (b9:j<i) (hi:i<l.length) (h:∀(q:Nat) (s:St),q≠i→l[q]? =N s→∃ o,Fine l q s o) (aB:kae l (j:Int)=kae l (i:Int)) (am:Oz.mad l i j=N l'):
 Kept57 l l'∧∀ s,l[i]? =N s→kaq l'≤kaq l-kai s.op:=by
 unfold Oz.mad at am;split at am
 .cases am
 split at am
 .rename_i hk;injection am with am;subst am;have dz:(l.take (j+1)).length=j+1:=(by rw[ub8];omega);have fb:∀ q:Nat,q≤j→kae (l.take (j+1)) (q:Int)=kae l (q:Int):=fun q bj=>by rw[kbK,kbK,uc4,ua1 oM]
  refine ⟨⟨fun q s al=>?_,oM,oM,?_⟩,fun s al=>?_⟩
  .have bj:q<j+1:=(by rw[←dz];exact (gH al).1);rw[uc4,ua1 bj] at al;obtain ⟨o,f⟩:=h q s oM al;refine ⟨o,kkA f (fun a aE=>?_)⟩;have ak:=f.back a aE;obtain ⟨b,rfl⟩:=ken ak.1;grind
  .rw[keT (i:=j) oM,keT (i:=i) hk,fb j (uf1 j),aB]
  .rw[khx al,um3 oM]
   have af:kaq (l.take (j+1))≤kaq (l.take i):=by
    by_cases e:j+1=i
    .grind
    .have ao:=kA0 (l:=l.take i) (k:=j+1) (by rw[ub8];omega);grind
   have av:kaq ([]:List St)=0:=rfl;omega
 .rename_i hk;injection am with am;subst am;have aG:(l.drop (i+1)).map (Oz.mapA fun a=>if a=(i:Int) then (j:Int) else a)=(l.drop (i+1)).map (Oz.mapA (fRp i j)):=rfl;rw[aG];obtain ⟨M,h3⟩:=xE (l.take (i+1)++(l.drop (i+1)).map (Oz.mapA (fRp i j)));have hg:∀ q,M[q]? =if q≤i then l[q]? else (l[q]?).map (Oz.mapA (fRp i j)):=fun q=>by rw[h3];exact ko8 hi q
  have I4:M.length=l.length:=(by rw[h3,ua6,ub8,ui9,ud9];omega);have r2:kaq M=kaq l:=by rw[h3,kew,kkP,←kew,ug3]
  have fb:∀ q:Nat,kae M (q:Int)=kae l (q:Int):=fun q=>by
   rw[kbK,kbK,hg];split
   .rfl
   .cases l[q]? <;> rfl
  rw[←h3]
  have hO:∀(q:Nat) (s:St),q≠i→M[q]? =N s→(∃ o,Fine M q s o)∧(i:Int)∉s.args:=fun q s bj al=>by
   rw[hg] at al;by_cases Aq:q≤i
   .rw[ua1 Aq] at al;obtain ⟨o,f⟩:=h q s bj al;refine ⟨⟨o,kkA f (fun a aE=>?_)⟩,fun bg=>?_⟩
    .obtain ⟨b,rfl⟩:=ken (f.back a aE).1;exact fb b
    .have:=f.back _ bg;omega
   .rw[ua0 Aq] at al
    cases az:l[q]? with
    |none=>rw[az] at al;cases al
    |some t=>
     rw[az,ue5] at al;injection al with al;subst al;obtain ⟨o,f⟩:=h q t bj az;refine ⟨⟨o,ke6 (fRp i j) f (fun a aE=>?_)⟩,fun bg=>?_⟩
     .have ak:=f.back a aE;unfold fRp;by_cases e:a=(i:Int)
      .grind
      .rw[ua0 e];obtain ⟨b,rfl⟩:=ken ak.1;grind
     .unfold Oz.mapA at bg;obtain ⟨a,aE,jW⟩:=uh8.1 bg;unfold fRp at jW;omega
  have aw:=kj6 (l:=M) (i:=i) oM hO;refine ⟨⟨aw.fit,aw.pos,by rw[←I4];exact aw.max,aw.last.trans ?_⟩,fun s al=>?_⟩
  .unfold kbx;rw[I4];obtain ⟨b,ak⟩:=ken (a:=(l.length:Int)-1) oM;grind
  .have BJ:M[i]? =N s:=(by rw[hg,ua1 (uf1 i)];exact al);rw[kkN BJ,r2];omega
def kfB {l:List St} {j:Nat} {s:St} (aS:j≤l.length) {a:Int} (aE:0≤a):kae (Oz.maq l j s) (fIn j a)=kae l a:=by
 obtain ⟨q,rfl⟩:=ken aE;unfold fIn;by_cases h:(j:Int)≤(q:Int)
 .rw[ua1 h,show (q:Int)+1=((q+1:Nat):Int) by omega,kbK,kbK,ket l j s aS,ua0 oM,ua0 oM,show q+1-1=q by omega];cases l[q]? <;> rfl
 .rw[ua0 h,kbK,kbK,ket l j s aS,ua1 oM]
theorem kj8 {l:List St} {j:Nat} {s:St} (aS:j≤l.length) (h:Fit l) (al:∃ o,Fine l j s o):Fit (Oz.maq l j s):=fun q t aB=>by
 rw[ket l j s aS] at aB;have PB:∀(q:Nat) (t:St),q≤j→(∃ o,Fine l q t o)→∃ o,Fine (Oz.maq l j s) q t o:=fun q t bj b5=>by obtain ⟨o,f⟩:=b5;have:=ke6 (l':=Oz.maq l j s) (i':=q) (fIn j) f (fun a aE=>by have ak:=f.back a aE;have e:fIn j a=a:=ua0 oM;rw[←kfB (s:=s) aS ak.1];omega);rw[keQ (f:=fIn j) (s:=t) (fun a aE=>ua0 (by have:=f.back a aE;omega))] at this;grind
 by_cases bj:q<j
 .rw[ua1 bj] at aB;exact PB q t oM (h q t aB)
 .rw[ua0 bj] at aB;by_cases I8:q=j
  .grind
  .rw[ua0 I8] at aB
   cases az:l[q-1]? with
   |none=>rw[az] at aB;cases aB
   |some x=>rw[az,ue5] at aB;injection aB with aB;subst aB;obtain ⟨o,f⟩:=h (q-1) x az;refine ⟨o,ke6 (fIn j) f (fun a aE=>?_)⟩;have ak:=f.back a aE;rw[kfB aS ak.1];unfold fIn;omega
def knX {l:List St} {j:Nat} {t:St} (aS:j<l.length) (a:Int) (h:a≠(j:Int)∨t.ty=kae l (j:Int)) (aE:0≤a):kae (l.set j t) a=kae l a:=by
 obtain ⟨q,rfl⟩:=ken aE;by_cases e:q=j
 .subst e;rcases h with h|h
  .omega
  .rw[←h,kbK,ud2 aS];rfl
 .rw[kbK,kbK,ue2 (fun h=>e h.symm)]
def ke5 {l:List St} {j q:Nat} {t s:St} {o:OpI} (aS:j<l.length) (f:Fine l q s o) (h:(j:Int)∉s.args∨t.ty=kae l (j:Int)):Fine (l.set j t) q s o:=
 kkA f (fun a aE=>knX aS a (h.elim (fun h=> .inl (fun e=>h (e ▸ aE))) .inr) (f.back a aE).1)
def kj0 {l:List St} {j:Nat} {t:St} (aS:j<l.length) (h:j+1<l.length∨t.ty=kae l (j:Int)):kbx (l.set j t)=kbx l:=by unfold kbx;rw[ud8];exact knX aS _ (h.elim (fun h=> .inl oM) .inr) oM
def kqp {l:List St} {j:Nat} {t:St} (aS:j<l.length) (h:Fit l) (aB:∃ o,Fine l j t o) (fb:t.ty=kae l (j:Int)):Kept57 l (l.set j t):=by
 refine ⟨fun q s al=>?_,by rw[ud8];omega,by rw[ud8];exact nR,kj0 aS (.inr fb)⟩;by_cases e:q=j
 .subst e;rw[ud2 aS] at al;injection al with al;subst al;obtain ⟨o,f⟩:=aB;exact ⟨o,ke5 aS f (.inr fb)⟩
 .rw[ue2 (fun h=>e h.symm)] at al;obtain ⟨o,f⟩:=h q s al;exact ⟨o,ke5 aS f (.inr fb)⟩
def cnt (j:Int) (args:List Int):Int:=((args.filter fun a=>a==j).length:Int)
def kb7 (j:Int) (args:List Int):0≤cnt j args:=by unfold cnt;omega
def cnt_pos {j:Int} {args:List Int} :j∈args↔1≤cnt j args:=by
 unfold cnt;constructor
 .intro h;have:j∈args.filter fun a=>a==j:=List.mem_filter.2 ⟨h,by simp⟩;grind
 .intro h;obtain ⟨x,aA⟩:=List.exists_mem_of_length_pos (l:=args.filter fun a=>a==j) oM;grind
def kB2 {z:List Int} {a:Int} {j:Nat} (aE:0≤a) (haz:a<z.length):(bump z a).getD j 0=z.getD j 0+cnt (j:Int) [a]:=by unfold bump cnt;grind
theorem kr0 {n:Nat} {j:Nat} :∀(args z:List Int),z.length=n→(∀ a∈args,0≤a∧a<(n:Int))→(bumps z args).getD j 0=z.getD j 0+cnt (j:Int) args
 |[],z,_,_=>by unfold bumps cnt;simp
 |a::args,z,bd,h=>by have aD:=h a (uf3 ..);have bQ:=kr0 (j:=j) args (bump z a) ((kr1 z a).trans bd) (fun b ak=>h b (uf6 _ ak));have e:bumps z (a::args)=bumps (bump z a) args:=rfl;rw[e,bQ,kB2 aD.1 oM];have:cnt (j:Int) (a::args)=cnt (j:Int) [a]+cnt (j:Int) args:=(by unfold cnt;grind);omega
theorem kiR {l:List St} (h:∀ s∈l,∀ a∈s.args,0≤a∧a<(l.length:Int)) (j:Nat):(kag l).getD j 0=(l.map fun s=>cnt (j:Int) s.args).sum:=by
 have hg:∀(t:List St) (z:List Int),z.length=l.length→(∀ s∈t,∀ a∈s.args,0≤a∧a<(l.length:Int))→(t.foldl (fun z s=>bumps z s.args) z).getD j 0=z.getD j 0+(t.map fun s=>cnt (j:Int) s.args).sum:=by
  intro t
  induction t with
  |nil=>intro z _ _;simp
  |cons s t bQ=>intro z bd aB;rw[uj8,bQ (bumps z s.args) ((khC _ _).trans bd) (fun s' fc=>aB s' (uf6 _ fc)),kr0 s.args z bd (aB s (uf3 ..)),uf5,List.sum_cons];omega
 unfold kag kbt;rw[uf2,hg l _ (by simp) h];grind
theorem keI {α:Type} (f:α→Int):∀(l:List α),(∀ x∈l,0≤f x)→0≤(l.map f).sum
 |[],_=>by simp
 |x::l,h=>by rw[uf5,List.sum_cons];have:=h x (uf3 ..);have:=keI f l (fun aC bp=>h aC (uf6 _ bp));omega
def kdP {α:Type} (f:α→Int) {l:List α} {i:Nat} {x:α} (h:l[i]? =N x):(l.map f).sum=((l.take i).map f).sum+f x+((l.drop (i+1)).map f).sum:=by
 have hi:=(ue1.1 h);conv=>lhs;rw[←ug3 i l]
 rw[ue7 hi.1,uj3,List.sum_append,uf5,List.sum_cons,hi.2];omega
section
variable {l:List St} (ak:∀ s∈l,∀ a∈s.args,0≤a∧a<(l.length:Int))
include ak
theorem knT {j:Nat} (h:¬0<(kag l).getD j 0) {q:Nat} {s:St} (al:l[q]? =N s):(j:Int)∉s.args:=fun bg=>by rw[kiR ak,kdP _ al] at h;have af:=cnt_pos.1 bg;have ao:=keI (fun s:St=>cnt (j:Int) s.args) (l.take q) (fun x _=>kb7 _ _);have av:=keI (fun s:St=>cnt (j:Int) s.args) (l.drop (q+1)) (fun x _=>kb7 _ _);omega
theorem kei {i j:Nat} {s:St} (h:(kag l).getD j 0=1) (al:l[i]? =N s) (aS:(j:Int)∈s.args) {q:Nat} {t:St} (bj:q≠i) (aB:l[q]? =N t):(j:Int)∉t.args:=fun bg=>by
 rw[kiR ak,kdP _ al] at h;have af:=cnt_pos.1 aS;have bk:=cnt_pos.1 bg;have ax:=keI (fun s:St=>cnt (j:Int) s.args);have ao:=ax (l.take i) (fun x _=>kb7 _ _);have av:=ax (l.drop (i+1)) (fun x _=>kb7 _ _);by_cases bG:q<i
 .have e:(l.take i)[q]? =N t:=(by rw[uc4,ua1 bG];exact aB);have cb:=kdP (fun s:St=>cnt (j:Int) s.args) e;have dE:=ax ((l.take i).take q) (fun x _=>kb7 _ _);have fi:=ax ((l.take i).drop (q+1)) (fun x _=>kb7 _ _);omega
 .have e:(l.drop (i+1))[q-(i+1)]? =N t:=(by rw[ud0,show i+1+(q-(i+1))=q by omega];exact aB);have cb:=kdP (fun s:St=>cnt (j:Int) s.args) e;have dE:=ax ((l.drop (i+1)).take (q-(i+1))) (fun x _=>kb7 _ _);have fi:=ax ((l.drop (i+1)).drop (q-(i+1)+1)) (fun x _=>kb7 _ _);omega
theorem kv6 {i j:Nat} {s:St} (h:(kag l).getD j 0=1) (al:l[i]? =N s) {k m:Nat} (aw:s.args[k]? =N (j:Int)) (hkm:k≠m):s.args[m]? ≠N (j:Int):=fun bg=>by
 rw[kiR ak,kdP _ al] at h;have ax:=keI (fun s:St=>cnt (j:Int) s.args);have ao:=ax (l.take i) (fun x _=>kb7 _ _);have av:=ax (l.drop (i+1)) (fun x _=>kb7 _ _);have bk:cnt (j:Int) s.args≤1:=oM
 have PD:∀ args:List Int,cnt (j:Int) args=(args.map fun a=>cnt (j:Int) [a]).sum:=by
  intro args
  induction args with
  |nil=>rfl
  |cons a args bQ=>have:cnt (j:Int) (a::args)=cnt (j:Int) [a]+cnt (j:Int) args:=(by unfold cnt;grind);grind
 rw[PD] at bk;have Zd:cnt (j:Int) [(j:Int)]=1:=(by unfold cnt;simp);rw[kdP (fun a=>cnt (j:Int) [a]) aw] at bk;have fT:=keI (fun a:Int=>cnt (j:Int) [a]);have cb:=fT (s.args.take k) (fun x _=>kb7 _ _);have dE:=fT (s.args.drop (k+1)) (fun x _=>kb7 _ _);by_cases bG:m<k
 .have e:(s.args.take k)[m]? =N (j:Int):=(by rw[uc4,ua1 bG];exact bg);have fi:=kdP (fun a=>cnt (j:Int) [a]) e;have hv:=fT ((s.args.take k).take m) (fun x _=>kb7 _ _);have gM:=fT ((s.args.take k).drop (m+1)) (fun x _=>kb7 _ _);omega
 .have e:(s.args.drop (k+1))[m-(k+1)]? =N (j:Int):=(by rw[ud0,show k+1+(m-(k+1))=m by omega];exact bg);have fi:=kdP (fun a=>cnt (j:Int) [a]) e;have hv:=fT ((s.args.drop (k+1)).take (m-(k+1))) (fun x _=>kb7 _ _);have gM:=fT ((s.args.drop (k+1)).drop (m-(k+1)+1)) (fun x _=>kb7 _ _);omega
end
def kll (h:P:=by exact kcL an al h (o:=⟨[1,1],1,J,J⟩) kS dC 0 rfl am):=h
def klk (h:P:=by exact kcL an al h (o:=⟨[2,2],2,J,J⟩) kS dC 0 rfl am):=h
def klj (h:P:=by exact kcL an al h (o:=⟨[4,4],4,J,J⟩) kS dC 0 rfl am):=h
def knE (h:P:=by
 rw[ua1 fi] at am;obtain ⟨kW,am⟩:=kdU am;have f:=kaC an al (o:=⟨[2],2,J,J⟩) (by rw[fi];show (_:Option OpI)=_;kernel_rfl);have az:s.args.length=1:=f.len;obtain ⟨j,t,e,b9,aB,yX,_⟩:=ka1 an al f (k:=0) oM;rw[e,yX] at kW am;have fL:=kaC an aB (o:=⟨[2],2,J,J⟩) (by rw[kW];show (_:Option OpI)=_;kernel_rfl);have bG:t.args.length=1:=fL.len;obtain ⟨m,u,em,BK,aI,_,I5⟩:=ka1 an aB fL (k:=0) oM;rw[em,ub7] at am
 first
 |guard_hyp PF;have fb:=ke4 fL (by rw[kW];decide);have af:(t.args.map (kae l))[0]? =N (kae l (m:Int)):=(by rw[ub9,I5];rfl);rw[fb] at af;injection af with af;exact kjp an al (Nat.lt_trans BK b9) (by rw[←af,f.ty]) am
 | refine khf X hF an al (Nat.lt_trans BK b9) am fun cw hD => .inl ?_
   obtain ⟨Ze, PE⟩ := knQ X hF an hD (Nat.lt_trans BK b9) aI
   have cu : kbe (cw.getD m (.num 0)) = 2 := by
    have af := kdY an aB fL (by rw [kW]; decide) I5
    rw [kcu aI] at af
    injection af with af
    rw [PE, ← af]
   have au := kcT X an hD b9 aB
   rw [kcs X bG, kaJ X kW, em, ub7] at au
   have eU : Except.ok (Ev.Va.tru (!(cw.getD m (.num 0)).b)) = Except.ok (cw.getD j (.num 0)) := au
   injection eU with eU
   rw [kcs X az, kaJ X fi, e, ub7, ← eU]
   show Except.ok (Ev.Va.tru (!(!(cw.getD m (.num 0)).b))) = _
   rw [Bool.not_not]
   exact ud4 _ (kj3 cu).symm):=h
structure Done57 (l l':List St):Prop where
 check:kaf l'=0
 cost:kaq l'<kaq l
 last:kbx l'=kbx l
def kht {l l':List St} (an:kaf l=0) (k:Kept57 l l') (h:kaq l'<kaq l):Done57 l l':=
 ⟨check_fit.2 ⟨k.pos,uc9 k.max (check_fit.1 an).2.1,k.fit⟩,h,k.last⟩
theorem kCf {s:St} (h:s.args.length=1):s.args=[Oz.arg s 0]:=by
 unfold Oz.arg
 match bg:s.args,h with
 |[a],_=>rfl
theorem ksc {s:St} (h:s.args.length=2):s.args=[Oz.arg s 0,Oz.arg s 1]:=by
 unfold Oz.arg
 match bg:s.args,h with
 |[a,b],_=>rfl
theorem kCe {s:St} (h:s.args.length=3):s.args=[Oz.arg s 0,Oz.arg s 1,Oz.arg s 2]:=by
 unfold Oz.arg
 match bg:s.args,h with
 |[a,b,c],_=>rfl
def ke4 {l:List St} {i:Nat} {s:St} {o:OpI} (f:Fine l i s o) (an:ka9 s.op=J):s.args.map (kae l)=o.args:=by have h:=f.typed;unfold kbA at h;rw[ua0 (by rw[an];decide)] at h;exact ug4 h
def kdA {l:List St} {i:Nat} {op:List UInt8} {args:List Int} {num:Int} {text:List UInt8} {ty:Int} {o:OpI} (bf:opR op=N o) (an:ka9 op=J) (ak:∀ a∈args,0≤a∧a<(i:Int)) (aB:args.map (kae l)=o.args) (fb:ty=o.res) (ax:0≤num) (nv:0<num→op=kac) (mV:text≠ []→o.text=K) (aO:o.mbm=K→kbv text=0):Fine l i (Oz.mk op args num text ty) o:=
 ⟨bf,by have:=ud4 List.length aB;rw[ui9] at this;exact this,ak,ax,nv,mV,fb,by unfold kbA;show (if ka9 op=K then _ else decide (args.map (kae l)=o.args))=K;rw[ua0 (by rw[an];decide)];exact ub3 aB,aO⟩
def kaC {l:List St} (an:kaf l=0) {i:Nat} {s:St} (al:l[i]? =N s) {o:OpI} (bf:opR s.op=N o):Fine l i s o:=by obtain ⟨dp,f⟩:=(check_fit.1 an).2.2 i s al;have:=f.op;rw[bf] at this;injection this with this;exact this ▸ f
def kcr {l:List St} (an:kaf l=0):∀ s∈l,∀ a∈s.args,0≤a∧a<(l.length:Int):=fun s al=>(kdv an s al).2
def kjp {l l':List St} (an:kaf l=0) {i j:Nat} {s:St} (al:l[i]? =N s) (b9:j<i) (fb:kae l (j:Int)=s.ty) (am:Oz.mad l i j=N l'):Done57 l l':=by have dK:=(gH al).1;obtain ⟨k,aw⟩:=kj5 b9 dK (fun q t _ aB=>(check_fit.1 an).2.2 q t aB) (by rw[fb,kcu al]) am;have:=aw s al;have:=kgc s.op;exact kht an k oM
def kja {l:List St} (an:kaf l=0) {i:Nat} {s t:St} (al:l[i]? =N s) (aB:∃ o,Fine l i t o) (fb:t.ty=s.ty) (r2:kai t.op<kai s.op):Done57 l (l.set i t):=by have dK:=(gH al).1;refine kht an (kqp dK (check_fit.1 an).2.2 aB (by rw[fb,kcu al])) ?_;rw[khy al];omega
theorem kaT {c:Bool} {x:Option (List St)} {aC:List St} (h:(if c then x else Z)=N aC):c=K∧x=N aC:=by
 cases c with
 |false=>cases h
 |true=>exact ⟨rfl,h⟩
def kdU {c:Prop} [Decidable c] {x:Option (List St)} {aC:List St} (h:(if c then x else Z)=N aC):c∧x=N aC:=by
 by_cases an:c
 .rw[ua1 an] at h;exact ⟨an,h⟩
 .rw[ua0 an] at h;cases h
theorem keh {a b:Option (List St)} {aC:List St} (h:Oz.orElse a b=N aC):a=N aC∨b=N aC:=by
 cases a with
 |none=>exact .inr h
 |some x=>exact .inl h
section
variable {l l':List St} (an:kaf l=0) {i:Nat} {s:St} (al:l[i]? =N s)
include an al
theorem ka1 {o:OpI} (f:Fine l i s o) {k:Nat} (aw:k<s.args.length):∃(j:Nat) (t:St),Oz.arg s k=(j:Int)∧j<i∧l[j]? =N t∧Oz.at_ l (j:Int)=t∧s.args[k]? =N (j:Int):=by obtain ⟨j,t,af,ao,av,bk,cb⟩:=kbi an al aw;exact ⟨j,t,bk,ao,av,cb,af⟩
theorem kuP (am:Oz.maH l i=N l'):Done57 l l':=by
 unfold Oz.maH at am;rw[kjc,kal al] at am
 cases b5:fk l i (kbl s) with
 |none=>rw[b5] at am;cases am
 |some j=>rw[b5] at am;have b9:=kky b5;have dK:=(gH al).1;obtain ⟨t,aB⟩:∃ t,l[j]? =N t:=⟨_,ua3 oM⟩;have aw:kbl (Oz.at_ l j)=kbl s:=(by unfold fk at b5;have:=List.find?_some b5;exact ug4 this);rw[kal aB] at aw;have ba:t.op=s.op:=ud4 KeyS.op aw;obtain ⟨o,f⟩:=(check_fit.1 an).2.2 i s al;have fL:=kaC an aB (by rw[ba];exact f.op);exact kjp an al b9 (by rw[kcu aB,fL.ty,f.ty]) am
theorem kjM {n:Int} (ax:0≤n) (fb:s.ty=1) (r2:1<kai s.op):Done57 l (l.set i (Oz.mk kac [] n [] 1)):=
 kja an al ⟨⟨[],1,J,J⟩,kdA kS (by decide) (fun a aE=>by cases aE) rfl rfl ax (fun _=>rfl) (fun h=>absurd rfl h) (fun h=>by cases h)⟩ fb.symm (by show kai kac<kai s.op;have:kai kac=1:=(by show (_:Int)=_;kernel_rfl);omega)
theorem kgj (op:List UInt8) (ba:s.op=op) (bf:opR op=N ⟨[1,1],1,J,J⟩) (r2:kai op=2) (Yf:∀ a b n:Int,0≤a→0≤b→Oz.mao op a b=N n→0≤n) (am:(match Oz.mbG l (Oz.arg s 0),Oz.mbG l (Oz.arg s 1) with
 |some a,some b=>(Oz.mao op a b).map fun n=>l.set i (Oz.mk kac [] n [] 1)
 |_,_=>Z)=N l'):Done57 l l':=by
 have f:=kaC an al (o:=⟨[1,1],1,J,J⟩) (by rw[ba];exact bf);have az:s.args.length=2:=f.len;obtain ⟨bO,t0,bw,_,cE,a0,_⟩:=ka1 an al f (k:=0) oM;obtain ⟨cc,bb,aL,_,dy,aY,_⟩:=ka1 an al f (k:=1) oM;obtain ⟨fU,f0⟩:=(check_fit.1 an).2.2 bO t0 cE;obtain ⟨eO,b2⟩:=(check_fit.1 an).2.2 cc bb dy;rw[bw,aL] at am;unfold Oz.mbG at am;rw[a0,aY] at am;by_cases aD:t0.op=kac∧t0.num≤Oz.mab
 .rw[ua1 aD] at am;by_cases af:bb.op=kac∧bb.num≤Oz.mab
  .rw[ua1 af] at am;dsimp only at am
   cases gf:Oz.mao op t0.num bb.num with
   |none=>rw[gf] at am;cases am
   |some n=>rw[gf] at am;injection am with am;subst am;exact kjM an al (Yf _ _ _ f0.num b2.num gf) f.ty (by rw[ba,r2];decide)
  .rw[ua0 af] at am;cases am
 .rw[ua0 aD] at am;cases am
theorem kzQ (am:Oz.maM l i=N l'):Done57 l l':=by
 unfold Oz.maM at am;rw[kal al] at am;dsimp only at am;by_cases aD:s.op=Oz.maT∨s.op=Oz.maS∨s.op=Oz.maF∨s.op=Oz.maY∨s.op=Oz.maJ
 .rw[ua1 aD] at am;rcases aD with h|h|h|h|h <;> rw[h] at am
  .exact kgj an al Oz.maT h kS (by show (_:Int)=_;kernel_rfl) (fun a b n aE ak gf=>by unfold Oz.mao at gf;rw[ua1 rfl] at gf;injection gf with gf;omega) am
  .exact kgj an al Oz.maS h kS (by show (_:Int)=_;kernel_rfl) (fun a b n aE ak gf=>by unfold Oz.mao at gf;rw[ua0 dC,ua1 rfl] at gf;injection gf with gf;omega) am
  .exact kgj an al Oz.maF h kS (by show (_:Int)=_;kernel_rfl) (fun a b n aE ak gf=>by
    unfold Oz.mao at gf;rw[ua0 dC,ua0 dC,ua1 rfl] at gf;split at gf
    .injection gf with gf;omega
    .cases gf) am
  .exact kgj an al Oz.maY h kS (by show (_:Int)=_;kernel_rfl) (fun a b n aE ak gf=>by
    unfold Oz.mao at gf;rw[ua0 dC,ua0 dC,ua0 dC,ua1 rfl] at gf;split at gf
    .rename_i mG;simp only[uj0,ue8] at mG;injection gf with gf;omega
    .cases gf) am
  .exact kgj an al Oz.maJ h kS (by show (_:Int)=_;kernel_rfl) (fun a b n aE ak gf=>by
    unfold Oz.mao at gf;rw[ua0 dC,ua0 dC,ua0 dC,ua0 dC,ua1 rfl] at gf;split at gf
    .injection gf with gf;rw[←gf];exact uq1 aE ak
    .cases gf) am
 rw[ua0 aD] at am;by_cases af:s.op=Oz.mal
 .rw[ua1 af] at am;obtain ⟨_,am⟩:=kaT am;injection am with am;subst am;have f:=kaC an al (o:=⟨[3],1,J,J⟩) (by rw[af];show (_:Option OpI)=_;kernel_rfl);exact kjM an al oM f.ty (by rw[af];have:kai Oz.mal=2:=(by show (_:Int)=_;kernel_rfl);omega)
 rw[ua0 af] at am;by_cases ao:s.op=Oz.mbi
 .rw[ua1 ao] at am;obtain ⟨_,am⟩:=kaT am;injection am with am;subst am;have f:=kaC an al (o:=⟨[3],1,J,J⟩) (by rw[ao];show (_:Option OpI)=_;kernel_rfl);exact kjM an al oM f.ty (by rw[ao];have:kai Oz.mbi=2:=(by show (_:Int)=_;kernel_rfl);omega)
 rw[ua0 ao] at am;by_cases av:s.op=Oz.maO
 .rw[ua1 av] at am;obtain ⟨_,am⟩:=kaT am;injection am with am;subst am;have f:=kaC an al (o:=⟨[3,3],3,J,J⟩) (by rw[av];show (_:Option OpI)=_;kernel_rfl);refine kja an al ⟨⟨[],3,K,J⟩,kdA kS dC (fun a aE=>by cases aE) rfl rfl (ug9 0) (fun h=>by omega) (fun _=>rfl) (fun h=>by cases h)⟩ f.ty.symm ?_;show kai kaF<kai s.op;rw[av];have bk:kai kaF=1:=(by show (_:Int)=_;kernel_rfl);have cb:kai Oz.maO=8:=(by show (_:Int)=_;kernel_rfl);omega
 rw[ua0 av] at am;cases am
theorem kcL {op:List UInt8} {o:OpI} (ba:s.op=op) (bf:opR op=N o) (kg:ka9 op=J) (k:Nat) (aw:o.args[k]? =N o.res) (am:Oz.mad l i (Oz.arg s k).toNat=N l'):Done57 l l':=by have f:=kaC an al (by rw[ba];exact bf);have gp:=(gH aw).1;obtain ⟨j,t,e,b9,aB,_,aE⟩:=ka1 an al f (k:=k) (by rw[f.len];exact gp);rw[e,ub7] at am;have fb:=ke4 f (by rw[ba];exact kg);have af:(s.args.map (kae l))[k]? =N (kae l (j:Int)):=(by rw[ub9,aE];rfl);rw[fb,aw] at af;injection af with af;exact kjp an al b9 (by rw[←af,f.ty]) am
theorem kwE (am:Oz.maj l i=N l'):Done57 l l':=by
 unfold Oz.maj at am;rw[kal al] at am;dsimp only at am;by_cases aD:s.op=Oz.maF
 .rw[ua1 aD] at am;rcases keh am with am|am
  .exact kcL an al aD (o:=⟨[1,1],1,J,J⟩) kS dC 0 rfl (kaT am).2
  .exact kcL an al aD (o:=⟨[1,1],1,J,J⟩) kS dC 1 rfl (kaT am).2
 rw[ua0 aD] at am;by_cases af:s.op=Oz.maY
 .rw[ua1 af] at am;exact kcL an al af (o:=⟨[1,1],1,J,J⟩) kS dC 0 rfl (kaT am).2
 rw[ua0 af] at am;by_cases ao:s.op=Oz.maJ
 .rw[ua1 ao] at am;rcases keh am with am|am
  .exact kcL an al ao (o:=⟨[1,1],1,J,J⟩) kS dC 0 rfl (kaT am).2
  .exact kcL an al ao (o:=⟨[1,1],1,J,J⟩) kS dC 1 rfl (kaT am).2
 rw[ua0 ao] at am;by_cases av:s.op=Oz.maT∨s.op=Oz.maS∨s.op=Oz.mbC∨s.op=Oz.oOr∨s.op=Oz.mbF∨s.op=Oz.maI
 .rw[ua1 av] at am;have am:=(kdU am).2;rcases av with h|h|h|h|h|h
  .exact kll
  .exact kll
  .exact klk
  .exact klk
  .exact klj
  .exact klj
 rw[ua0 av] at am;by_cases bk:s.op=Oz.maO
 .rw[ua1 bk] at am;rcases keh am with am|am
  .exact kcL an al bk (o:=⟨[3,3],3,J,J⟩) kS dC 0 rfl (kaT am).2
  .exact kcL an al bk (o:=⟨[3,3],3,J,J⟩) kS dC 1 rfl (kaT am).2
 rw[ua0 bk] at am;by_cases cb:s.op=Oz.maU
 .rw[ua1 cb] at am;exact kcL an al cb (o:=⟨[3,1],3,J,J⟩) kS dC 0 rfl (kaT am).2
 rw[ua0 cb] at am;by_cases dE:s.op=Oz.ma4
 .rw[ua1 dE] at am;exact kcL an al dE (o:=⟨[3,1,1],3,J,J⟩) kS dC 0 rfl (kaT am).2
 rw[ua0 dE] at am;by_cases fi:s.op=Oz.maL
 .have PF:=();exact knE
 rw[ua0 fi] at am;cases am
theorem kBa (am:Oz.maZ l i=N l'):Done57 l l':=by
 unfold Oz.maZ at am;rw[kal al] at am;dsimp only at am;obtain ⟨⟨ba,q4⟩,am⟩:=kdU am;injection am with am;subst am;have f:=kaC an al (o:=⟨[3,3],1,J,J⟩) (by rw[ba];show (_:Option OpI)=_;kernel_rfl);have az:s.args.length=2:=f.len;obtain ⟨j,t,e,b9,aB,_,aE⟩:=ka1 an al f (k:=0) oM;have fb:=ke4 f (by rw[ba];decide);have af:(s.args.map (kae l))[0]? =N (kae l (j:Int)):=(by rw[ub9,aE];rfl);rw[fb] at af;injection af with af;refine kja an al ⟨⟨[3],1,J,J⟩,kdA kS dC (fun a aE=>?_) ?_ rfl (ug9 0) (fun h=>by omega) (fun h=>absurd rfl h) (fun h=>by cases h)⟩ f.ty.symm ?_
 .simp only[uc7,ue3,ui2] at aE;rw[aE,e];omega
 .rw[e,uf5,uk8,←af]
 .show kai Oz.mal<kai s.op;rw[ba];have bk:kai Oz.mal=2:=(by show (_:Int)=_;kernel_rfl);have cb:kai Oz.ma7=8:=(by show (_:Int)=_;kernel_rfl);omega
theorem ks1 (am:Oz.ma0 l i=N l'):Done57 l l':=by
 unfold Oz.ma0 at am;split at am
 .cases am
 rename_i dY;injection am with am;subst am;simp only[ul6] at dY;have dK:=(gH al).1;refine kht an (kj6 oM (fun q t _ aB=>⟨(check_fit.1 an).2.2 q t aB,knT (kcr an) dY.2.1 aB⟩)) ?_;rw[kkN al];have:=kgc s.op;omega
end
def kfv (h:P:=by
 rw[bf] at am;dsimp only at am;obtain ⟨t,aB,gO,aI,b9,aE⟩:=kjI an al f (by rw[f.len];decide) bf;split at am
 .cases am
 rw[kal aB] at am
 first
 |guard_hyp PM
  first
  |guard_hyp Sh;refine kpH X hF an al aB b9 aE aI (fun v=>Ev.mbl v.l) am (fun d=>?_) (fun v au=>?_) (fun cw hD=>?_)
   .unfold Ev.at1;show Ev.app X (Oz.mk kbN t.args 0 t.text 1) (List.map (fun a:Int=>d.getD a.toNat (.num 0)) t.args)=_;rw[kaJ X (s:=t) gO,kaJ X (s:=Oz.mk kbN t.args 0 t.text 1) (op:=kbN) rfl];generalize List.map (fun a:Int=>d.getD a.toNat (.num 0)) t.args=A;show (X.F t.text (Ev.v0 A 0).t).bind (fun l=>Ev.mbl l)=((X.F t.text (Ev.v0 A 0).t).bind fun l=> .ok (Ev.Va.sps l)).bind (fun v=>Ev.mbl v.l);cases X.F t.text (Ev.v0 A 0).t <;> rfl
   .refine ⟨_,kcH (n:=v.l.length) ?_⟩;have:=(ke1 au).2;unfold Oz.mab;omega
   .rw[kcs X f.len,kaJ X ba,kfd aE];rfl
  |have fL:=kaC an aB (o:=⟨[3],4,K,K⟩) (by rw[gO];show (_:Option OpI)=_;kernel_rfl);refine koc an al aB b9 aE aI ⟨⟨[3],1,K,K⟩,kdA kS dC fL.back (show t.args.map (kae l)=[3] from ke4 fL (by rw[gO];decide)) rfl (ug9 0) (fun h=>by omega) (fun _=>rfl) (fun _=>fL.pat rfl)⟩ f.ty.symm ?_ am;show kai kbN<kai t.op+kai s.op;rw[ba,gO];have af:kai kbN=64:=(by show (_:Int)=_;kernel_rfl);have ao:kai Oz.mbd=64:=(by show (_:Int)=_;kernel_rfl);have av:kai Oz.mbn=2:=(by show (_:Int)=_;kernel_rfl);omega
 |guard_hyp PN
  first
  |guard_hyp PO;have fL:=kaC an aB (o:=⟨[3,1,1],3,J,J⟩) (by rw[gO];show (_:Option OpI)=_;kernel_rfl);refine koc an al aB b9 aE aI ⟨⟨[3,1,1],1,J,J⟩,kdA kS dC fL.back (show t.args.map (kae l)=[3,1,1] from ke4 fL (by rw[gO];decide)) rfl (ug9 0) (fun h=>by omega) (fun h=>absurd rfl h) (fun h=>by cases h)⟩ f.ty.symm ?_ am;show kai kbS<kai t.op+kai s.op;rw[ba,gO];have af:kai kbS=8:=(by show (_:Int)=_;kernel_rfl);have ao:kai Oz.ma4=8:=(by show (_:Int)=_;kernel_rfl);have av:kai Oz.mal=2:=(by show (_:Int)=_;kernel_rfl);omega
  |refine kpH X hF an al aB b9 aE aI (fun v=>Ev.mah v.t.length) am (fun d=>?_) (fun v au=>?_) (fun cw hD=>?_)
   .unfold Ev.at1;rw[kaJ X (s:=t) gO,kaJ X (s:=Oz.mk kbS t.args 0 [] 1) (op:=kbS) rfl];rfl
   .refine ⟨_,kcH (n:=v.t.length) ?_⟩;have:=kc0 au;have:=hF.n;unfold Oz.mab at*;omega
   .rw[kcs X f.len,kaJ X ba,kfd aE];rfl
 |guard_hyp PP;have dK:=(gH al).1;have dk:=(gH aB).1;have fL:=kaC an aB (o:=⟨[3,1],3,J,J⟩) (by rw[gO];show (_:Option OpI)=_;kernel_rfl);have bG:t.args.length=2:=fL.len;obtain ⟨p,_,hW,aO,_,_,pD⟩:=ka1 an aB fL (k:=0) oM;obtain ⟨q,_,eq,bj,_,_,r3⟩:=ka1 an aB fL (k:=1) oM;have af:=kdY an aB fL (by rw[gO];decide) pD;have ao:=kdY an aB fL (by rw[gO];decide) r3;injection af with af;injection ao with ao;rw[hW,eq] at am;obtain ⟨bl,cR⟩:=xE (Oz.maq l j (Oz.lenOf (p:Int)));rw[←cR] at am;have m9:bl.length=l.length+1:=(by rw[cR,kdV]);have hF:Fit bl:=(by rw[cR];exact kj8 (ui0 dk) (check_fit.1 an).2.2 ⟨_,kjX oM af.symm⟩);have hg:∀ q,bl[q]? =if q<j then l[q]? else if q=j then N (Oz.lenOf (p:Int)) else (l[q-1]?).map (Oz.mapA (fIn j)):=fun q=>by rw[cR];exact ket l j _ (ui0 dk) q
  have Em:bl[i+1]? =N (Oz.mapA (fIn j) s):=(by rw[hg,ua0 oM,ua0 oM,up9,al];rfl);have En:bl[j+1]? =N (Oz.mapA (fIn j) t):=(by rw[hg,ua0 oM,ua0 oM,up9,aB];rfl);have Eo:kae bl (j:Int)=1:=(by rw[kbK,hg,ua0 oM,ua1 rfl];rfl);have Ep:kae bl (q:Int)=1:=by have:=kfB (s:=Oz.lenOf (p:Int)) (ui0 dk) (a:=(q:Int)) oM;rw[show fIn j (q:Int)=(q:Int) from ua0 oM,←cR] at this;rw[this,←ao]
  obtain ⟨k,aw⟩:=kpD hF (by omega:j+1<i+1) Em En (x:=Oz.mk Oz.maJ [(j:Int),(q:Int)] 0 [] 1) ⟨⟨[1,1],1,J,J⟩,kdA kS dC (fun x aA=>by simp only[uc7,ue3,ui2] at aA;rcases aA with rfl|rfl <;> omega) (by rw[uf5,uf5,uk8,Eo,Ep]) rfl (ug9 0) (fun h=>by omega) (fun h=>absurd rfl h) (fun h=>by cases h)⟩ f.ty.symm (fun r aC m2 bp bg=>by
   rw[hg] at bp;by_cases av:r<j
   .rw[ua1 av] at bp;obtain ⟨o,Er⟩:=(check_fit.1 an).2.2 r aC bp;have:=Er.back _ bg;omega
   .rw[ua0 av] at bp;by_cases bk:r=j
    .rw[ua1 bk] at bp;injection bp with bp;subst bp;have bg:((j+1:Nat):Int)∈ [(p:Int)]:=bg;simp only[uc7,ue3,ui2] at bg;omega
    .rw[ua0 bk] at bp
     cases hy2:l[r-1]? with
     |none=>rw[hy2] at bp;cases bp
     |some z=>rw[hy2,ue5] at bp;injection bp with bp;subst bp;have bg:((j+1:Nat):Int)∈z.args.map (fIn j):=bg;obtain ⟨a,jm,jW⟩:=uh8.1 bg;have:a=(j:Int):=(by unfold fIn at jW;split at jW <;> omega);subst this;exact kei (kcr an) aI al (ua4 aE) oM hy2 jm) am
  have dz:=ko6 (by omega:j+1<i+1) (by rw[ud8];omega) am;rw[ud8,m9] at dz;have r2:kaq bl=kaq l+2:=(by rw[cR,kkO];rfl);have hk:kbx bl=kbx l:=(by rw[cR];exact kj7 dk _);refine ⟨check_fit.2 ⟨k.pos,by have:=(check_fit.1 an).2.1;omega,k.fit⟩,?_,k.last.trans hk⟩;have cb:kai (Oz.mapA (fIn j) t).op=8:=(by rw[show (Oz.mapA (fIn j) t).op=t.op from rfl,gO];show (_:Int)=_;kernel_rfl);have dE:kai (Oz.mapA (fIn j) s).op=2:=(by rw[show (Oz.mapA (fIn j) s).op=s.op from rfl,ba];show (_:Int)=_;kernel_rfl);have fi:kai (Oz.mk Oz.maJ [(j:Int),(q:Int)] 0 [] 1).op=2:=(by show kai Oz.maJ=2;show (_:Int)=_;kernel_rfl);omega
 |guard_hyp PR;have dK:=(gH al).1;have dk:=(gH aB).1;have fL:=kaC an aB (o:=⟨[3,3],3,J,J⟩) (by rw[gO];show (_:Option OpI)=_;kernel_rfl);have bG:t.args.length=2:=fL.len;obtain ⟨p,_,hW,aO,_,_,pD⟩:=ka1 an aB fL (k:=0) oM;obtain ⟨q,_,eq,bj,_,_,r3⟩:=ka1 an aB fL (k:=1) oM;have af:=kdY an aB fL (by rw[gO];decide) pD;have ao:=kdY an aB fL (by rw[gO];decide) r3;injection af with af;injection ao with ao;rw[hW,eq] at am;obtain ⟨te,me⟩:=xE (Oz.maq l j (Oz.lenOf (p:Int)));rw[←me] at am;have PG:te.length=l.length+1:=(by rw[me,kdV]);have I6:Fit te:=(by rw[me];exact kj8 (ui0 dk) (check_fit.1 an).2.2 ⟨_,kjX oM af.symm⟩);have iY:∀ q,te[q]? =if q<j then l[q]? else if q=j then N (Oz.lenOf (p:Int)) else (l[q-1]?).map (Oz.mapA (fIn j)):=fun q=>by rw[me];exact ket l j _ (ui0 dk) q
  have Ep:kae te (q:Int)=3:=(by have:=kfB (s:=Oz.lenOf (p:Int)) (ui0 dk) (a:=(q:Int)) oM;rw[show fIn j (q:Int)=(q:Int) from ua0 oM,←me] at this;rw[this,←ao]);obtain ⟨bl,cR⟩:=xE (Oz.maq te (j+1) (Oz.lenOf (q:Int)));rw[←cR] at am;have m9:bl.length=l.length+2:=(by rw[cR,kdV,PG]);have hF:Fit bl:=(by rw[cR];exact kj8 oM I6 ⟨_,kjX oM Ep⟩);have hg:∀ r,bl[r]? =if r<j+1 then te[r]? else if r=j+1 then N (Oz.lenOf (q:Int)) else (te[r-1]?).map (Oz.mapA (fIn (j+1))):=fun r=>by rw[cR];exact ket te (j+1) _ oM r
  have Em:bl[i+2]? =N (Oz.mapA (fIn (j+1)) (Oz.mapA (fIn j) s)):=(by rw[hg,ua0 oM,ua0 oM,show i+2-1=i+1 by omega,iY,ua0 oM,ua0 oM,up9,al];rfl);have En:bl[j+2]? =N (Oz.mapA (fIn (j+1)) (Oz.mapA (fIn j) t)):=(by rw[hg,ua0 oM,ua0 oM,show j+2-1=j+1 by omega,iY,ua0 oM,ua0 oM,up9,aB];rfl);have Eo:kae bl (j:Int)=1:=(by rw[kbK,hg,ua1 oM,iY,ua0 oM,ua1 rfl];rfl);have PH:kae bl ((j:Int)+1)=1:=by rw[show (j:Int)+1=((j+1:Nat):Int) by omega,kbK,hg,ua0 oM,ua1 rfl];rfl
  obtain ⟨k,aw⟩:=kpD hF (by omega:j+2<i+2) Em En (x:=Oz.mk Oz.maF [(j:Int),(j:Int)+1] 0 [] 1) ⟨⟨[1,1],1,J,J⟩,kdA kS dC (fun x aA=>by simp only[uc7,ue3,ui2] at aA;rcases aA with rfl|rfl <;> omega) (by rw[uf5,uf5,uk8,Eo,PH]) rfl (ug9 0) (fun h=>by omega) (fun h=>absurd rfl h) (fun h=>by cases h)⟩ f.ty.symm (fun r aC m2 bp bg=>by
   rw[hg] at bp;by_cases av:r<j+1
   .rw[ua1 av] at bp;obtain ⟨o,Er⟩:=I6 r aC bp;have:=Er.back _ bg;omega
   .rw[ua0 av] at bp;by_cases bk:r=j+1
    .rw[ua1 bk] at bp;injection bp with bp;subst bp;have bg:((j+2:Nat):Int)∈ [(q:Int)]:=bg;simp only[uc7,ue3,ui2] at bg;omega
    .rw[ua0 bk,iY,ua0 oM,ua0 oM] at bp
     cases hy2:l[r-1-1]? with
     |none=>rw[hy2] at bp;cases bp
     |some z=>rw[hy2,ue5,ue5] at bp;injection bp with bp;subst bp;have bg:((j+2:Nat):Int)∈(z.args.map (fIn j)).map (fIn (j+1)):=bg;obtain ⟨b,gW,yY⟩:=uh8.1 bg;obtain ⟨a,jm,jW⟩:=uh8.1 gW;have:a=(j:Int):=(by unfold fIn at jW yY;split at jW <;> split at yY <;> omega);subst this;exact kei (kcr an) aI al (ua4 aE) oM hy2 jm) am
  have dz:=ko6 (by omega:j+2<i+2) (by rw[ud8];omega) am;rw[ud8,m9] at dz;have r2:kaq bl=kaq l+2+2:=(by rw[cR,kkO,me,kkO];rfl);have hk:kbx bl=kbx l:=(by rw[cR,kj7 oM,me];exact kj7 dk _);refine ⟨check_fit.2 ⟨k.pos,oM,k.fit⟩,?_,k.last.trans hk⟩;have cb:kai (Oz.mapA (fIn (j+1)) (Oz.mapA (fIn j) t)).op=8:=(by rw[show (Oz.mapA (fIn (j+1)) (Oz.mapA (fIn j) t)).op=t.op from rfl,gO];show (_:Int)=_;kernel_rfl);have dE:kai (Oz.mapA (fIn (j+1)) (Oz.mapA (fIn j) s)).op=2:=(by rw[show (Oz.mapA (fIn (j+1)) (Oz.mapA (fIn j) s)).op=s.op from rfl,ba];show (_:Int)=_;kernel_rfl);have fi:kai (Oz.mk Oz.maF [(j:Int),(j:Int)+1] 0 [] 1).op=2:=(by show kai Oz.maF=2;show (_:Int)=_;kernel_rfl);omega
 |have dK:=(gH al).1;have fL:=kaC an aB (o:=⟨[3,3],3,J,J⟩) (by rw[gO];show (_:Option OpI)=_;kernel_rfl);have bG:t.args.length=2:=fL.len;obtain ⟨p,_,hW,aO,_,_,pD⟩:=ka1 an aB fL (k:=0) oM;obtain ⟨q,_,eq,bj,_,_,r3⟩:=ka1 an aB fL (k:=1) oM;rw[hW,eq] at am;have dk:(l.take j).length=j:=(by rw[ub8,uf7 oM]);refine kp4 X hF an al aB b9 aE aI (m:=2) (xs:=[Oz.lenOf (p:Int),Oz.lenOf (q:Int),Oz.mk Oz.maF [(j:Int),(j:Int)+1] 0 [] 1]) (s':=Oz.mapA (fun a=>fIn (j+1) (fIn j a)) s) (g:=fun a=>fIn (j+1) (fIn j a)) rfl ?_ (fun a h=>?_) (fun a h=>?_) am (fun d hd=>?_)
  .rw[kqu al aB b9];unfold Oz.maq;rw[show ∀(x aC:St) (T:List St),l.take j++x::aC::T=(l.take j++[x])++aC::T from fun x aC T=>by rw[uc2];rfl];rw[un9 (by rw[ua6,dk];rfl),ul8 (by rw[ua6,dk];rfl),uf5];rw[show ∀(x aC z:St) (T:List St),l.take j++[x]++aC::z::T=(l.take j++[x]++[aC])++z::T from fun x aC z T=>by rw[uc2 (l.take j++[x])];rfl];rw[koJ (by rw[ua6,ua6,dk];rfl),uj3,uf5];have aL:=kjS (fIn j) (fIn (j+1)) ((l.take i).drop (j+1));have bJ:=kjS (fIn j) (fIn (j+1)) (l.drop (i+1));have dn:=kjS (fIn j) (fIn (j+1)) [s];simp only[uf5,uk8,un7,ut6] at dn;have I7:List.map (Oz.mapA fun a=>if ((j+1:Nat):Int)≤a then a+1 else a) (List.map (Oz.mapA (fIn j)) ((l.take i).drop (j+1)))=_:=aL;have PI:List.map (Oz.mapA fun a=>if ((j+1:Nat):Int)≤a then a+1 else a) (List.map (Oz.mapA (fIn j)) (l.drop (i+1)))=_:=bJ;have PJ:Oz.mapA (fun a=>if ((j+1:Nat):Int)≤a then a+1 else a) (Oz.mapA (fIn j) s)=_:=dn;rw[I7,PI,PJ];simp only[uc2];rfl
  .show fIn (j+1) (fIn j a)=_;unfold fIn;rw[ua0 (show ¬(j:Int)≤a by omega),ua0 oM]
  .show fIn (j+1) (fIn j a)=_;unfold fIn;rw[ua1 (show (j:Int)≤a by omega),ua1 oM];omega
  .have ky:=kiQ X hd oM;obtain ⟨d8,k0⟩:=kfc X hF an aB fL (by rw[gO];decide) (k:=0) oM hd;obtain ⟨g1,k1⟩:=kfc X hF an aB fL (by rw[gO];decide) (k:=1) oM hd;rw[hW,ub7] at d8 k0;rw[eq,ub7] at g1 k1;have ra:Ev.maf X d [Oz.lenOf (p:Int),Oz.lenOf (q:Int),Oz.mk Oz.maF [(j:Int),(j:Int)+1] 0 [] 1]=(Ev.mah ((d.getD p (.num 0)).t.length+(d.getD q (.num 0)).t.length)).bind fun w=> .ok [.num (d.getD p (.num 0)).t.length, .num (d.getD q (.num 0)).t.length,w]:=by have kZ:(d++[Ev.Va.num (d.getD p (.num 0)).t.length]).getD q (.num 0)=d.getD q (.num 0):=kbF oM;rw[kbh,kjV X hF d8,kan,kbh,kjV X hF (by rw[kZ];exact g1),kan,kbh,kZ];have av:Ev.at1 X (Oz.mk Oz.maF [(j:Int),(j:Int)+1] 0 [] 1) (d++[Ev.Va.num (d.getD p (.num 0)).t.length]++[Ev.Va.num (d.getD q (.num 0)).t.length])=Ev.mah ((d.getD p (.num 0)).t.length+(d.getD q (.num 0)).t.length):=(by rw[kcN X (s:=Oz.mk Oz.maF [(j:Int),(j:Int)+1] 0 [] 1) rfl,kaJ X (s:=Oz.mk Oz.maF [(j:Int),(j:Int)+1] 0 [] 1) (op:=Oz.maF) rfl];show Ev.mah (((d++[Ev.Va.num (d.getD p (.num 0)).t.length]++[Ev.Va.num (d.getD q (.num 0)).t.length]).getD ((j:Int)).toNat (.num 0)).n+((d++[Ev.Va.num (d.getD p (.num 0)).t.length]++[Ev.Va.num (d.getD q (.num 0)).t.length]).getD ((j:Int)+1).toNat (.num 0)).n)=_;rw[kbF (b:=[Ev.Va.num (d.getD q (.num 0)).t.length]) (k:=((j:Int)).toNat) (by rw[ua6,ky,uc3];omega),kbW (a:=d) (k:=((j:Int)).toNat) oM,kbW (k:=((j:Int)+1).toNat) (by rw[ua6,ky,uc3];omega)];rw[show ((j:Int)).toNat-d.length=0 by omega,show ((j:Int)+1).toNat-(d++[Ev.Va.num (d.getD p (.num 0)).t.length]).length=0 by rw[ua6,ky,uc3];omega];rfl);rw[av];cases Ev.mah ((d.getD p (.num 0)).t.length+(d.getD q (.num 0)).t.length) <;> rfl
   have Es:Ev.at1 X t d=Ev.maG X ((d.getD p (.num 0)).t++(d.getD q (.num 0)).t):=(by rw[kcN X bG,kaJ X gO,hW,eq,ub7,ub7];rfl);rw[ra,Es];unfold Ev.maG;have PK:=hF.n;rw[ua6];by_cases eI:(d.getD p (.num 0)).t.length+(d.getD q (.num 0)).t.length≤X.n
   .rw[ua1 eI,kcH (by unfold Oz.mab at*;omega),kan];refine ⟨fun c aG=>(by cases aG),fun v aG=>⟨[.num (d.getD p (.num 0)).t.length, .num (d.getD q (.num 0)).t.length],_,rfl,fun cw hD aS=>?_⟩⟩;injection aG with aG;rw[kcs X f.len,kaJ X ba,kfd aE,aS,←aG];show Ev.mah ((d.getD p (.num 0)).t++(d.getD q (.num 0)).t).length=_;rw[ua6,kcH (by unfold Oz.mab at*;omega)];rfl
   .rw[ua0 eI];refine ⟨fun c aG=>?_,fun v aG=>by cases aG⟩;injection aG with aG;rcases hF.c with af|af
    .rw[af.2] at aG;injection aG with aG;subst aG;unfold Ev.mah;rw[ua1 (.inr oM)];rfl
    .rw[af] at aG;cases aG):=h
def knv (h:P:=by
 rw[aw] at h;have Et:k<11:=(gH aw).1;have gR:k=0∨k=1∨k=2∨k=3∨k=4∨k=5∨k=6∨k=7∨k=8∨k=9∨k=10:=oM;rcases gR with rfl|rfl|rfl|rfl|rfl|rfl|rfl|rfl|rfl|rfl|rfl <;> (injection aw with aw;subst aw)
 first
 |guard_hyp PT
  .exact kc2 (fun i s al am=>kuP an al am) h
  .exact kc2 (fun i s al am=>kzQ an al am) h
  .exact kc2 (fun i s al am=>kwE an al am) h
  .exact kc2 (fun i s al am=>kwQ an al am) h
  .exact kc2 (fun i s al am=>kBa an al am) h
  .exact kc2 (fun i s al am=>kxq an al am) h
  .exact kc2 (fun i s al am=>kz4 an al am) h
  .exact kc2 (fun i s al am=>kx4 an al am) h
  .exact kc2 (fun i s al am=>kxQ an al am) h
  .exact kc2 (fun i s al am=>kxX an al am) h
  .exact kc2 (fun i s al am=>ks1 an al am) h
 |.exact kc1 (fun i am=>ktg aB am) h
  .exact kc1 (fun i am=>ktn aB am) h
  .exact kc1 (fun i am=>kth aB am) h
  .exact kc1 (fun i am=>kti aB am) h
  .exact kc1 (fun i am=>ktp aB am) h
  .exact kc1 (fun i am=>ktj aB am) h
  .exact kc1 (fun i am=>kto aB am) h
  .exact kc1 (fun i am=>ktm aB am) h
  .exact kc1 (fun i am=>ktk aB am) h
  .exact kc1 (fun i am=>ktl aB am) h
  .exact kc1 (fun i am=>ktf aB am) h):=h
def kmt (h:P:=by
 unfold Oz.mav at am;rw[kal al] at am;by_cases ba:s.op=Oz.mbq
 .rw[ua0 (by rw[ba];decide)] at am;have f:=kaC an al (o:=⟨[4,1],4,J,J⟩) (by rw[ba];show (_:Option OpI)=_;kernel_rfl);have az:s.args.length=2:=f.len
  cases bf:Oz.maV l i Oz.mbd with
  |none=>rw[bf] at am;cases am
  |some j=>
   rw[bf] at am;dsimp only at am;obtain ⟨t,aB,gO,aI,b9,aE⟩:=kjI an al f oM bf;split at am
   .cases am
   (first|guard_hyp vi;rename_i BM|skip);rw[kal aB] at am;injection am with am;subst am;have fL:=kaC an aB (o:=⟨[3],4,K,K⟩) (by rw[gO];show (_:Option OpI)=_;kernel_rfl);have bG:t.args.length=1:=fL.len;obtain ⟨p,_,hW,aO,_,_,pD⟩:=ka1 an aB fL (k:=0) oM;obtain ⟨q,_,eq,bj,_,_,r3⟩:=ka1 an al f (k:=1) oM;(first|guard_hyp vi|have af:=kdY an aB fL (by rw[gO];decide) pD;have ao:=kdY an al f (by rw[ba];decide) r3;injection af with af;injection ao with ao);have I8:q≠j:=fun e=>kv6 (kcr an) aI al aE (m:=1) dC (by rw[r3,e]);rw[hW,eq];first|guard_hyp vi;refine kq3 X hF an al aB b9 aE aI (x:=Oz.mk kbk [(p:Int),(q:Int)] 0 t.text 4) (fun a aA=>?_) (fun d hd c aG=>⟨?_,fun e=>?_⟩) (fun cw hD=>?_)|refine krJ an al aB b9 aE aI (x:=Oz.mk kbk [(p:Int),(q:Int)] 0 t.text 4) ⟨⟨[3,1],4,K,K⟩,kdA kS dC (fun x aA=>?_) ?_ rfl (ug9 0) (fun h=>by omega) (fun _=>rfl) (fun _=>fL.pat rfl)⟩ f.ty.symm (fun bg=>?_) ?_
   ·(first|guard_hyp vi;have aA:a∈ [(p:Int),(q:Int)]:=aA|skip);simp only[uc7,ue3,ui2] at aA;rcases aA with rfl|rfl <;> omega
   .first
    |guard_hyp vi
     cases h:Oz.maN l j i with
     |true=>rfl
     |false=>exact absurd h BM
    |rw[uf5,uf5,uk8,←af,←ao]
   .first
    |guard_hyp vi;have ky:=kiQ X hd (by have:=(gH aB).1;omega);rw[kcs X bG,kaJ X gO,hW,ub7] at aG;have ir:((X.F t.text (d.getD p (.num 0)).t).bind fun l=> .ok (Ev.Va.sps l))=(.error (N c):Ev.Re Ev.Va):=aG;unfold Ev.at1;rw[kaJ X (s:=Oz.mapA (fRm j) (Oz.mk kbk [(p:Int),(q:Int)] 0 t.text 4)) (op:=kbk) rfl];have PL:((d++e).getD (fRm j (p:Int)).toNat (.num 0))=d.getD p (.num 0):=(by unfold fRm;rw[ua0 oM,ub7,kbF oM]);show (X.F t.text ((d++e).getD (fRm j (p:Int)).toNat (.num 0)).t).bind (fun l=>Ev.ma3 l ((d++e).getD (fRm j (q:Int)).toNat (.num 0)).n)=_;rw[PL]
     cases b5:X.F t.text (d.getD p (.num 0)).t with
     |error cS=>rw[b5] at ir;exact ir
     |ok z=>rw[b5] at ir;cases ir
    |have bg:(j:Int)∈ [(p:Int),(q:Int)]:=bg;simp only[uc7,ue3,ui2] at bg;omega
   .first
    |guard_hyp vi;have au:=kcT X an hD b9 aB;rw[kcs X bG,kaJ X gO,hW,ub7] at au;have eU:((X.F t.text (cw.getD p (.num 0)).t).bind fun l=> .ok (Ev.Va.sps l))= .ok (cw.getD j (.num 0)):=au;refine .inr (.inr ?_);rw[kcN X az,kaJ X ba,kfd aE,eq,ub7,kcN X (s:=Oz.mk kbk [(p:Int),(q:Int)] 0 t.text 4) rfl,kaJ X (s:=Oz.mk kbk [(p:Int),(q:Int)] 0 t.text 4) (op:=kbk) rfl];show Ev.ma3 (cw.getD j (.num 0)).l (cw.getD q (.num 0)).n=(X.F t.text (cw.getD (p:Int).toNat (.num 0)).t).bind fun l=>Ev.ma3 l (cw.getD (q:Int).toNat (.num 0)).n;rw[ub7,ub7]
     cases b5:X.F t.text (cw.getD p (.num 0)).t with
     |error cS=>rw[b5] at eU;cases eU
     |ok z=>rw[b5] at eU;injection eU with eU;rw[←eU];rfl
    |show kai kbk<kai t.op+kai s.op;rw[ba,gO];have af:kai kbk=64:=(by show (_:Int)=_;kernel_rfl);have ao:kai Oz.mbd=64:=(by show (_:Int)=_;kernel_rfl);have av:kai Oz.mbq=8:=(by show (_:Int)=_;kernel_rfl);omega
 .rw[ua1 ba] at am;cases am):=h
def kmn (h:P:=by
 unfold Oz.maK at am;rw[kal al] at am;by_cases ba:s.op=Oz.mbn
 .rw[ua0 (by rw[ba];decide)] at am;have f:=kaC an al (o:=⟨[4],1,J,J⟩) (by rw[ba];show (_:Option OpI)=_;kernel_rfl)
  cases bf:Oz.maV l i Oz.mbd with
  |none=>rw[bf] at am;cases am
  |some j=>have PM:=();exact kfv
 .rw[ua1 ba] at am;cases am):=h
def kmm (h:P:=by
 unfold Oz.maP at am;rw[kal al] at am;by_cases ba:s.op=Oz.mal
 .rw[ua0 (by rw[ba];decide)] at am;have f:=kaC an al (o:=⟨[3],1,J,J⟩) (by rw[ba];show (_:Option OpI)=_;kernel_rfl)
  cases bf:Oz.maV l i Oz.ma4 with
  |none=>rw[bf] at am;cases am
  |some j=>have PN:=();exact kfv
 .rw[ua1 ba] at am;cases am):=h
def Kept57.trans {a b c:List St} (h:Kept57 a b) (k:Kept57 b c):Kept57 a c:=⟨k.fit,k.pos,uc9 k.max h.max,k.last.trans h.last⟩
def ko6 {l l':List St} {i j:Nat} (b9:j<i) (hi:i<l.length) (am:Oz.mad l i j=N l'):l'.length+1≤l.length:=by
 unfold Oz.mad at am;split at am
 .cases am
 split at am
 .injection am with am;subst am;rw[ub8];omega
 .injection am with am;subst am;rw[khh (by rw[ua6,ub8,ui9,ud9];omega),ua6,ub8,ui9,ud9];omega
section
variable {l l':List St} (an:kaf l=0) {i j:Nat} {s t:St} (al:l[i]? =N s) (aB:l[j]? =N t) (b9:j<i) (aS:s.args[0]? =N (j:Int)) (aI:(kag l).getD j 0=1)
include an al aB b9 aS aI
theorem koc {x:St} (aA:∃ o,Fine l j x o) (fb:x.ty=s.ty) (r2:kai x.op<kai t.op+kai s.op) (am:Oz.mad (l.set j x) i j=N l'):Done57 l l':=by
 have dK:=(gH al).1;have dk:=(gH aB).1;have yZ:(l.set j x).length=l.length:=ud8;have BJ:(l.set j x)[i]? =N s:=(by rw[ue2 oM];exact al);have BL:(l.set j x)[j]? =N x:=ud2 dk
 have hO:∀(q:Nat) (u:St),q≠i→(l.set j x)[q]? =N u→∃ o,Fine (l.set j x) q u o:=fun q u bj l2=>by
  by_cases e:q=j
  .subst e;rw[BL] at l2;injection l2 with l2;subst l2;obtain ⟨o,f⟩:=aA;exact ⟨o,ke5 dk f (.inl (fun bg=>by have:=f.back _ bg;omega))⟩
  .rw[ue2 (fun h=>e h.symm)] at l2;obtain ⟨o,f⟩:=(check_fit.1 an).2.2 q u l2;exact ⟨o,ke5 dk f (.inl (kei (kcr an) aI al (ua4 aS) bj l2))⟩
 obtain ⟨k,aw⟩:=kj5 b9 (by rw[yZ];exact dK) hO (by rw[kcu BL,kcu BJ,fb]) am;have af:=aw s BJ;rw[khy aB] at af;exact ⟨check_fit.2 ⟨k.pos,by have:=k.max;rw[yZ] at this;exact uc9 this (check_fit.1 an).2.1,k.fit⟩,oM,k.last.trans (kj0 dk (.inl oM))⟩
theorem krJ {x:St} (aA:∃ o,Fine l i x o) (fb:x.ty=s.ty) (Yg:(j:Int)∉x.args) (r2:kai x.op<kai t.op+kai s.op):Done57 l (Oz.mai (l.set i x) j):=by
 have dK:=(gH al).1;have k1:=kqp dK (check_fit.1 an).2.2 aA (by rw[fb,kcu al]);have BL:(l.set i x)[j]? =N t:=by rw[ue2 oM];exact aB
 have bS:=kj6 (l:=l.set i x) (i:=j) (by rw[ud8];omega) (fun q u bj l2=>⟨k1.fit q u l2,by
  by_cases e:q=i
  .subst e;rw[ud2 dK] at l2;injection l2 with l2;rw[←l2];exact Yg
  .rw[ue2 (fun h=>e h.symm)] at l2;exact kei (kcr an) aI al (ua4 aS) e l2⟩)
 refine kht an (k1.trans bS) ?_;rw[kkN BL,khy al];omega
end
def kBy {l:List St} (an:kaf l=0) {i j:Nat} {t:St} (aB:l[j]? =N t) (b9:j<i) {op2:List UInt8} {a b:Int} (kg:ka9 t.op=K) (Yh:ka9 op2=K) (q4:kdz op2=kdz t.op) (bf:opR t.op=N ⟨[1,1],2,J,J⟩) (f8:opR op2=N ⟨[1,1],2,J,J⟩) (hz:(a=Oz.arg t 0∧b=Oz.arg t 1)∨(a=Oz.arg t 1∧b=Oz.arg t 0)):Fine l i (Oz.mk op2 [a,b] 0 [] 2) ⟨[1,1],2,J,J⟩∧(j:Int)∉ [a,b]:=by
 have f:=kaC an aB bf;have az:t.args.length=2:=f.len;obtain ⟨p,_,hW,aO,_,_,pD⟩:=ka1 an aB f (k:=0) oM;obtain ⟨q,_,eq,bj,_,_,r3⟩:=ka1 an aB f (k:=1) oM;have uU:=f.typed;unfold kbA at uU;rw[ua1 kg,show t.args.getD 0 0=Oz.arg t 0 from rfl,show t.args.getD 1 0=Oz.arg t 1 from rfl] at uU;have lT:∀ x∈ [a,b],0≤x∧x<(j:Int):=fun x aA=>by simp only[uc7,ue3,ui2] at aA;rcases hz with ⟨af,ao⟩|⟨af,ao⟩ <;> rcases aA with rfl|rfl <;> omega
 refine ⟨⟨f8,rfl,fun x aA=>by have:=lT x aA;omega,ug9 0,fun h=>by have:(0:Int)<0:=h;omega,fun h=>absurd rfl h,rfl,?_,fun h=>by cases h⟩,fun bg=>by have:=lT _ bg;omega⟩;unfold kbA;show (if ka9 op2=K then (if kae l a≠kae l b then J else if kae l a=2 then kdz op2 else decide (kae l a=1∨kae l a=3)) else _)=K;rw[ua1 Yh,q4];rcases hz with ⟨rfl,rfl⟩|⟨rfl,rfl⟩
 .exact uU
 .by_cases ch:kae l (Oz.arg t 0)=kae l (Oz.arg t 1)
  .rw[ch] at uU ⊢;exact uU
  .rw[ua1 ch] at uU;cases uU
section
variable {l l':List St} (an:kaf l=0) {i:Nat} {s:St} (al:l[i]? =N s)
include an al
theorem kjI {op:List UInt8} {j:Nat} {o:OpI} (f:Fine l i s o) (az:0<s.args.length) (h:Oz.maV l i op=N j):∃ t,l[j]? =N t∧t.op=op∧(kag l).getD j 0=1∧j<i∧s.args[0]? =N (j:Int):=by
 obtain ⟨hn,t,e,b9,aB,yX,aE⟩:=ka1 an al f az;unfold Oz.maV at h;rw[kal al] at h;dsimp only at h;rw[e,ub7,yX] at h;split at h
 .rename_i mG;injection h with h;subst h;exact ⟨t,aB,mG.1,mG.2,b9,aE⟩
 .cases h
theorem kdY {o:OpI} (f:Fine l i s o) (kg:ka9 s.op=J) {k:Nat} {a:Int} (aE:s.args[k]? =N a):o.args[k]? =N (kae l a):=by have _:=an;have _:=al;have h:=ke4 f kg;rw[←h,ub9,aE];rfl
theorem kwQ (am:Oz.maB l i=N l'):Done57 l l':=by
 unfold Oz.maB at am;rw[kal al] at am;dsimp only at am;split at am
 .cases am
 rename_i dY;simp only[ul6,um8] at dY;obtain ⟨ba,aI⟩:=dY;have f:=kaC an al (o:=⟨[2],2,J,J⟩) (by rw[ba];show (_:Option OpI)=_;kernel_rfl);obtain ⟨j,t,e,b9,aB,yX,aE⟩:=ka1 an al f (k:=0) (by rw[f.len];decide);rw[e,ub7] at am aI;rw[yX] at am;have f6:kai s.op=2:=by rw[ba];show (_:Int)=_;kernel_rfl
 cases aA:Oz.mbZ t.op (Oz.arg t 0) (Oz.arg t 1) with
 |none=>rw[aA] at am;cases am
 |some x=>
  rw[aA] at am;injection am with am;subst am;unfold Oz.mbZ at aA;have gR:∀ n:List UInt8,n=Oz.oEq∨n=Oz.oNe∨n=Oz.oLt∨n=Oz.oLe→opR n=N ⟨[1,1],2,J,J⟩∧ka9 n=K∧kai n=2:=fun n ax=>by rcases ax with rfl|rfl|rfl|rfl <;> exact ⟨by show (_:Option OpI)=_;kernel_rfl,dC,by show (_:Int)=_;kernel_rfl⟩
  have pE:∀(ue op2:List UInt8) (a b:Int),t.op=ue→(ue=Oz.oEq∨ue=Oz.oNe∨ue=Oz.oLt∨ue=Oz.oLe)→(op2=Oz.oEq∨op2=Oz.oNe∨op2=Oz.oLt∨op2=Oz.oLe)→kdz op2=kdz ue→((a=Oz.arg t 0∧b=Oz.arg t 1)∨(a=Oz.arg t 1∧b=Oz.arg t 0))→Done57 l (Oz.mai (l.set i (Oz.mk op2 [a,b] 0 [] 2)) j):=fun ue op2 a b af ao av bk cb=>by obtain ⟨eO,aM,k1⟩:=gR ue ao;obtain ⟨gm,aZ,bS⟩:=gR op2 av;obtain ⟨g1,eN⟩:=kBy an aB b9 (op2:=op2) (by rw[af];exact aM) aZ (by rw[af];exact bk) (by rw[af];exact eO) gm cb;refine krJ an al aB b9 aE aI ⟨_,g1⟩ f.ty.symm eN ?_;show kai op2<kai t.op+kai s.op;rw[af,k1,bS,f6];decide
  by_cases aD:t.op=Oz.oEq
  .rw[ua1 aD] at aA;injection aA with aA;subst aA;exact pE Oz.oEq Oz.oNe _ _ aD dC dC dC (.inl ⟨rfl,rfl⟩)
  rw[ua0 aD] at aA;by_cases af:t.op=Oz.oNe
  .rw[ua1 af] at aA;injection aA with aA;subst aA;exact pE Oz.oNe Oz.oEq _ _ af dC dC dC (.inl ⟨rfl,rfl⟩)
  rw[ua0 af] at aA;by_cases ao:t.op=Oz.oLt
  .rw[ua1 ao] at aA;injection aA with aA;subst aA;exact pE Oz.oLt Oz.oLe _ _ ao dC dC dC (.inr ⟨rfl,rfl⟩)
  rw[ua0 ao] at aA;by_cases av:t.op=Oz.oLe
  .rw[ua1 av] at aA;injection aA with aA;subst aA;exact pE Oz.oLe Oz.oLt _ _ av dC dC dC (.inr ⟨rfl,rfl⟩)
  rw[ua0 av] at aA;cases aA
theorem kxq (am:Oz.maK l i=N l'):Done57 l l':=by exact kmn
theorem kx4 (am:Oz.maP l i=N l'):Done57 l l':=by have PO:=();exact kmm
theorem kz4 (am:Oz.mav l i=N l'):Done57 l l':=by exact kmt
end
def kjX {l:List St} {i:Nat} {a:Int} (aE:0≤a∧a<(i:Int)) (aB:kae l a=3):Fine l i (Oz.lenOf a) ⟨[3],1,J,J⟩:=
 kdA kS dC (fun x aA=>by simp only[uc7,ue3,ui2] at aA;rw[aA];exact aE) (by rw[uf5,uk8,aB]) rfl (ug9 0) (fun h=>by omega) (fun h=>absurd rfl h) (fun h=>by cases h)
def kpD {bl l':List St} {p m:Nat} {x u t:St} (hF:Fit bl) (Ai:p<m) (bg:bl[m]? =N u) (aB:bl[p]? =N t) (aA:∃ o,Fine bl p x o) (fb:x.ty=u.ty) (dY:∀(q:Nat) (aC:St),q≠m→bl[q]? =N aC→(p:Int)∉aC.args) (am:Oz.mad (bl.set p x) m p=N l'):
 Kept57 bl l'∧kaq l'≤kaq bl-kai t.op+kai x.op-kai u.op:=by
 have jl:=(gH bg).1;have qs:=(gH aB).1;have yZ:(bl.set p x).length=bl.length:=ud8;have I9:(bl.set p x)[m]? =N u:=(by rw[ue2 oM];exact bg);have Ja:(bl.set p x)[p]? =N x:=ud2 qs
 have hO:∀(q:Nat) (aC:St),q≠m→(bl.set p x)[q]? =N aC→∃ o,Fine (bl.set p x) q aC o:=fun q aC bj bp=>by
  by_cases e:q=p
  .subst e;rw[Ja] at bp;injection bp with bp;subst bp;obtain ⟨o,f⟩:=aA;exact ⟨o,ke5 qs f (.inl (fun bg=>by have:=f.back _ bg;omega))⟩
  .rw[ue2 (fun h=>e h.symm)] at bp;obtain ⟨o,f⟩:=hF q aC bp;exact ⟨o,ke5 qs f (.inl (dY q aC bj bp))⟩
 obtain ⟨k,aw⟩:=kj5 Ai (by rw[yZ];exact jl) hO (by rw[kcu Ja,kcu I9,fb]) am;have af:=aw u I9;rw[khy aB] at af;exact ⟨⟨k.fit,k.pos,by have:=k.max;rw[yZ] at this;exact this,k.last.trans (kj0 qs (.inl oM))⟩,oM⟩
def kj7 {l:List St} {j:Nat} (aS:j<l.length) (s:St):kbx (Oz.maq l j s)=kbx l:=by obtain ⟨n,ax⟩:∃ n,n+1=l.length:=⟨l.length-1,oM⟩;rw[keT (i:=n+1) (by rw[kdV];omega),keT (i:=n) ax,←kfB (s:=s) (ui0 aS) (a:=(n:Int)) oM];congr 1;unfold fIn;rw[ua1 oM];omega
section
variable {l l':List St} (an:kaf l=0) {i:Nat} {s:St} (al:l[i]? =N s)
include an al
theorem kxX (am:Oz.maC l i=N l'):Done57 l l':=by
 unfold Oz.maC at am;rw[kal al] at am;by_cases ba:s.op=Oz.mal
 .rw[ua0 (by rw[ba];decide)] at am;have f:=kaC an al (o:=⟨[3],1,J,J⟩) (by rw[ba];show (_:Option OpI)=_;kernel_rfl)
  cases bf:Oz.maV l i Oz.maU with
  |none=>rw[bf] at am;cases am
  |some j=>have PP:=();exact kfv
 .rw[ua1 ba] at am;cases am
theorem kxQ (am:Oz.maD l i=N l'):Done57 l l':=by
 unfold Oz.maD at am;rw[kal al] at am;by_cases ba:s.op=Oz.mal
 .by_cases gs:4096≤l.length
  .rw[ua1 (.inr gs)] at am;cases am
  rw[ua0 (by simp only[ul6];exact ⟨by rw[ba];decide,gs⟩)] at am;have f:=kaC an al (o:=⟨[3],1,J,J⟩) (by rw[ba];show (_:Option OpI)=_;kernel_rfl)
  cases bf:Oz.maV l i Oz.maO with
  |none=>rw[bf] at am;cases am
  |some j=>have PR:=();exact kfv
 .rw[ua1 (.inl ba)] at am;cases am
end
def kc2 {f:List St→Nat→Option (List St)} {l l':List St} (b5:∀(i:Nat) (s:St),l[i]? =N s→f l i=N l'→Done57 l l') (h:Oz.maw f l=N l'):Done57 l l':=by unfold Oz.maw at h;obtain ⟨i,hi,Eu⟩:=ui8 h;have dK:=uk3.1 hi;exact b5 i _ (ua3 dK) Eu
theorem ksf {l l':List St} (an:kaf l=0) {k:Nat} (h:Oz.mam k l=N l'):Done57 l l':=by
 unfold Oz.mam at h
 cases aw:Oz.mb1[k]? with
 |none=>rw[aw] at h;cases h
 |some f=>have PT:=();exact knv
def kgl {l l':List St} (an:kaf l=0) (h:Oz.mba l=N l'):Done57 l l':=by unfold Oz.mba at h;obtain ⟨k,_,aw⟩:=ui8 h;exact ksf an aw
namespace Ev
inductive Va where
 |num (n:Int)
 |tru (b:Bool)
 |txt (t:List UInt8)
 |sps (l:List (Int×Int))
deriving DecidableEq
def Va.n:Va→Int
 | .num n=>n
 |_=>0
def Va.b:Va→Bool
 | .tru b=>b
 |_=>J
def Va.t:Va→List UInt8
 | .txt t=>t
 |_=>[]
def Va.l:Va→List (Int×Int)
 | .sps l=>l
 |_=>[]
abbrev Re (α:Type):=Except (Option Int) α
abbrev Fi:=List UInt8→List UInt8→Re (List (Int×Int))
structure Cx where
 n:Nat
 c:Option Int
 F:Fi
 env:List (List UInt8×List UInt8)
def mah (n:Int):Re Va:=if n< -Oz.mab∨Oz.mab<n then .error (N 2) else .ok (.num n)
def maG (X:Cx) (t:List UInt8):Re Va:=if t.length≤X.n then .ok (.txt t) else .error X.c
def maQ (a b:Int):Re Va:=if a≠0∧b≠0∧Oz.mab / max a (-a)<max b (-b) then .error (N 2) else mah (a*b)
def maE:Int→Int→List UInt8→List (Int×Int)
 |i,f,[]=>[(f,i-f)]
 |i,f,b::r=>if b=10 then (f,i-f)::maE (i+1) (i+1) r else maE (i+1) f r
def maX (t:List UInt8):List (Int×Int):=maE 0 0 t
def mau (a b:Int×Int):Bool:=decide (a.1<b.1∨(a.1=b.1∧a.2<b.2))
def mbg (o:List (Int×Int)) (x:Int×Int):List (Int×Int):=if x∈o then o else o.takeWhile (mau · x)++x::o.dropWhile (mau · x)
def mbx (a b:List (Int×Int)):List (Int×Int):=(a++b).foldl mbg []
def mbK:List UInt8:=[97,102,116,101,114]
def mbQ:List UInt8:=[108,105,110,101]
def mbO:List UInt8:=[112,105,99,107]
def kwg:List UInt8:=[114,111,119,115]
def kwf:List UInt8:=[115,112,97,110]
def mbI (op:List UInt8) (x aC:Int×Int) (k:Int):Bool:=
 if op=Oz.maI then decide (aC.1≤x.1∧x.1+x.2≤aC.1+aC.2)
 else if op=Oz.mbz then decide (max x.1 aC.1<min (x.1+x.2) (aC.1+aC.2))
 else decide (aC.1+aC.2≤x.1∧x.1-(aC.1+aC.2)≤k)
def mbc (op:List UInt8) (a b:List (Int×Int)) (k:Int):List (Int×Int):=a.filter fun x=>b.any fun aC=>mbI op x aC k
def mbw:List UInt8→List UInt8→Int
 |a::r,b::s=>if a=b then mbw r s+1 else 0
 |_,_=>0
def ltV:List UInt8→List UInt8→Bool
 |_,[]=>J
 |[],_::_=>K
 |a::r,b::s=>decide (a<b)||(decide (a=b)&&ltV r s)
def inV (mO n len:Int):Bool:=decide (0≤len∧len≤Oz.mab∧0≤mO∧0≤n∧mO≤len∧n≤len-mO)
def cutV (X:Cx) (t:List UInt8) (mO n:Int):Re Va:=if inV mO n t.length then maG X ((t.drop mO.toNat).take n.toNat) else .error (N 1)
def ma6 (t:List UInt8):Nat→List UInt8
 |0=>[]
 |k+1=>t++ma6 t k
def mby (X:Cx) (t:List UInt8) (n:Int):Re Va:=
 if n<0 then .error (N 1)
 else if 0<t.length∧Oz.mab / t.length<n then .error (N 2)
 else if (X.n:Int)<(t.length:Int)*n then .error X.c
 else .ok (.txt (if t.length=0 then [] else ma6 t n.toNat))
def mbl (l:List (Int×Int)):Re Va:=mah l.length
def ma3 (l:List (Int×Int)) (n:Int):Re Va:=if n<0 then .error (N 1) else .ok (.sps (l.take (min (l.length:Int) n).toNat))
def ma8 (l:List (Int×Int)):Re Va:=if 4096<l.length then .error (N 9) else .ok (.sps l)
def v0 (a:List Va) (k:Nat):Va:=a.getD k (.num 0)
def more (X:Cx) (op:List UInt8) (a:List Va):Re Va:=
 if op=Oz.maO then maG X ((v0 a 0).t++(v0 a 1).t)
 else if op=Oz.ma4 then cutV X (v0 a 0).t (v0 a 1).n (v0 a 2).n
 else if op = mbQ then
  (if (v0 a 1).n < 0 ∨ ((maX (v0 a 0).t).length : Int) ≤ (v0 a 1).n then .error (N 1)
   else match (maX (v0 a 0).t)[(v0 a 1).n.toNat]? with
   | some r => maG X (((v0 a 0).t.drop r.1.toNat).take r.2.toNat)
   | none => .error (some 1))
 else if op=Oz.maU then mby X (v0 a 0).t (v0 a 1).n
 else if op = mbO then
  (if (v0 a 2).n < 0 then .error (N 1)
   else match (v0 a 1).l[(v0 a 2).n.toNat]? with
   | some r => if inV r.1 r.2 (v0 a 0).t.length then maG X (((v0 a 0).t.drop r.1.toNat).take r.2.toNat) else .error (some 1)
   | none => .error (some 1))
 else if op=kwg then ma8 (maX (v0 a 0).t)
 else if op=kwf then (if inV (v0 a 0).n (v0 a 1).n Oz.mab then .ok (.sps [((v0 a 0).n,(v0 a 1).n)]) else .error (N 1))
 else if op=Oz.maI∨op=Oz.mbz then .ok (.sps (mbc op (v0 a 0).l (v0 a 1).l 0))
 else if op=mbK then (if (v0 a 2).n<0 then .error (N 1) else .ok (.sps (mbc op (v0 a 0).l (v0 a 1).l (v0 a 2).n)))
 else if op=Oz.mbF then ma8 (mbx (v0 a 0).l (v0 a 1).l)
 else if op=Oz.mb0 then .ok (.sps ((v0 a 0).l.filter fun x=>decide (x∉(v0 a 1).l)))
 else ma3 (v0 a 0).l (v0 a 1).n
def call (X:Cx) (op:List UInt8) (a:List Va):Re Va:=
 if op=Oz.mal then mah (v0 a 0).t.length
 else if op=Oz.mbi then mah (maX (v0 a 0).t).length
 else if op=Oz.mbn then mbl (v0 a 0).l
 else if op=Oz.ma7 then mah (mbw (v0 a 0).t (v0 a 1).t)
 else if op=Oz.maT then mah (min (v0 a 0).n (v0 a 1).n)
 else if op=Oz.maS then mah (max (v0 a 0).n (v0 a 1).n)
 else if op=Oz.maF then mah ((v0 a 0).n+(v0 a 1).n)
 else if op=Oz.maY then mah ((v0 a 0).n-(v0 a 1).n)
 else if op=Oz.maJ then maQ (v0 a 0).n (v0 a 1).n
 else if op=Oz.oEq then .ok (.tru (decide ((v0 a 0).n=(v0 a 1).n∧(v0 a 0).b=(v0 a 1).b∧(v0 a 0).t=(v0 a 1).t)))
 else if op=Oz.oNe then .ok (.tru (!decide ((v0 a 0).n=(v0 a 1).n∧(v0 a 0).b=(v0 a 1).b∧(v0 a 0).t=(v0 a 1).t)))
 else if op=Oz.oLt then .ok (.tru (decide ((v0 a 0).n<(v0 a 1).n)||ltV (v0 a 0).t (v0 a 1).t))
 else if op=Oz.oLe then .ok (.tru (decide ((v0 a 0).n≤(v0 a 1).n)&&!ltV (v0 a 1).t (v0 a 0).t))
 else if op=Oz.mbC then .ok (.tru ((v0 a 0).b&&(v0 a 1).b))
 else if op=Oz.oOr then .ok (.tru ((v0 a 0).b||(v0 a 1).b))
 else if op=Oz.maL then .ok (.tru (!(v0 a 0).b))
 else more X op a
def app (X:Cx) (s:St) (a:List Va):Re Va:=
 if s.op=kac then mah s.num
 else if s.op=kaF then maG X s.text
 else if s.op = kdy then (match X.env.find? fun x => decide (x.1 = s.text) with
  | some x => maG X x.2
  | none => .error (some 13))
 else if s.op=kb5 then (X.F s.text (v0 a 0).t).bind fun l=>mah l.length
 else if s.op=kb4 then (X.F s.text (v0 a 0).t).bind fun l=> .ok (.tru (decide (0<l.length)))
 else if s.op=kbT then (X.F s.text (v0 a 0).t).bind fun l=> .ok (.sps l)
 else if s.op=kbN then (X.F s.text (v0 a 0).t).bind fun l=>mbl l
 else if s.op=kbk then (X.F s.text (v0 a 0).t).bind fun l=>ma3 l (v0 a 1).n
 else if s.op=kbS then (cutV X (v0 a 0).t (v0 a 1).n (v0 a 2).n).bind fun v=>mah v.t.length
 else call X s.op a
variable (X:Cx)
def at1 (s:St) (d:List Va):Re Va:=app X s (s.args.map fun a=>d.getD a.toNat (.num 0))
def maf:List Va→List St→Re (List Va)
 |_,[]=> .ok []
 |d,s::r=>(at1 X s d).bind fun v=>(maf (d++[v]) r).bind fun e=> .ok (v::e)
def run (l:List St):Re Va:=(maf X [] l).bind fun vs=> .ok (vs.getLastD (.num 0))
end Ev
def Agree (r hb:Ev.Re Ev.Va):Prop:=r= .error Z∨hb= .error Z∨r=hb
def Agree.rfl' {r:Ev.Re Ev.Va} :Agree r r:= .inr (.inr rfl)
section
variable (X:Ev.Cx)
theorem khc (d:List Ev.Va):Ev.maf X d []= .ok []:=rfl
theorem kbh (d:List Ev.Va) (s:St) (r:List St):Ev.maf X d (s::r)=(Ev.at1 X s d).bind fun v=>(Ev.maf X (d++[v]) r).bind fun e=> .ok (v::e):=rfl
theorem kan {α β:Type} (a:α) (f:α→Ev.Re β):(Except.ok a:Ev.Re α).bind f=f a:=rfl
theorem kr4 {α β:Type} (e:Option Int) (f:α→Ev.Re β):(Except.error e:Ev.Re α).bind f= .error e:=rfl
theorem ked:∀(l r:List St) (d:List Ev.Va),Ev.maf X d (l++r)=(Ev.maf X d l).bind fun e=>(Ev.maf X (d++e) r).bind fun ek=> .ok (e++ek)
 |[],r,d=>by rw[uj4,khc,kan,ug2];cases Ev.maf X d r <;> rfl
 |s::l,r,d=>by
  rw[ui4,kbh,kbh]
  cases h:Ev.at1 X s d with
  |error e=>rfl
  |ok v=>
   rw[kan,kan,ked l r]
   cases ao:Ev.maf X (d++[v]) l with
   |error e=>rfl
   |ok e=>rw[kan,kan,kan,uc2];dsimp only[List.singleton_append];cases av:Ev.maf X (d++v::e) r <;> rfl
theorem kcF:∀(l:List St) (d e:List Ev.Va),Ev.maf X d l= .ok e→e.length=l.length
 |[],d,e,h=>by injection h with h;subst h;rfl
 |s::l,d,e,h=>by
  rw[kbh] at h
  cases af:Ev.at1 X s d with
  |error x=>rw[af] at h;cases h
  |ok v=>
   rw[af,kan] at h
   cases ao:Ev.maf X (d++[v]) l with
   |error x=>rw[ao] at h;cases h
   |ok ek=>rw[ao,kan] at h;injection h with h;subst h;rw[uc8,uc8,kcF l _ _ ao]
theorem kbF {α:Type} {a b:List α} {k:Nat} {x:α} (h:k<a.length):(a++b).getD k x=a.getD k x:=by rw[ub6,ub6,ui1 h]
theorem kbW {α:Type} {a b:List α} {k:Nat} {x:α} (h:a.length≤k):(a++b).getD k x=b.getD (k-a.length) x:=by rw[ub6,ub6,uf4 h]
theorem krf {α:Type} {a:List α} {k:Nat} {x:α} (h:a.length≤k):a.getD k x=x:=by rw[ub6,ud5 h];rfl
theorem ksa {f:Int→Int} {s:St} {d d':List Ev.Va} (h:∀ a∈s.args,d'.getD (f a).toNat (.num 0)=d.getD a.toNat (.num 0)):Ev.at1 X (Oz.mapA f s) d'=Ev.at1 X s d:=by unfold Ev.at1 Oz.mapA Ev.app;dsimp only;rw[un0,show List.map ((fun a=>d'.getD a.toNat (.num 0))∘f) s.args=List.map (fun a=>d.getD a.toNat (.num 0)) s.args from um0 fun a aE=>h a aE]
theorem khb {f:Int→Int} :∀(r:List St) (d d':List Ev.Va),
 (∀(k:Nat) (s:St),r[k]? =N s→∀ a∈s.args,0≤a∧(a<(d.length:Int)→0≤f a∧f a<(d'.length:Int)∧d'.getD (f a).toNat (.num 0)=d.getD a.toNat (.num 0))∧((d.length:Int)≤a→f a=a-d.length+d'.length))→
 Ev.maf X d' (r.map (Oz.mapA f))=Ev.maf X d r
 |[],d,d',_=>rfl
 |s::r,d,d',h=>by
  rw[uf5,kbh,kbh];have aD:=h 0 s rfl
  rw[ksa (d:=d) (s:=s) X (fun a aE=>by
   obtain ⟨af,ao,av⟩:=aD a aE;by_cases az:a<(d.length:Int)
   .exact (ao az).2.2
   .have bk:=av oM;rw[bk];rw[krf oM,krf oM])]
  cases af:Ev.at1 X s d with
  |error e=>rfl
  |ok v=>
   rw[kan,kan,khb r (d++[v]) (d'++[v]) (fun k t aB a aE=>by
    obtain ⟨ao,av,bk⟩:=h (k+1) t aB a aE;refine ⟨ao,fun az=>?_,fun az=>?_⟩
    .simp only[ua6,uc3] at az ⊢;by_cases hd:a<(d.length:Int)
     .obtain ⟨cb,dE,fi⟩:=av hd;refine ⟨cb,oM,?_⟩;rw[kbF oM,kbF oM];exact fi
     .have hv:=bk oM;rw[hv];refine ⟨oM,oM,?_⟩;rw[kbW oM,kbW oM];congr 1;omega
    .simp only[ua6,uc3] at az ⊢;have hv:=bk oM;omega)]
end
section
variable (X:Ev.Cx)
def kb2 (d:List Ev.Va) (r:List St):Ev.Re Ev.Va:=(Ev.maf X d r).bind fun e=> .ok ((d++e).getLastD (.num 0))
theorem koV (d:List Ev.Va):kb2 X d []= .ok (d.getLastD (.num 0)):=by unfold kb2;rw[khc,kan,ug2]
theorem kc5 (d:List Ev.Va) (s:St) (r:List St):kb2 X d (s::r)=(Ev.at1 X s d).bind fun v=>kb2 X (d++[v]) r:=by
 unfold kb2;rw[kbh]
 cases Ev.at1 X s d with
 |error e=>rfl
 |ok v=>
  rw[kan,kan]
  cases Ev.maf X (d++[v]) r with
  |error e=>rfl
  |ok e=>rw[kan,kan,kan,uc2];rfl
theorem kee (d:List Ev.Va) (l r:List St):kb2 X d (l++r)=(Ev.maf X d l).bind fun e=>kb2 X (d++e) r:=by
 unfold kb2;rw[ked]
 cases Ev.maf X d l with
 |error e=>rfl
 |ok e=>
  rw[kan,kan]
  cases Ev.maf X (d++e) r with
  |error e=>rfl
  |ok ek=>rw[kan,kan,kan,uc2]
theorem koS (l:List St):Ev.run X l=kb2 X [] l:=by unfold Ev.run kb2;cases Ev.maf X [] l <;> rfl
theorem kkr {a b:List Ev.Va} {x:Ev.Va} (h:b≠ []):(a++b).getLastD x=b.getLastD x:=by
 rw[up7,up7,List.getLast?_append]
 cases ak:b.getLast? with
 |none=>rw[List.getLast?_eq_none_iff] at ak;exact absurd ak h
 |some aC=>rfl
theorem kho {a:List Ev.Va} {x aC:Ev.Va} :(a++[aC]).getLastD x=aC:=by rw[kkr (by simp)];rfl
def khN (f:Int→Int) (r:List St) (d d':List Ev.Va):Prop:=∀(k:Nat) (s:St),r[k]? =N s→∀ a∈s.args,0≤a∧(a<(d.length:Int)→0≤f a∧f a<(d'.length:Int)∧d'.getD (f a).toNat (.num 0)=d.getD a.toNat (.num 0))∧((d.length:Int)≤a→f a=a-d.length+d'.length)
theorem kjf {f:Int→Int} {r:List St} {d d':List Ev.Va} (am:r≠ []) (h:khN f r d d'):kb2 X d' (r.map (Oz.mapA f))=kb2 X d r:=by
 unfold kb2;rw[khb X r d d' h]
 cases aG:Ev.maf X d r with
 |error e=>rfl
 |ok e=>have az:=kcF X _ _ _ aG;have ax:e≠ []:=(by intro aD;subst aD;exact am (ui6 az.symm));rw[kan,kan,kkr ax,kkr ax]
theorem kgn {pre r hb:List St} (h:∀ d,Ev.maf X [] pre= .ok d→Agree (kb2 X d r) (kb2 X d hb)):Agree (Ev.run X (pre++r)) (Ev.run X (pre++hb)):=by
 rw[koS,koS,kee,kee]
 cases hd:Ev.maf X [] pre with
 |error e=>exact .rfl'
 |ok d=>exact h d hd
theorem kuX {pre post:List St} {s x:St} (h:∀ d,Ev.maf X [] pre= .ok d→Agree (Ev.at1 X s d) (Ev.at1 X x d)):Agree (Ev.run X (pre++s::post)) (Ev.run X (pre++x::post)):=by
 refine kgn X fun d hd=>?_;rw[kc5,kc5];rcases h d hd with h|h|h
 .rw[h];exact .inl rfl
 .rw[h];exact .inr (.inl rfl)
 .rw[h];exact .rfl'
def kdh {α:Type} (r:Ev.Re α):Prop:=∀ c,r≠ .error (N c)
theorem kAH {pre post:List St} {s:St} (aO:post≠ [])
 (ak:∀(k:Nat) (t:St),post[k]? =N t→∀ a∈t.args,0≤a∧a≠(pre.length:Int))
 (h:∀ d,Ev.maf X [] pre= .ok d→kdh (Ev.at1 X s d)):
 Agree (Ev.run X (pre++s::post)) (Ev.run X (pre++post.map (Oz.mapA (fRm pre.length)))):=by
 refine kgn X fun d hd=>?_;have ky:=kcF X _ _ _ hd;rw[kc5]
 cases au:Ev.at1 X s d with
 |error e=>
  cases e with
  |none=>exact .inl rfl
  |some c=>exact absurd au (h d hd c)
 |ok v=>
  rw[kan,kjf X (d:=d++[v]) aO fun k t aB a aE=>?_]
  .exact .rfl'
  .obtain ⟨af,ao⟩:=ak k t aB a aE;refine ⟨af,fun az=>?_,fun az=>?_⟩
   .rw[ua6,uc3] at az;have av:a<(d.length:Int):=oM;have bk:fRm pre.length a=a:=(by unfold fRm;rw[ua0 oM]);rw[bk];exact ⟨af,av,by rw[kbF oM]⟩
   .rw[ua6,uc3] at az ⊢;unfold fRm;rw[ua1 oM];omega
end
def klu (h:P:=by
 cases x with
 |none=>exact .inl rfl
 |some c=>
  rcases aE c au with av|av
  .rw[av];exact .rfl'
  .rw[av];exact .inr (.inl rfl)):=h
def khU (h:P:=by simp only[ua6,uc3];congr 1;omega):=h
section
variable (X:Ev.Cx)
theorem kkt {d u e:List Ev.Va} {w:Ev.Va} {k:Nat} {x:Ev.Va} (h:k=d.length+u.length):(d++(u++[w])++e).getD k x=w:=by rw[kbF (by simp only[ua6,uc3];omega),kbW oM,kbW oM];rw[show k-d.length-u.length=0 by omega];rfl
def ksv (fr m:Nat) (same:Prop) (g:Int→Int) (mid:List St):Prop:=∀(k:Nat) (t:St),mid[k]? =N t→∀ a∈t.args,0≤a∧(a<(fr:Int)→g a=a)∧(a=(fr:Int)→same∧g a=fr+m-1)∧((fr:Int)<a→g a=a+m-1)
def ksu (fr vT m:Nat) (same:Prop) (g:Int→Int) (post:List St):Prop:=∀(k:Nat) (t:St),post[k]? =N t→∀ a∈t.args,0≤a∧(a<(fr:Int)→g a=a)∧(a=(fr:Int)→same∧g a=fr+m-1)∧((fr:Int)<a→a<(vT:Int)→g a=a+m-1)∧(a=(vT:Int)→g a=fr+m-1)∧((vT:Int)<a→g a=a+m-2)
theorem kxn {fr m:Nat} {same:Prop} {g:Int→Int} {mid:List St} {d u:List Ev.Va} {v w:Ev.Va} (h:ksv fr m same g mid) (hd:d.length=fr) (aI:(u++[w]).length=m) (al:same→v=w):khN g mid (d++[v]) (d++(u++[w])):=by
 intro k t aB a aE;obtain ⟨aD,af,ao,av⟩:=h k t aB a aE;simp only[ua6,uc3] at aI ⊢;refine ⟨aD,fun az=>?_,fun az=>?_⟩
 .by_cases bG:a<(fr:Int)
  .rw[af bG];refine ⟨aD,oM,?_⟩;rw[kbF oM,kbF oM]
  .have Ew:a=(fr:Int):=oM;obtain ⟨bk,cb⟩:=ao Ew;rw[cb];refine ⟨oM,oM,?_⟩;have dE:=kkt (d:=d) (u:=u) (e:=[]) (w:=w) (k:=((fr:Int)+m-1).toNat) (x:= .num 0) oM;rw[ug2] at dE;rw[dE,kbW oM,show a.toNat-d.length=0 by omega];exact (al bk).symm
 .rw[av oM];omega
theorem kvG {fr vT m:Nat} {same:Prop} {g:Int→Int} {post:List St} {d u e:List Ev.Va} {v w:Ev.Va} (h:ksu fr vT m same g post) (hd:d.length=fr) (aI:(u++[w]).length=m) (aG:fr+1+e.length=vT) (al:same→v=w):khN g post (d++[v]++e++[w]) (d++(u++[w])++e):=by
 intro k t aB a aE;obtain ⟨aD,af,ao,av,bk,cb⟩:=h k t aB a aE;have l2:=aI;simp only[ua6,uc3] at aI ⊢;refine ⟨aD,fun az=>?_,fun az=>?_⟩
 .by_cases bG:a<(fr:Int)
  .rw[af bG];refine ⟨aD,oM,?_⟩;rw[uc2,kbF oM,uc2,uc2,kbF oM]
  by_cases Ew:a=(fr:Int)
  .obtain ⟨dE,fi⟩:=ao Ew;rw[fi];refine ⟨oM,oM,?_⟩;rw[kkt oM,uc2,uc2,kbW oM,kbF (by simp only[uc3];omega),show a.toNat-d.length=0 by omega];exact (al dE).symm
  by_cases Yn:a=(vT:Int)
  .rw[bk Yn];refine ⟨oM,oM,?_⟩;rw[kkt oM,kbW (by simp only[ua6,uc3];omega)];simp only[ua6,uc3];rw[show a.toNat-(d.length+1+e.length)=0 by omega];rfl
  .rw[av oM oM];refine ⟨oM,oM,?_⟩;rw[kbW (by simp only[ua6,uc3];omega),kbF (b:=[w]) (by simp only[ua6,uc3];omega),kbW (by simp only[ua6,uc3];omega)];exact khU
 .rw[cb oM];omega
def khP (d:List Ev.Va) (t s:St) (xs mid:List St) (same:Prop):Prop:=
 (∀ c,Ev.at1 X t d= .error (N c)→Ev.maf X d xs= .error (N c)∨Ev.maf X d xs= .error Z)∧
 (∀ v,Ev.at1 X t d= .ok v→Ev.maf X d xs= .error Z∨∃ u w,Ev.maf X d xs= .ok (u++[w])∧(same→v=w)∧∀ e,Ev.maf X (d++[v]) mid= .ok e→Ev.at1 X s (d++[v]++e)= .ok w∨Ev.at1 X s (d++[v]++e)= .error Z)
theorem krh {pre mid post xs:List St} {t s:St} {same:Prop} {g1 eN:Int→Int} (aO:post≠ [])
 (af:ksv pre.length xs.length same g1 mid) (ao:ksu pre.length (pre.length+1+mid.length) xs.length same eN post)
 (h:∀ d,Ev.maf X [] pre= .ok d→khP X d t s xs mid same):
 Agree (Ev.run X (pre++t::(mid++s::post))) (Ev.run X (pre++(xs++(mid.map (Oz.mapA g1)++post.map (Oz.mapA eN))))):=by
 refine kgn X fun d hd=>?_;have ky:=kcF X _ _ _ hd;obtain ⟨aE,ak⟩:=h d hd;rw[kc5,kee]
 cases au:Ev.at1 X t d with
 |error x=>exact klu
 |ok v=>
  rcases ak v au with av|⟨u,w,av,al,bk⟩
  .rw[av];exact .inr (.inl rfl)
  .have jj:=kcF X _ _ _ av;rw[av,kan,kan,kee,kee,khb X mid (d++[v]) (d++(u++[w])) (kxn af ky.symm.symm jj al)]
   cases aG:Ev.maf X (d++[v]) mid with
   |error x=>exact .rfl'
   |ok e=>
    have hA:=kcF X _ _ _ aG;rw[kan,kan,kc5];rcases bk e aG with cb|cb
    .rw[cb,kan,kjf X aO (kvG ao ky jj oM al)];exact .rfl'
    .rw[cb];exact .inl rfl
theorem krg {pre mid xs:List St} {t s:St}
 (bg:∀ d v,Ev.maf X [] pre= .ok d→Ev.at1 X t d= .ok v→kdh (Ev.maf X (d++[v]) mid))
 (h:∀ d,Ev.maf X [] pre= .ok d→khP X d t s xs mid False):
 Agree (Ev.run X (pre++t::(mid++[s]))) (Ev.run X (pre++xs)):=by
 refine kgn X fun d hd=>?_;obtain ⟨aE,ak⟩:=h d hd;rw[kc5];unfold kb2 at*
 cases au:Ev.at1 X t d with
 |error x=>exact klu
 |ok v=>
  rcases ak v au with av|⟨u,w,av,_,bk⟩
  .rw[av];exact .inr (.inl rfl)
  .rw[av,kan,kan];rw[ked]
   cases aG:Ev.maf X (d++[v]) mid with
   |error x=>
    cases x with
    |none=>exact .inl rfl
    |some c=>exact absurd aG (bg d v hd au c)
   |ok e=>
    rw[kan,kbh];rcases bk e aG with cb|cb
    .rw[cb,kan,khc,kan,kan,kan];rw[show d++[v]++(e++[w])=d++[v]++e++[w] by rw[uc2 (d++[v])],kho,←uc2,kho];exact .rfl'
    .rw[cb];exact .inl rfl
end
section
variable (X:Ev.Cx)
def kgo (fr:Nat) (r:List St):Prop:=∀(k:Nat) (t:St),r[k]? =N t→∀ a∈t.args,0≤a∧a≠(fr:Int)
theorem ko1 {fr:Nat} {r:List St} {d e:List Ev.Va} {v:Ev.Va} (h:kgo fr r) (hd:d.length=fr):khN (fRm fr) r (d++[v]++e) (d++e):=by
 intro k t aB a aE;obtain ⟨af,ao⟩:=h k t aB a aE;simp only[ua6,uc3];unfold fRm;refine ⟨af,fun az=>?_,fun az=>?_⟩
 .by_cases bG:(fr:Int)<a
  .rw[ua1 bG];refine ⟨oM,oM,?_⟩;rw[kbW oM,kbW (by simp only[ua6,uc3];omega)];exact khU
  .rw[ua0 bG];refine ⟨oM,oM,?_⟩;rw[kbF oM,uc2,kbF oM]
 .rw[ua1 oM];omega
def kDc (d:List Ev.Va) (t s x:St) (mid:List St) (g:Int→Int):Prop:=
 (∀ c,Ev.at1 X t d= .error (N c)→kdh (Ev.maf X d (mid.map (Oz.mapA g)))∧∀ e,Ev.maf X d (mid.map (Oz.mapA g))= .ok e→Ev.at1 X x (d++e)= .error (N c)∨Ev.at1 X x (d++e)= .error Z)∧
 (∀ v,Ev.at1 X t d= .ok v→∀ e,Ev.maf X (d++[v]) mid= .ok e→e.length=mid.length→Agree (Ev.at1 X s (d++[v]++e)) (Ev.at1 X x (d++e)))
theorem kyb {pre mid post:List St} {t s x:St} (af:kgo pre.length mid) (ao:kgo pre.length post)
 (h:∀ d,Ev.maf X [] pre= .ok d→kDc X d t s x mid (fRm pre.length)):
 Agree (Ev.run X (pre++t::(mid++s::post))) (Ev.run X (pre++(mid.map (Oz.mapA (fRm pre.length))++x::post.map (Oz.mapA (fRm pre.length))))):=by
 refine kgn X fun d hd=>?_;have ky:=kcF X _ _ _ hd;obtain ⟨aE,ak⟩:=h d hd;rw[kc5,kee]
 cases au:Ev.at1 X t d with
 |error aC=>
  cases aC with
  |none=>exact .inl rfl
  |some c=>
   obtain ⟨av,bk⟩:=aE c au
   cases aG:Ev.maf X d (mid.map (Oz.mapA (fRm pre.length))) with
   |error z=>
    cases z with
    |none=>exact .inr (.inl rfl)
    |some cS=>exact absurd aG (av cS)
   |ok e=>
    rw[kan,kc5];rcases bk e aG with cb|cb
    .rw[cb];exact .rfl'
    .rw[cb];exact .inr (.inl rfl)
 |ok v=>
  have am:=ko1 (e:=[]) (v:=v) af ky;rw[ug2,ug2] at am;rw[kan,kee,khb X mid (d++[v]) d am]
  cases aG:Ev.maf X (d++[v]) mid with
  |error aC=>exact .rfl'
  |ok e=>
   have hA:=kcF X _ _ _ aG;rw[kan,kan,kc5,kc5];rcases ak v au e aG hA with cb|cb|cb
   .rw[cb];exact .inl rfl
   .rw[cb];exact .inr (.inl rfl)
   .rw[cb]
    cases Ev.at1 X x (d++e) with
    |error aC=>exact .rfl'
    |ok w=>
     rw[kan,kan];by_cases aO:post=[]
     .subst aO;rw[uk8,koV,koV,kho,kho];exact .rfl'
     .have kA:=ko1 (e:=e++[w]) (v:=v) ao ky;rw[←uc2,←uc2] at kA;rw[kjf X aO kA];exact .rfl'
theorem koU:∀(l:List St) (d e:List Ev.Va),Ev.maf X d l= .ok e→∀(k:Nat) (s:St),l[k]? =N s→∃ v,e[k]? =N v∧Ev.at1 X s (d++e.take k)= .ok v
 |[],_,_,_=>by intro k s al;rw[List.getElem?_nil] at al;cases al
 |s::l,d,e,h=>by
  rw[kbh] at h
  cases af:Ev.at1 X s d with
  |error x=>rw[af] at h;cases h
  |ok v=>
   rw[af,kan] at h
   cases ao:Ev.maf X (d++[v]) l with
   |error x=>rw[ao] at h;cases h
   |ok ek=>
    rw[ao,kan] at h;injection h with h;subst h;intro k t aB
    cases k with
    |zero=>injection aB with aB;subst aB;refine ⟨v,rfl,?_⟩;rw[um1,ug2];exact af
    |succ k=>obtain ⟨cH,av,bk⟩:=koU l _ _ ao k t aB;refine ⟨cH,av,?_⟩;rw[uc2] at bk;exact bk
theorem kB9 {s:St} {d e:List Ev.Va} (h:∀ a∈s.args,0≤a∧a<(d.length:Int)):Ev.at1 X s (d++e)=Ev.at1 X s d:=by unfold Ev.at1;rw[show List.map (fun a:Int=>(d++e).getD a.toNat (.num 0)) s.args=List.map (fun a:Int=>d.getD a.toNat (.num 0)) s.args from um0 fun a aE=>by obtain ⟨af,ao⟩:=h a aE;exact kbF oM]
theorem ksU {l:List St} {d:List Ev.Va} (h:Ev.maf X [] l= .ok d) {k:Nat} {s:St} (al:l[k]? =N s) (ak:∀ a∈s.args,0≤a∧a<(k:Int)):Ev.at1 X s d= .ok (d.getD k (.num 0)):=by
 obtain ⟨v,af,ao⟩:=koU X l [] d h k s al;have gp:k<d.length:=(gH af).1;rw[uj4] at ao;rw[ub6,af];have av:=kB9 X (s:=s) (d:=d.take k) (e:=d.drop k) fun a aE=>by obtain ⟨bk,cb⟩:=ak a aE;rw[ub8,uf7 oM];exact ⟨bk,cb⟩
 rw[ug3] at av;rw[av];exact ao
end
def kbo (l:List (Int×Int)):Prop:=l.Pairwise fun a b=>Ev.mau a b=K
def kaD (X:Ev.Cx):Ev.Va→Prop
 | .num n=> -Oz.mab≤n∧n≤Oz.mab
 | .tru _=>True
 | .txt t=>t.length≤X.n
 | .sps l=>kbo l∧l.length≤4096
def kbe:Ev.Va→Int
 | .num _=>1
 | .tru _=>2
 | .txt _=>3
 | .sps _=>4
structure CxOk (X:Ev.Cx):Prop where
 F:∀ p t l,X.F p t= .ok l→kbo l∧l.length≤4096
 n:(X.n:Int)≤Oz.mab
 c:((X.n:Int)=Oz.mab∧X.c=N 2)∨X.c=Z
def kxN (a:Int×Int):Ev.mau a a=J:=by unfold Ev.mau;rw[un5];omega
def kp9 {a b c:Int×Int} (af:Ev.mau a b=K) (ao:Ev.mau b c=K):Ev.mau a c=K:=by unfold Ev.mau at*;rw[ue8] at*;omega
def kxM {a b:Int×Int} (af:Ev.mau a b=J) (ch:a≠b):Ev.mau b a=K:=by
 unfold Ev.mau at*;rw[ue8];rw[un5] at af;by_cases ao:a.1=b.1
 .by_cases av:a.2=b.2
  .exact absurd (Prod.ext ao av) ch
  .omega
 .omega
theorem kiP {p:Int×Int→Bool} :∀ {o:List (Int×Int)},(∀ aC∈o,p aC=K)→o.takeWhile p=o∧o.dropWhile p=[]
 |[],_=>⟨rfl,rfl⟩
 |aC::o,h=>by obtain ⟨af,ao⟩:=kiP (o:=o) fun z bd=>h z (uf6 _ bd);rw[List.takeWhile_cons,List.dropWhile_cons,ua1 (h aC (uf3 ..)),ua1 (h aC (uf3 ..)),af,ao];exact ⟨rfl,rfl⟩
def kvB {o:List (Int×Int)} {x:Int×Int} (h:∀ aC∈o,Ev.mau aC x=K):Ev.mbg o x=o++[x]:=by unfold Ev.mbg;rw[ua0 fun bg=>by have:=h x bg;rw[kxN] at this;cases this];rw[(kiP h).1,(kiP h).2]
def kvA {o:List (Int×Int)} {x:Int×Int} (h:x∈o):Ev.mbg o x=o:=by unfold Ev.mbg;rw[ua1 h]
theorem kAG {o:List (Int×Int)} {x:Int×Int} (h:kbo o) (aA:x∉o):kbo (o.takeWhile (Ev.mau · x)++x::o.dropWhile (Ev.mau · x)):=by
 unfold kbo at*;rw[List.pairwise_append];have af:∀ a∈o.takeWhile (Ev.mau · x),Ev.mau a x=K:=fun a aE=>(List.all_takeWhile (l:=o) (p:=(Ev.mau · x))|>un1.1) a aE
 have ao:∀ a∈o.dropWhile (Ev.mau · x),Ev.mau x a=K:=by
  intro a aE
  cases hd:o.dropWhile (Ev.mau · x) with
  |nil=>rw[hd] at aE;cases aE
  |cons aC r=>
   have bp:Ev.mau aC x=J:=(by have:=List.head_dropWhile_not (p:=(Ev.mau · x)) (l:=o) (by rw[hd];exact List.cons_ne_nil _ _);simp only[hd,List.head_cons] at this;exact this);have PU:aC∈o:=(uo2 _).subset (by rw[hd];exact uf3 ..);have oe:Ev.mau x aC=K:=kxM bp fun aG=>aA (aG ▸ PU);rw[hd] at aE;rcases uc7.1 aE with aG|am
   .rw[aG];exact oe
   .have al:(aC::r).Pairwise fun a b=>Ev.mau a b=K:=hd ▸ h.sublist (uo2 _);exact kp9 oe ((uq0.1 al).1 a am)
 refine ⟨h.sublist (List.takeWhile_sublist _),uq0.2 ⟨ao,h.sublist (uo2 _)⟩,?_⟩;intro a aE b ak;rcases uc7.1 ak with aG|am
 .rw[aG];exact af a aE
 .exact kp9 (af a aE) (ao b am)
def kvz {o:List (Int×Int)} {x:Int×Int} (h:kbo o):kbo (Ev.mbg o x):=by
 unfold Ev.mbg;by_cases aA:x∈o
 .rw[ua1 aA];exact h
 .rw[ua0 aA];exact kAG h aA
theorem krn:∀ {a o:List (Int×Int)},kbo o→kbo (a.foldl Ev.mbg o)
 |[],_,h=>h
 |x::a,o,h=>by rw[uj8];exact krn (kvz h)
def ks4 (a b:List (Int×Int)):kbo (Ev.mbx a b):=krn List.Pairwise.nil
theorem krp:∀ {a o:List (Int×Int)},kbo (o++a)→a.foldl Ev.mbg o=o++a
 |[],o,_=>(ug2 o).symm
 |x::a,o,h=>by
  rw[uj8,kvB,krp (by rw[uc2];exact h),uc2]
  .rfl
  .intro aC bp;exact (List.pairwise_append.1 h).2.2 aC bp x (uf3 ..)
theorem kro:∀ {a o:List (Int×Int)},(∀ x∈a,x∈o)→a.foldl Ev.mbg o=o
 |[],_,_=>rfl
 |x::a,o,h=>by rw[uj8,kvA (h x (uf3 ..)),kro fun aC bp=>h aC (uf6 _ bp)]
def ks5 {a:List (Int×Int)} (h:kbo a):Ev.mbx a a=a:=by unfold Ev.mbx;rw[uo4,krp (o:=[]) h,uj4,kro fun x aA=>aA]
def ksJ (a:List (Int×Int)) (k:Int):Ev.mbc Oz.maI a a k=a:=by unfold Ev.mbc;rw[List.filter_eq_self];intro x aA;rw[up2];refine ⟨x,aA,?_⟩;unfold Ev.mbI;rw[ua1 rfl,ue8];omega
theorem kjl:∀(t:List UInt8) (i f:Int),f≤i→∀ r∈Ev.maE i f t,f≤r.1
 |[],i,f,h,r,am=>by rw[Ev.maE,ug5] at am;rw[am];exact ug9 _
 |b::t,i,f,h,r,am=>by
  rw[Ev.maE] at am;split at am
  .rcases uc7.1 am with aG|bg
   .rw[aG];exact ug9 _
   .have:=kjl t (i+1) (i+1) (ug9 _) r bg;omega
  .exact kjl t (i+1) f oM r am
theorem kjh:∀(t:List UInt8) (i f:Int),f≤i→kbo (Ev.maE i f t)
 |[],i,f,_=>List.pairwise_singleton ..
 |b::t,i,f,h=>by
  rw[Ev.maE];split
  .refine uq0.2 ⟨fun r am=>?_,kjh t _ _ (ug9 _)⟩;have:=kjl t (i+1) (i+1) (ug9 _) r am;unfold Ev.mau;rw[ue8];exact .inl (by show f<r.1;omega)
  .exact kjh t _ _ oM
def kvj (t:List UInt8):kbo (Ev.maX t):=kjh t 0 0 (ug9 _)
theorem kjg:∀(t:List UInt8) (i f:Int),(Ev.maE i f t).length=(t.filter fun b=>b=10).length+1
 |[],_,_=>rfl
 |b::t,i,f=>by
  rw[Ev.maE];by_cases ak:b=10
  .rw[ua1 ak,uc8,kjg,List.filter_cons,ua1 (ub3 ak),uc8]
  .rw[ua0 ak,kjg,List.filter_cons,ua0 (by rw[ua5 ak];decide)]
theorem kjr (t:List UInt8):∀ n:Nat,(Ev.ma6 t n).length=t.length*n
 |0=>rfl
 |n+1=>by rw[Ev.ma6,ua6,kjr t n,uo7];omega
def kfU {n:Int} {v:Ev.Va} (h:Ev.mah n= .ok v):v= .num n∧ -Oz.mab≤n∧n≤Oz.mab:=by
 unfold Ev.mah at h;split at h
 .cases h
 .injection h with h;exact ⟨h.symm,oM,oM⟩
def kiV {X:Ev.Cx} {t:List UInt8} {v:Ev.Va} (h:Ev.maG X t= .ok v):v= .txt t∧t.length≤X.n:=by
 unfold Ev.maG at h;split at h
 .rename_i az;injection h with h;exact ⟨h.symm,az⟩
 .cases h
def keq (op:List UInt8):Int:=
 if op=kac then 1 else if op=kaF then 3 else if op=kdy then 3 else if op=kb5 then 1 else if op=kb4 then 2 else if op=kbT then 4
 else if op=kbN then 1 else if op=kbk then 4 else if op=kbS then 1
 else if op=Oz.mal∨op=Oz.mbi∨op=Oz.mbn∨op=Oz.ma7∨op=Oz.maT∨op=Oz.maS∨op=Oz.maF∨op=Oz.maY∨op=Oz.maJ then 1
 else if op=Oz.oEq∨op=Oz.oNe∨op=Oz.oLt∨op=Oz.oLe∨op=Oz.mbC∨op=Oz.oOr∨op=Oz.maL then 2
 else if op=Oz.maO∨op=Oz.ma4∨op=Ev.mbQ∨op=Oz.maU∨op=Ev.mbO then 3
 else 4
theorem kv4 {n:List UInt8} {o:OpI} (h:opR n=N o):o.res=keq n:=by
 unfold opR at h;split at h
 .rename_i af;injection h with h;subst h;subst af;decide
 split at h
 .rename_i af;injection h with h;subst h;rcases af with af|af <;> subst af <;> decide
 split at h
 .rename_i af;injection h with h;subst h;subst af;decide
 split at h
 .rename_i af;injection h with h;subst h;subst af;decide
 split at h
 .rename_i af;injection h with h;subst h;subst af;decide
 cases al:sig n with
 |none=>rw[al] at h;cases h
 |some q=>
  rw[al] at h;injection h with h;subst h;show q.2=keq n
  have dq:∀ bl:List (List UInt8×List Int×Int),(∀ x∈bl,x.2.2=keq x.1)→kaB n bl=N q→q.2=keq n:=fun bl=>by
   induction bl with
   |nil=>intro _ h;cases h
   |cons x bl bQ=>
    obtain ⟨m,a,r⟩:=x;intro aA h;rw[kaB] at h;split at h
    .rename_i aG;injection h with h;subst h;subst aG;exact aA _ (uf3 ..)
    .exact bQ (fun aC bp=>aA aC (uf6 _ bp)) h
  exact dq sigT (by decide+kernel) al
def kbz (X:Ev.Cx) (k:Int) (r:Ev.Re Ev.Va):Prop:=∀ v,r= .ok v→kaD X v∧kbe v=k
def kb6 {X:Ev.Cx} {k:Int} {e:Option Int} :kbz X k (.error e):=fun v h=>by cases h
def kcz {X:Ev.Cx} (n:Int):kbz X 1 (Ev.mah n):=fun v h=>by obtain ⟨af,ao⟩:=kfU h;subst af;exact ⟨ao,rfl⟩
def ke2 {X:Ev.Cx} (t:List UInt8):kbz X 3 (Ev.maG X t):=fun v h=>by obtain ⟨af,ao⟩:=kiV h;subst af;exact ⟨ao,rfl⟩
def kdW {X:Ev.Cx} (b:Bool):kbz X 2 (.ok (.tru b)):=fun v h=>by injection h with h;subst h;exact ⟨trivial,rfl⟩
def kf7 {X:Ev.Cx} {l:List (Int×Int)} (h:kbo l) (az:l.length≤4096):kbz X 4 (.ok (.sps l)):=fun v aG=>by injection aG with aG;subst aG;exact ⟨⟨h,az⟩,rfl⟩
def kq7 {X:Ev.Cx} {l:List (Int×Int)} (h:kbo l):kbz X 4 (Ev.ma8 l):=by
 unfold Ev.ma8;split
 .exact kb6
 .exact kf7 h oM
def kaQ {X:Ev.Cx} {k:Int} {p:Prop} [Decidable p] {a b:Ev.Re Ev.Va} (aE:p→kbz X k a) (ak:¬p→kbz X k b):kbz X k (if p then a else b):=by
 split
 .rename_i h;exact aE h
 .rename_i h;exact ak h
def kkq {X:Ev.Cx} {l:List (Int×Int)} (p:Int×Int→Bool) (h:kbo l∧l.length≤4096):kbz X 4 (.ok (.sps (l.filter p))):=kf7 (h.1.sublist (List.filter_sublist)) (uc9 (ur1 ..) h.2)
def kq8 {X:Ev.Cx} {l:List (Int×Int)} (n:Int) (h:kbo l∧l.length≤4096):kbz X 4 (Ev.ma3 l n):=by unfold Ev.ma3;refine kaQ (fun _=>kb6) fun _=>?_;exact kf7 (h.1.sublist (List.take_sublist ..)) (uc9 (List.length_take_le ..) oM)
def kzm {X:Ev.Cx} (t:List UInt8) (a b:Int):kbz X 3 (Ev.cutV X t a b):=by unfold Ev.cutV;exact kaQ (fun _=>ke2 _) fun _=>kb6
def kzk {X:Ev.Cx} (t:List UInt8) (n:Int):kbz X 3 (Ev.mby X t n):=by
 unfold Ev.mby;refine kaQ (fun _=>kb6) fun aD=>kaQ (fun _=>kb6) fun _=>kaQ (fun _=>kb6) fun af=>?_;intro v aG;injection aG with aG;subst aG;refine ⟨?_,rfl⟩;show (if t.length=0 then [] else Ev.ma6 t n.toNat).length≤X.n;split
 .exact ud1 _
 .rw[kjr];have ao:((t.length*n.toNat:Nat):Int)=(t.length:Int)*n:=(by rw[ur9,Int.toNat_of_nonneg oM]);omega
def kzl {X:Ev.Cx} (a b:Int):kbz X 1 (Ev.maQ a b):=by unfold Ev.maQ;exact kaQ (fun _=>kb6) fun _=>kcz _
theorem kct {X:Ev.Cx} {a:List Ev.Va} (h:∀ v∈a,kaD X v) (k:Nat):kaD X (Ev.v0 a k):=by
 unfold Ev.v0;rw[ub6]
 cases aw:a[k]? with
 |none=>show-Oz.mab≤0∧(0:Int)≤Oz.mab;unfold Oz.mab;omega
 |some v=>exact h v (ua4 aw)
theorem ke1 {X:Ev.Cx} {v:Ev.Va} (h:kaD X v):kbo v.l∧v.l.length≤4096:=by
 cases v with
 |sps l=>exact h
 |num n=>exact ⟨List.Pairwise.nil,ud1 _⟩
 |tru n=>exact ⟨List.Pairwise.nil,ud1 _⟩
 |txt n=>exact ⟨List.Pairwise.nil,ud1 _⟩
theorem kc0 {X:Ev.Cx} {v:Ev.Va} (h:kaD X v):v.t.length≤X.n:=by
 cases v with
 |txt l=>exact h
 |num n=>exact ud1 _
 |tru n=>exact ud1 _
 |sps n=>exact ud1 _
theorem ke0 {X:Ev.Cx} {v:Ev.Va} (h:kaD X v): -Oz.mab≤v.n∧v.n≤Oz.mab:=by
 cases v with
 |num l=>exact h
 |txt n=>show-Oz.mab≤(0:Int)∧(0:Int)≤Oz.mab;unfold Oz.mab;omega
 |tru n=>show-Oz.mab≤(0:Int)∧(0:Int)≤Oz.mab;unfold Oz.mab;omega
 |sps n=>show-Oz.mab≤(0:Int)∧(0:Int)≤Oz.mab;unfold Oz.mab;omega
def kxh {X:Ev.Cx} {op:List UInt8} {a:List Ev.Va} (aE:∀ v∈a,kaD X v):kbz X (if op=Oz.maO∨op=Oz.ma4∨op=Ev.mbQ∨op=Oz.maU∨op=Ev.mbO then 3 else 4) (Ev.more X op a):=by
 unfold Ev.more;by_cases af:op=Oz.maO
 .rw[ua1 af,ua1 (.inl af)];exact ke2 _
 by_cases ao:op=Oz.ma4
 .rw[ua0 af,ua1 ao,ua1 (.inr (.inl ao))];exact kzm _ _ _
 by_cases av:op=Ev.mbQ
 .rw[ua0 af,ua0 ao,ua1 av,ua1 (.inr (.inr (.inl av)))];refine kaQ (fun _=>kb6) fun _=>?_;split
  .exact ke2 _
  .exact kb6
 by_cases bk:op=Oz.maU
 .rw[ua0 af,ua0 ao,ua0 av,ua1 bk,ua1 (.inr (.inr (.inr (.inl bk))))];exact kzk _ _
 by_cases cb:op=Ev.mbO
 .rw[ua0 af,ua0 ao,ua0 av,ua0 bk,ua1 cb,ua1 (.inr (.inr (.inr (.inr cb))))];refine kaQ (fun _=>kb6) fun _=>?_;split
  .exact kaQ (fun _=>ke2 _) fun _=>kb6
  .exact kb6
 rw[ua0 af,ua0 ao,ua0 av,ua0 bk,ua0 cb,ua0 (by rintro (h|h|h|h|h) <;> contradiction)];have d8:=ke1 (kct aE 0);refine kaQ (fun _=>kq7 (kvj _)) fun _=>?_;refine kaQ (fun _=>kaQ (fun _=>kf7 (List.pairwise_singleton ..) (by rw[uc3];omega)) fun _=>kb6) fun _=>?_;refine kaQ (fun _=>kkq _ d8) fun _=>?_;refine kaQ (fun _=>kaQ (fun _=>kb6) fun _=>kkq _ d8) fun _=>?_;refine kaQ (fun _=>kq7 (ks4 _ _)) fun _=>?_;refine kaQ (fun _=>kkq _ d8) fun _=>?_;exact kq8 _ d8
def kBT {X:Ev.Cx} {op:List UInt8} {a:List Ev.Va} (aE:∀ v∈a,kaD X v):kbz X (if op=Oz.mal∨op=Oz.mbi∨op=Oz.mbn∨op=Oz.ma7∨op=Oz.maT∨op=Oz.maS∨op=Oz.maF∨op=Oz.maY∨op=Oz.maJ then 1
 else if op=Oz.oEq∨op=Oz.oNe∨op=Oz.oLt∨op=Oz.oLe∨op=Oz.mbC∨op=Oz.oOr∨op=Oz.maL then 2
 else if op=Oz.maO∨op=Oz.ma4∨op=Ev.mbQ∨op=Oz.maU∨op=Ev.mbO then 3
 else 4) (Ev.call X op a):=by
 unfold Ev.call Ev.mbl;by_cases h:op=Oz.mal∨op=Oz.mbi∨op=Oz.mbn∨op=Oz.ma7∨op=Oz.maT∨op=Oz.maS∨op=Oz.maF∨op=Oz.maY∨op=Oz.maJ
 .rw[ua1 h];refine kaQ (fun _=>kcz _) fun bD=>kaQ (fun _=>kcz _) fun dP=>kaQ (fun _=>kcz _) fun li=>kaQ (fun _=>kcz _) fun hf=>kaQ (fun _=>kcz _) fun m3=>kaQ (fun _=>kcz _) fun lV=>kaQ (fun _=>kcz _) fun pz=>kaQ (fun _=>kcz _) fun rU=>kaQ (fun _=>kzl _ _) fun cv=>?_;exfalso;rcases h with h|h|h|h|h|h|h|h|h <;> contradiction
 rw[ua0 h];simp only[ul6] at h;obtain ⟨bD,dP,li,hf,m3,lV,pz,rU,cv⟩:=h;rw[ua0 bD,ua0 dP,ua0 li,ua0 hf,ua0 m3,ua0 lV,ua0 pz,ua0 rU,ua0 cv];by_cases h:op=Oz.oEq∨op=Oz.oNe∨op=Oz.oLt∨op=Oz.oLe∨op=Oz.mbC∨op=Oz.oOr∨op=Oz.maL
 .rw[ua1 h];refine kaQ (fun _=>kdW _) fun bD=>kaQ (fun _=>kdW _) fun dP=>kaQ (fun _=>kdW _) fun li=>kaQ (fun _=>kdW _) fun hf=>kaQ (fun _=>kdW _) fun m3=>kaQ (fun _=>kdW _) fun lV=>kaQ (fun _=>kdW _) fun pz=>?_;exfalso;rcases h with h|h|h|h|h|h|h <;> contradiction
 rw[ua0 h];simp only[ul6] at h;obtain ⟨bD,dP,li,hf,m3,lV,pz⟩:=h;rw[ua0 bD,ua0 dP,ua0 li,ua0 hf,ua0 m3,ua0 lV,ua0 pz];exact kxh aE
theorem kf8 {X:Ev.Cx} {k:Int} {r:Ev.Re (List (Int×Int))} {f:List (Int×Int)→Ev.Re Ev.Va} (h:∀ l,r= .ok l→kbz X k (f l)):kbz X k (r.bind f):=by
 cases am:r with
 |error e=>exact kb6
 |ok l=>exact h l am
theorem ksg {X:Ev.Cx} (hF:CxOk X) {s:St} {a:List Ev.Va} (aE:∀ v∈a,kaD X v):kbz X (keq s.op) (Ev.app X s a):=by
 unfold Ev.app keq Ev.mbl;by_cases h:s.op=kac
 .rw[ua1 h,ua1 h];exact kcz _
 rw[ua0 h,ua0 h];by_cases h:s.op=kaF
 .rw[ua1 h,ua1 h];exact ke2 _
 rw[ua0 h,ua0 h];by_cases h:s.op=kdy
 .rw[ua1 h,ua1 h]
  cases X.env.find? fun x=>decide (x.1=s.text) with
  |some x=>exact ke2 _
  |none=>exact kb6
 rw[ua0 h,ua0 h];by_cases h:s.op=kb5
 .rw[ua1 h,ua1 h];exact kf8 fun l _=>kcz _
 rw[ua0 h,ua0 h];by_cases h:s.op=kb4
 .rw[ua1 h,ua1 h];exact kf8 fun l _=>kdW _
 rw[ua0 h,ua0 h];by_cases h:s.op=kbT
 .rw[ua1 h,ua1 h];exact kf8 fun l az=>kf7 (hF.F _ _ _ az).1 (hF.F _ _ _ az).2
 rw[ua0 h,ua0 h];by_cases h:s.op=kbN
 .rw[ua1 h,ua1 h];exact kf8 fun l _=>kcz _
 rw[ua0 h,ua0 h];by_cases h:s.op=kbk
 .rw[ua1 h,ua1 h];exact kf8 fun l az=>kq8 _ (hF.F _ _ _ az)
 rw[ua0 h,ua0 h];by_cases h:s.op=kbS
 .rw[ua1 h,ua1 h];intro v h
  cases an:Ev.cutV X (Ev.v0 a 0).t (Ev.v0 a 1).n (Ev.v0 a 2).n with
  |error e=>rw[an] at h;cases h
  |ok x=>rw[an,kan] at h;exact kcz _ v h
 rw[ua0 h,ua0 h];exact kBT aE
section
variable (X:Ev.Cx) (hF:CxOk X)
include hF
theorem kgi {s:St} {d:List Ev.Va} (hd:∀ v∈d,kaD X v):kbz X (keq s.op) (Ev.at1 X s d):=by refine ksg hF fun v au=>?_;obtain ⟨a,_,rfl⟩:=uh8.1 au;rw[show d.getD a.toNat (.num 0)=Ev.v0 d a.toNat from rfl];exact kct hd _
theorem kje:∀(l:List St) (d e:List Ev.Va),(∀ v∈d,kaD X v)→Ev.maf X d l= .ok e→∀ v∈e,kaD X v
 |[],d,e,_,h=>by injection h with h;subst h;intro v au;cases au
 |s::l,d,e,hd,h=>by
  rw[kbh] at h
  cases af:Ev.at1 X s d with
  |error x=>rw[af] at h;cases h
  |ok v=>
   rw[af,kan] at h;have au:=(kgi X hF hd v af).1
   cases ao:Ev.maf X (d++[v]) l with
   |error x=>rw[ao] at h;cases h
   |ok ek=>
    rw[ao,kan] at h;injection h with h;subst h;intro aC bp;rcases uc7.1 bp with aG|aG
    .rw[aG];exact au
    .refine kje l (d++[v]) ek (fun z bd=>?_) ao aC aG;rcases uh2.1 bd with bd|bd
     .exact hd z bd
     .rw[ug5.1 bd];exact au
end
def kcH {n:Int} (h: -Oz.mab≤n∧n≤Oz.mab):Ev.mah n= .ok (.num n):=by unfold Ev.mah;rw[ua0 oM]
def kem {α:Type} {v:α} :kdh (.ok v:Ev.Re α):=fun c h=>by cases h
def kwq {X:Ev.Cx} (d6:CxOk X) {t:List UInt8} (h:t.length≤65536):kdh (Ev.maG X t):=by
 unfold Ev.maG;split
 .exact kem
 .intro c aG;injection aG with aG;rcases d6.c with af|af
  .have ao:=af.1;unfold Oz.mab at ao;omega
  .rw[af] at aG;cases aG
theorem krP:∀(a b:List UInt8),0≤Ev.mbw a b∧Ev.mbw a b≤a.length
 |[],_=>⟨ug9 _,ug9 _⟩
 |_::_,[]=>by rw[Ev.mbw];exact ⟨ug9 _,oM⟩;intro a r b s h ao;cases ao
 |a::r,b::s=>by have:=krP r s;rw[Ev.mbw,uc8];split <;> omega
def ki3 {n:Int} (aD:0≤n) (h:n≤Oz.mab):kdh (Ev.mah n):=by rw[kcH ⟨by unfold Oz.mab;omega,h⟩];exact kem
section
variable (X:Ev.Cx)
theorem kCd {s:St} {d:List Ev.Va} (hd:∀ v∈d,kaD X v):∀ v∈s.args.map (fun a:Int=>d.getD a.toNat (.num 0)),kaD X v:=fun v au=>by obtain ⟨a,_,rfl⟩:=uh8.1 au;rw[show d.getD a.toNat (.num 0)=Ev.v0 d a.toNat from rfl];exact kct hd _
variable (hF:CxOk X)
include hF
theorem koO {s:St} {d:List Ev.Va} (h:Oz.ma9 s=K) (ax:0≤s.num) (hd:∀ v∈d,kaD X v):kdh (Ev.at1 X s d):=by
 unfold Ev.at1;have aE:=kCd X (s:=s) hd;generalize s.args.map (fun a:Int=>d.getD a.toNat (.num 0))=A at aE ⊢;unfold Oz.ma9 at h;by_cases af:s.op=kac
 .rw[ua1 af,ue8] at h;unfold Ev.app;rw[ua1 af,kcH ⟨by unfold Oz.mab;omega,h⟩];exact kem
 rw[ua0 af] at h;by_cases ao:s.op=kaF
 .unfold Ev.app;rw[ua0 af,ua1 ao];rw[ua1 ao,ue8] at h;exact kwq hF h
 rw[ua0 ao,ue8] at h;have ax:=hF.n;have t0:=kc0 (kct aE 0);have df:=ke0 (kct aE 0);have bD:=ke0 (kct aE 1);have b6:=ke1 (kct aE 0);have an:=krP (Ev.v0 A 0).t (Ev.v0 A 1).t;simp only[uc7,List.mem_nil_iff,ui2] at h;have e:∀ op:List UInt8,s.op=op→Ev.app X { s with op:=op } A=Ev.app X s A:=fun op bf=>by subst bf;rfl
 rcases h with h|h|h|h|h|h|h|h|h|h|h|h|h|h|h <;> rw[←e _ h]
 .exact ki3 (n:=(Ev.v0 A 0).t.length) oM oM
 .exact ki3 (n:=(Ev.v0 A 0).l.length) oM (by unfold Oz.mab;omega)
 .exact ki3 (n:=Ev.mbw (Ev.v0 A 0).t (Ev.v0 A 1).t) oM oM
 .show kdh (Ev.mah (min (Ev.v0 A 0).n (Ev.v0 A 1).n));rw[kcH oM];exact kem
 .show kdh (Ev.mah (max (Ev.v0 A 0).n (Ev.v0 A 1).n));rw[kcH oM];exact kem
 all_goals exact kem
theorem kjd:∀(r:List St) (d:List Ev.Va),(∀ s∈r,Oz.ma9 s=K∧0≤s.num)→(∀ v∈d,kaD X v)→kdh (Ev.maf X d r)
 |[],_,_,_=>kem
 |s::r,d,h,hd=>by
  intro c an;rw[kbh] at an;obtain ⟨af,ao⟩:=h s (uf3 ..)
  cases au:Ev.at1 X s d with
  |error e=>rw[au,kr4] at an;injection an with an;subst an;exact koO X hF af ao hd c au
  |ok v=>
   rw[au,kan] at an;have hg:=(kgi X hF hd v au).1
   have bQ:=kjd r (d++[v]) (fun t aB=>h t (uf6 _ aB)) (fun z bd=>by
    rcases uh2.1 bd with bd|bd
    .exact hd z bd
    .rw[ug5.1 bd];exact hg)
   cases aG:Ev.maf X (d++[v]) r with
   |error e=>rw[aG,kr4] at an;injection an with an;subst an;exact bQ c aG
   |ok e=>rw[aG,kan] at an;cases an
end
def kk8 (h:P:=by
 refine cb (d++[v]++e) ?_ ?_
 .exact klU
 .rw[uc2,kbW oM,ky,uo8];rfl):=h
def klU (h:P:=by show Ev.maf X [] (l.take i)=_;rw[gr,ked,hd,kan,uj4,kbh,au,kan,aG];show Except.ok (d++v::e)=_;rw[uc2];rfl):=h
def kh1 (h:P:=by apply um0;intro aC _;unfold Oz.mapA;simp only[Function.comp,un0];rfl):=h
def knw (h:P:=by
 have hg:∀ z∈d,kaD X z:=kfz X hF (l:=l) (i:=j) hd;have qt:=(kgi X hF hg v au).1;refine kjd X hF _ _ (fun aC bp=>⟨BM aC bp,kfS an (uk4 (up3 bp))⟩) fun z bd=>?_;rcases uh2.1 bd with bd|bd
 .exact hg z bd
 .rw[ug5.1 bd];exact qt):=h
def kns (h:P:=by
 rw[g2,show Ev.run X l=Ev.run X (l.take j++t::((l.take i).drop (j+1)++s::l.drop (i+1))) by rw[←en]];have Jb:l.drop (i+1)≠ []:=by intro aD;have:=ud4 List.length aD;rw[ud9,uj7] at this;omega
 first
 |guard_hyp PV;refine krh X (same:=same) Jb ?_ ?_ y0
  .intro k aC bp a aE;rw[ud0,uc4] at bp;split at bp
   .rename_i aw;obtain ⟨av,bk⟩:=dG aC (ua4 bp) a aE;rw[dk];refine ⟨av,fun _=>rfl,fun aG=>⟨?_,by show a=_;simp only[uc3];omega⟩,fun _=>by show a=_;simp only[uc3];omega⟩;rcases aI with cb|cb
    .exact cb
    .exact absurd (aG ▸ aE) (cb _ _ oM bp)
   .cases bp
  .intro k aC bp a aE;rw[ud0] at bp;obtain ⟨av,bk⟩:=dG aC (ua4 bp) a aE;rw[dk,jl];unfold fRm fRp;dsimp only;refine ⟨av,fun dE=>?_,fun dE=>⟨?_,?_⟩,fun dE fi=>?_,fun dE=>?_,fun dE=>?_⟩
   .rw[ua0 (show ¬a=(i:Int) by omega),ua0 oM]
   .rcases aI with cb|cb
    .exact cb
    .exact absurd (dE ▸ aE) (cb _ _ oM bp)
   .rw[ua0 (show ¬a=(i:Int) by omega),ua0 oM];simp only[uc3];omega
   .rw[ua0 (show ¬a=(i:Int) by omega),ua0 oM];simp only[uc3];omega
   .rw[ua1 (show a=(i:Int) by omega),ua0 oM];simp only[uc3];omega
   .rw[ua0 (show ¬a=(i:Int) by omega),ua1 oM];simp only[uc3];omega
 |refine krh X (same:=False) Jb ?_ ?_ (y0 False id)
  .intro k aC bp a aE;rw[ud0,uc4] at bp;split at bp
   .rename_i aw;obtain ⟨av,bk⟩:=dG aC (ua4 bp) a aE;rw[dk,bg];refine ⟨av,fun dE=>iY a dE,fun aG=>absurd (aG ▸ aE) (dY _ _ oM bp),fun dE=>?_⟩;rw[fW a dE];omega
   .cases bp
  .intro k aC bp a aE;rw[ud0] at bp;obtain ⟨av,bk⟩:=dG aC (ua4 bp) a aE;rw[dk,jl,bg];unfold fRm fRp;dsimp only;refine ⟨av,fun dE=>?_,fun dE=>absurd (dE ▸ aE) (dY _ _ oM bp),fun dE fi=>?_,fun dE=>?_,fun dE=>?_⟩
   .rw[iY a dE,ua0 (show ¬a=((i+m:Nat):Int) by omega),ua0 oM]
   .rw[fW a dE,ua0 (show ¬a+m=((i+m:Nat):Int) by omega),ua0 oM];omega
   .rw[fW a oM,ua1 (show a+m=((i+m:Nat):Int) by omega),ua0 oM];omega
   .rw[fW a oM,ua0 (show ¬a+m=((i+m:Nat):Int) by omega),ua1 oM];omega):=h
section
variable (X:Ev.Cx) (hF:CxOk X)
def VAt (l:List St) (i:Nat) (d:List Ev.Va):Prop:=Ev.maf X [] (l.take i)= .ok d
theorem kg2 {l:List St} {i:Nat} {s:St} (h:l[i]? =N s):l=l.take i++s::l.drop (i+1):=by have hi:=(ue1.1 h);obtain ⟨az,aG⟩:=hi;rw[←aG,List.getElem_cons_drop,ug3]
theorem kg1 {l:List St} {i j:Nat} {s t:St} (al:l[i]? =N s) (aB:l[j]? =N t) (b9:j<i):l.take i=l.take j++t::(l.take i).drop (j+1)∧l=l.take j++t::((l.take i).drop (j+1)++s::l.drop (i+1)):=by have af:(l.take i)[j]? =N t:=(by rw[uc4,ua1 b9,aB]);have ao:=kg2 af;rw[us4,uf7 oM] at ao;refine ⟨ao,?_⟩;have av:=kg2 al;rw[ao] at av;rw[uc2] at av;exact av
theorem kiQ {l:List St} {i:Nat} {d:List Ev.Va} (h:VAt X l i d) (hi:i≤l.length):d.length=i:=by rw[kcF X _ _ _ h,ub8,uf7 hi]
theorem kcT {l:List St} (an:kaf l=0) {i a:Nat} {d:List Ev.Va} {t:St} (h:VAt X l i d) (aE:a<i) (aB:l[a]? =N t):Ev.at1 X t d= .ok (d.getD a (.num 0)):=by refine ksU X h (k:=a) (by rw[uc4,ua1 aE,aB]) fun x aA=>?_;obtain ⟨o,f⟩:=(check_fit.1 an).2.2 a t aB;exact f.back x aA
theorem kp6:∀(r:List St),r.map (Oz.mapA id)=r
 |[]=>rfl
 |s::r=>by rw[uf5,kp6 r,keQ (f:=id) fun a _=>rfl]
theorem kfS {l:List St} (an:kaf l=0) {s:St} (al:s∈l):0≤s.num:=by obtain ⟨k,aw⟩:=uh7 al;obtain ⟨o,f⟩:=(check_fit.1 an).2.2 k s aw;exact f.num
include hF
theorem kfz {l:List St} {i:Nat} {d:List Ev.Va} (h:VAt X l i d):∀ v∈d,kaD X v:=kje X hF _ _ _ (fun v au=>by cases au) h
theorem knQ {l:List St} (an:kaf l=0) {i a:Nat} {d:List Ev.Va} {t:St} (h:VAt X l i d) (aE:a<i) (aB:l[a]? =N t):kaD X (d.getD a (.num 0))∧kbe (d.getD a (.num 0))=t.ty:=by obtain ⟨af,ao⟩:=kgi X hF (kfz X hF h) _ (kcT X an h aE aB);obtain ⟨o,f⟩:=(check_fit.1 an).2.2 a t aB;rw[f.ty,kv4 f.op];exact ⟨af,ao⟩
theorem kod {l l':List St} (an:kaf l=0) {i j:Nat} {s t x:St} {same:Prop} (al:l[i]? =N s) (aB:l[j]? =N t) (b9:j<i)
 (am:Oz.mad (l.set j x) i j=N l')
 (aI:same∨∀(q:Nat) (aC:St),q≠i→l[q]? =N aC→(j:Int)∉aC.args)
 (h:∀ d,VAt X l j d→
 (∀ c,Ev.at1 X t d= .error (N c)→Ev.at1 X x d= .error (N c)∨Ev.at1 X x d= .error Z)∧
 ∀ v,Ev.at1 X t d= .ok v→Ev.at1 X x d= .error Z∨∃ w,Ev.at1 X x d= .ok w∧(same→v=w)∧
 ∀ cw,VAt X l i cw→cw.getD j (.num 0)=v→Ev.at1 X s cw= .ok w∨Ev.at1 X s cw= .error Z):
 Agree (Ev.run X l) (Ev.run X l'):=by
 have hi:=(gH al).1;obtain ⟨gr,en⟩:=kg1 al aB b9;have dk:(l.take j).length=j:=(by rw[ub8,uf7 oM]);have jl:((l.take i).drop (j+1)).length=i-(j+1):=(by rw[ud9,ub8,uf7 oM]);have dG:=kcr an;have mq:l.set j x=l.take j++x::((l.take i).drop (j+1)++s::l.drop (i+1)):=(by rw[um9,ua1 oM];congr 2;have av:=ud4 (List.drop (j+1)) en;rw[av,List.drop_append,ug8 oM,dk,show j+1-j=1 by omega];rfl);have g8:(l.set j x).take i=l.take j++x::(l.take i).drop (j+1):=by rw[mq,show l.take j++x::((l.take i).drop (j+1)++s::l.drop (i+1))=(l.take j++x::(l.take i).drop (j+1))++s::l.drop (i+1) by rw[uc2];rfl];exact un9 (by rw[ua6,uc8,dk,jl];omega)
 have y0:∀ d,Ev.maf X [] (l.take j)= .ok d→khP X d t s [x] ((l.take i).drop (j+1)) same:=by
  intro d hd;have ky:d.length=j:=(by rw[kcF X _ _ _ hd,dk]);obtain ⟨aE,ak⟩:=h d hd;have nz:∀ e,Ev.at1 X x d= .error e→Ev.maf X d [x]= .error e:=fun e aG=>by rw[kbh,aG];rfl
  refine ⟨fun c Dj=>?_,fun v au=>?_⟩
  .rcases aE c Dj with av|av
   .exact .inl (nz _ av)
   .exact .inr (nz _ av)
  .rcases ak v au with av|⟨w,av,bk,cb⟩
   .exact .inl (nz _ av)
   .refine .inr ⟨[],w,by rw[kbh,av];rfl,bk,fun e aG=>?_⟩;exact kk8
 unfold Oz.mad at am;rw[ud8] at am;by_cases qv:Oz.maA (l.set j x) i j=J
 .rw[ua1 qv] at am;cases am
 rw[ua0 qv] at am;by_cases hk:i+1=l.length
 .rw[ua1 hk] at am;injection am with am;have Ex:l.drop (i+1)=[]:=ug8 oM;have g2:l'=l.take j++[x]:=by rw[←am,mq,show l.take j++x::((l.take i).drop (j+1)++s::l.drop (i+1))=(l.take j++[x])++((l.take i).drop (j+1)++s::l.drop (i+1)) by rw[uc2];rfl];exact un9 (by rw[ua6,uc3,dk])
  have BM:∀ aC∈(l.take i).drop (j+1),Oz.ma9 aC=K:=by
   have av : Oz.maA (l.set j x) i j = K := by cases bk : Oz.maA (l.set j x) i j with
    | true => rfl
    | false => exact absurd bk qv
   unfold Oz.maA Oz.maN at av;rw[ud8,ua5 oM,uk9,g8,List.drop_append,ug8 oM,dk,show j+1-j=1 by omega] at av;exact un1.1 av
  rw[g2];have qu:l=l.take j++t::((l.take i).drop (j+1)++[s]):=(by have av:=en;rw[Ex] at av;exact av);rw[show Ev.run X l=Ev.run X (l.take j++t::((l.take i).drop (j+1)++[s])) by rw[←qu]];refine krg X (fun d v hd au=>?_) (fun d hd=>?_)
  .exact knw
  .obtain ⟨aE,ak⟩:=y0 d hd;refine ⟨aE,fun v au=>?_⟩;rcases ak v au with av|⟨u,w,av,_,cb⟩
   .exact .inl av
   .exact .inr ⟨u,w,av,fun b5=>b5.elim,cb⟩
 .rw[ua0 hk] at am;injection am with am;have g2:l'=l.take j++([x]++((((l.take i).drop (j+1)).map (Oz.mapA id))++(l.drop (i+1)).map (Oz.mapA fun a=>fRm i (fRp i j a)))):=(by rw[←am,kp6];unfold Oz.mai;have dz:((l.set j x).take (i+1)).length=i+1:=(by rw[ub8,ud8,uf7 oM]);rw[ul9 oM,us4,uf7 oM,g8,ul8 dz,uc2];refine ud4 (fun z=>l.take j++(x::((l.take i).drop (j+1)++z))) ?_;rw[mq,show l.take j++x::((l.take i).drop (j+1)++s::l.drop (i+1))=(l.take j++x::((l.take i).drop (j+1)++[s]))++l.drop (i+1) by rw[uc2,ui4,uc2];rfl];rw[ul8 (by rw[ua6,uc8,ua6,uc3,dk,jl];omega),un0];exact kh1);have PV:=();exact kns
end
namespace Rf
def mb3 (l:List St) (i:Nat):List St:=(l.take i).map (Oz.mapA (fRm i))++(l.drop (i+1)).map (Oz.mapA (fRm i))
def mbY (l:List St) (i j:Nat):Option (List St):=
 if i+1=l.length then (if Oz.maN l j i then N (l.take (j+1)) else Z)
 else N (mb3 (l.map (Oz.mapA (fRp i j))) i)
def mbJ (a b:St):Bool:=decide (a.op=b.op∧a.num=b.num∧a.text=b.text∧a.args=b.args)
def mcb (l:List St) (i:Nat):Option (List St):=match (List.range i).find? fun j:Nat=>mbJ (Oz.at_ l (j:Int)) (Oz.at_ l (i:Int)) with
 |none=>none
 |some j=>mbY l i j
def mas (n:Int):Option Int:=if n< -Oz.mab∨Oz.mab<n then Z else N n
end Rf
def kfl (l:List St):Prop:=∀(q:Nat) (s:St),l[q]? =N s→∀ a∈s.args,0≤a∧a<(q:Int)
def kz1 {l:List St} (h:Fit l):kfl l:=fun q s al=>by obtain ⟨o,f⟩:=h q s al;exact f.back
theorem kB8 {f:Int→Int} {l:List St} {i:Nat} (h:kfl l) (b5:∀ a:Int,a<(i:Int)→f a=a):(l.take i).map (Oz.mapA f)=l.take i:=by
 apply uh3;intro q;rw[ub9,uc4];by_cases bj:q<i
 .rw[ua1 bj]
  cases az:l[q]? with
  |none=>rfl
  |some s=>rw[ue5,keQ (f:=f) (s:=s) (fun a aE=>b5 a (by have:=(h q s az a aE).2;omega))]
 .rw[ua0 bj];rfl
def kvu {l:List St} (h:kfl l) (i:Nat):Rf.mb3 l i=Oz.mai l i:=by unfold Rf.mb3 Oz.mai;rw[kB8 (f:=fRm i) h (fun a aE=>ua0 oM)];rfl
theorem ko7 {l:List St} (h:kfl l) {i j:Nat} (hi:i<l.length) (b9:j<i):Rf.mbY l i j=Oz.mad l i j:=by
 unfold Rf.mbY Oz.mad;by_cases hk:i+1=l.length
 .rw[ua1 hk];have qv:Oz.maA l i j=Oz.maN l j i:=(by unfold Oz.maA;rw[ua5 oM,uk9]);rw[qv]
  cases Oz.maN l j i with
  |false=>rw[ua0 dC,ua1 rfl]
  |true=>rw[ua1 rfl,ua0 dC,ua1 hk]
 .rw[ua0 hk];have qv:Oz.maA l i j=K:=(by unfold Oz.maA;rw[ub3 oM,ut7]);rw[qv,ua0 dC,ua0 hk]
  have h3:l.map (Oz.mapA (fRp i j))=l.take (i+1)++(l.drop (i+1)).map (Oz.mapA (fRp i j)):=by
   conv=>lhs;rw[←ug3 (i+1) l]
   rw[uj3];congr 1;apply uh3;intro q;rw[ub9,uc4];by_cases bj:q<i+1
   .rw[ua1 bj]
    cases az:l[q]? with
    |none=>rfl
    |some s=>rw[ue5,keQ (f:=fRp i j) (s:=s) (fun a aE=>ua0 (by have:=(h q s az a aE).2;omega))]
   .rw[ua0 bj];rfl
  rw[h3]
  have b0:kfl (l.take (i+1)++(l.drop (i+1)).map (Oz.mapA (fRp i j))):=fun q s al a aE=>by
   rw[ko8 hi] at al;by_cases bj:q≤i
   .rw[ua1 bj] at al;exact h q s al a aE
   .rw[ua0 bj] at al
    cases az:l[q]? with
    |none=>rw[az] at al;cases al
    |some t=>rw[az,ue5] at al;injection al with al;subst al;unfold Oz.mapA at aE;obtain ⟨b,ak,rfl⟩:=uh8.1 aE;have:=h q t az b ak;unfold fRp;split <;> omega
  rw[kvu b0];rfl
def okB {l:List St} (an:kaf l=0):kfl l:=kz1 (check_fit.1 an).2.2
section
variable {l:List St} (an:kaf l=0) {i:Nat} {s:St} (al:l[i]? =N s)
include an al
theorem kuS:Rf.mcb l i=Oz.maH l i:=by
 have dK:=(gH al).1;unfold Rf.mcb Oz.maH
 have b5:((List.range i).find? fun j:Nat=>Rf.mbJ (Oz.at_ l (j:Int)) (Oz.at_ l (i:Int)))=Oz.sameAt l i:=by
  unfold Oz.sameAt
  have:∀ xs:List Nat,(∀ j∈xs,j<i)→(xs.find? fun j:Nat=>Rf.mbJ (Oz.at_ l (j:Int)) (Oz.at_ l (i:Int)))=xs.find? fun j:Nat=>decide (Oz.mbA (Oz.at_ l (j:Int))=Oz.mbA (Oz.at_ l (i:Int))):=by
   intro xs
   induction xs with
   |nil=>intro _;rfl
   |cons j xs bQ=>
    intro aA;have aS:=aA j (uf3 ..);obtain ⟨t,aB⟩:∃ t,l[j]? =N t:=⟨_,ua3 oM⟩
    have aG:Rf.mbJ (Oz.at_ l (j:Int)) (Oz.at_ l (i:Int))=decide (Oz.mbA (Oz.at_ l (j:Int))=Oz.mbA (Oz.at_ l (i:Int))):=by
     rw[kal aB,kal al];unfold Rf.mbJ
     have Jc:(t.op=s.op∧t.num=s.num∧t.text=s.text∧t.args=s.args)↔Oz.mbA t=Oz.mbA s:=by
      unfold Oz.mbA;simp only[uq8,un7,ut6];constructor
      .rintro ⟨a,b,c,d⟩;unfold Oz.arg;rw[d];exact ⟨a,c,⟨rfl,rfl,rfl⟩,b⟩
      .rintro ⟨a,b,⟨aM,aZ,bC⟩,d⟩;refine ⟨a,d,b,?_⟩;obtain ⟨o,f⟩:=(check_fit.1 an).2.2 i s al;have fL:=kaC an aB (by rw[a];exact f.op);have kJ:=khi f.op;have af:=f.len;have ao:=fL.len;apply uh3;intro k;by_cases aw:k<o.args.length
       .have hg:∀ x:St,x.args.length=o.args.length→x.args[k]? =N (Oz.arg x k):=fun x aA=>by unfold Oz.arg;rw[ub6,ua3 oM];rfl
        rw[hg t ao,hg s af];have fd:k=0∨k=1∨k=2:=oM;rcases fd with rfl|rfl|rfl
        .rw[aM]
        .rw[aZ]
        .rw[bC]
       .rw[ud5 oM,ud5 oM]
     by_cases aw:Oz.mbA t=Oz.mbA s
     .rw[ub3 aw,ub3 (Jc.2 aw)]
     .rw[ua5 aw,ua5 (fun e=>aw (Jc.1 e))]
    rw[ur5,ur5,aG,bQ (fun q bj=>aA q (uf6 _ bj))]
  exact this _ (fun j aS=>uk3.1 aS)
 rw[b5]
 cases tI:Oz.sameAt l i with
 |none=>rfl
 |some j=>have b9:j<i:=(by rw[kjc] at tI;exact kky tI);exact ko7 (okB an) dK b9
end
section
variable {l:List St} (an:kaf l=0) {i:Nat} {s:St} (al:l[i]? =N s)
include an al
end
end Go.Proofs.YtamhdmkolfmmdaaGreatDoor
