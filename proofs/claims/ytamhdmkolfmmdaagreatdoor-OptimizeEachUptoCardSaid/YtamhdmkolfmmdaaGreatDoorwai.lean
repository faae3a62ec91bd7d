/- Part ai of the proof. -/
import Derived.Test.YtamhdmkolfmmdaaGreatDoorwag
import Derived.Test.YtamhdmkolfmmdaaGreatDoorwah
set_option linter.all false
set_option maxHeartbeats 16000000
set_option maxRecDepth 100000
open Go.Proofs.Tryz
open Go.Value renaming int→I,slice→D,bool→V,string→Q,pointer→ab,agg→aa,tuple→ag,nilIface→aj
open Go.IntKind renaming i64→U,u64→Y,u8→ai
open Go.Obj renaming cells→y
open Go.Ending renaming returned→ac
open Option renaming none→Z,some→N
open Bool renaming true→K,false→J
open Go renaming World→O,Value→C,Calls→L,TypeId→ah,Addr→ae
open Go.RowKit renaming Below→H
namespace Go.Proofs.YtamhdmkolfmmdaaGreatDoor
open Go.RowKit
variable {P:Prop}
section
variable (X:Ev.Cx) (hF:CxOk X)
include hF
section
variable {l l':List St} (an:kaf l=0) {i:Nat} {s:St} (al:l[i]? =N s)
include an al
theorem khk {j:Nat} {t:St} {op op2:List UInt8} (vV:Bool) (ba:s.op=Oz.maL) (aB:l[j]? =N t) (b9:j<i) (aS:s.args[0]? =N (j:Int)) (az:s.args.length=1) (aI:(kag l).getD j 0=1) (gO:t.op=op) (dw:t.args.length=2)
 (au:∀ u v:Ev.Va,∃ b,(∀ n p,Ev.app X ⟨op,[],n,p,0⟩ [u,v]= .ok (.tru b))∧Ev.app X ⟨op2,[],0,[],0⟩ (if vV then [v,u] else [u,v])= .ok (.tru (!b))):Agree (Ev.run X l) (Ev.run X (Oz.mai (l.set i (Oz.mk op2 (if vV then [Oz.arg t 1,Oz.arg t 0] else [Oz.arg t 0,Oz.arg t 1]) 0 [] 2)) j)):=by
 obtain ⟨o,fL⟩:=(check_fit.1 an).2.2 j t aB
 have lT:∀ a∈(if vV then [Oz.arg t 1,Oz.arg t 0] else [Oz.arg t 0,Oz.arg t 1]),a∈t.args:=by
  intro a aE;rw[ksc dw]
  cases vV with
  |true=>rw[ua1 rfl] at aE;simp only[uc7,ue3,ui2] at aE ⊢;exact aE.symm
  |false=>rw[ua0 dC] at aE;exact aE
 refine kq3 X hF an al aB b9 aS aI (x:=Oz.mk op2 (if vV then [Oz.arg t 1,Oz.arg t 0] else [Oz.arg t 0,Oz.arg t 1]) 0 [] 2) (fun a aE=>?_) (fun d hd c aG=>?_) (fun cw hD=>?_)
 .have:=fL.back a (lT a aE);omega
 .obtain ⟨b,af,_⟩:=au (d.getD (Oz.arg t 0).toNat (.num 0)) (d.getD (Oz.arg t 1).toNat (.num 0));rw[kcN X dw,kaJ X gO,af] at aG;cases aG
 .obtain ⟨b,af,ao⟩:=au (cw.getD (Oz.arg t 0).toNat (.num 0)) (cw.getD (Oz.arg t 1).toNat (.num 0));have CQ:=kcT X an hD b9 aB;rw[kcN X dw,kaJ X gO,af] at CQ;injection CQ with CQ;refine .inr (.inr ?_);rw[kcs X az,kaJ X ba,kfd aS,←CQ];unfold Ev.at1;rw[kaJ X (s:=Oz.mk op2 (if vV then [Oz.arg t 1,Oz.arg t 0] else [Oz.arg t 0,Oz.arg t 1]) 0 [] 2) (op:=op2) rfl];show Except.ok (Ev.Va.tru (!b))=Ev.app X ⟨op2,[],0,[],0⟩ _
  cases vV with
  |true=>exact ao.symm
  |false=>exact ao.symm
end
end
section
variable (X:Ev.Cx) (hF:CxOk X)
include hF
section
variable {l l':List St} (an:kaf l=0) {i:Nat} {s:St} (al:l[i]? =N s)
include an al
theorem kwS (am:Oz.maB l i=N l'):Agree (Ev.run X l) (Ev.run X l'):=by
 unfold Oz.maB at am;rw[kal al] at am;dsimp only at am;split at am
 .cases am
 rename_i dY;rw[ul6] at dY;have ba:s.op=Oz.maL:=um8.1 dY.1;have aI:(kag l).getD (Oz.arg s 0).toNat 0=1:=um8.1 dY.2;have f:=kaC an al (o:=⟨[2],2,J,J⟩) (by rw[ba];show (_:Option OpI)=_;kernel_rfl);have az:s.args.length=1:=f.len;obtain ⟨j,t,e,b9,aB,_,aE⟩:=ka1 an al f (k:=0) oM;rw[e,ub7] at am aI;rw[kal aB] at am;have bG:∀ op:List UInt8,t.op=op→opR op=N ⟨[1,1],2,J,J⟩→t.args.length=2:=fun op af ao=>(kaC an aB (o:=⟨[1,1],2,J,J⟩) (by rw[af];exact ao)).len;unfold Oz.mbZ at am;by_cases aD:t.op=Oz.oEq
 .rw[ua1 aD] at am;injection am with am;subst am;exact khk X hF an al (op:=Oz.oEq) J ba aB b9 aE az aI aD (bG _ aD kS) fun u v=>⟨_,fun _ _=>rfl,rfl⟩
 rw[ua0 aD] at am;by_cases af:t.op=Oz.oNe
 .rw[ua1 af] at am;injection am with am;subst am;refine khk X hF an al (op:=Oz.oNe) J ba aB b9 aE az aI af (bG _ af kS) fun u v=>⟨!decide (u.n=v.n∧u.b=v.b∧u.t=v.t),fun _ _=>rfl,?_⟩;rw[Bool.not_not];rfl
 rw[ua0 af] at am;by_cases ao:t.op=Oz.oLt
 .rw[ua1 ao] at am;injection am with am;subst am;refine khk X hF an al (op:=Oz.oLt) K ba aB b9 aE az aI ao (bG _ ao kS) fun u v=>⟨decide (u.n<v.n)||Ev.ltV u.t v.t,fun _ _=>rfl,?_⟩;show Except.ok (Ev.Va.tru (decide (v.n≤u.n)&&!Ev.ltV u.t v.t))=_;rw[Bool.not_or,←decide_not,show decide (¬u.n<v.n)=decide (v.n≤u.n) by rw[ul2];omega]
 rw[ua0 ao] at am;by_cases av:t.op=Oz.oLe
 .rw[ua1 av] at am;injection am with am;subst am;refine khk X hF an al (op:=Oz.oLe) K ba aB b9 aE az aI av (bG _ av kS) fun u v=>⟨decide (u.n≤v.n)&&!Ev.ltV v.t u.t,fun _ _=>rfl,?_⟩;show Except.ok (Ev.Va.tru (decide (v.n<u.n)||Ev.ltV v.t u.t))=_;rw[Bool.not_and,Bool.not_not,←decide_not,show decide (¬u.n≤v.n)=decide (v.n<u.n) by rw[ul2];omega]
 rw[ua0 av] at am;cases am
end
end
section
variable (X:Ev.Cx) (hF:CxOk X)
include hF
section
variable {l l':List St} (an:kaf l=0) {i j:Nat} {s t:St} (al:l[i]? =N s) (aB:l[j]? =N t) (b9:j<i) (aS:s.args[0]? =N (j:Int)) (aI:(kag l).getD j 0=1)
include an al aB b9 aS aI
theorem kp4 {bl xs:List St} {s':St} {g:Int→Int} {m:Nat} (bg:xs.length=m+1)
 (cR:bl=l.take j++(xs++(((l.take i).drop (j+1)).map (Oz.mapA g)++s'::(l.drop (i+1)).map (Oz.mapA g))))
 (iY:∀ a:Int,a<(j:Int)→g a=a) (fW:∀ a:Int,(j:Int)<a→g a=a+m)
 (am:Oz.mad bl (i+m) (j+m)=N l')
 (h:∀ d,VAt X l j d→
 (∀ c,Ev.at1 X t d= .error (N c)→Ev.maf X d xs= .error (N c))∧
 ∀ v,Ev.at1 X t d= .ok v→∃ u w,Ev.maf X d xs= .ok (u++[w])∧
 ∀ cw,VAt X l i cw→cw.getD j (.num 0)=v→Ev.at1 X s cw= .ok w):
 Agree (Ev.run X l) (Ev.run X l'):=by
 have hi:=(gH al).1;obtain ⟨gr,en⟩:=kg1 al aB b9;have dk:(l.take j).length=j:=(by rw[ub8,uf7 oM]);have jl:((l.take i).drop (j+1)).length=i-(j+1):=(by rw[ud9,ub8,uf7 oM]);have qs:(l.drop (i+1)).length=l.length-(i+1):=ud9;have dG:=kcr an;have dY:∀(q:Nat) (aC:St),q≠i→l[q]? =N aC→(j:Int)∉aC.args:=fun q aC bj bp=>kei (kcr an) aI al (ua4 aS) bj bp;have m9:bl.length=l.length+m:=(by rw[cR];simp only[ua6,uc8,ui9,dk,jl,qs,bg];omega);have mf:bl=(l.take j++(xs++((l.take i).drop (j+1)).map (Oz.mapA g)))++s'::(l.drop (i+1)).map (Oz.mapA g):=(by rw[cR];simp only[uc2]);have Lq:(l.take j++(xs++((l.take i).drop (j+1)).map (Oz.mapA g))).length=i+m:=(by simp only[ua6,ui9,dk,jl,bg];omega);have g8:bl.take (i+m)=l.take j++(xs++((l.take i).drop (j+1)).map (Oz.mapA g)):=(by rw[mf];exact un9 Lq);have y0:∀(same:Prop),¬same→∀ d,Ev.maf X [] (l.take j)= .ok d→khP X d t s xs ((l.take i).drop (j+1)) same:=(by intro same uS d hd;have ky:d.length=j:=(by rw[kcF X _ _ _ hd,dk]);obtain ⟨aE,ak⟩:=h d hd;refine ⟨fun c Dj=> .inl (aE c Dj),fun v au=>?_⟩;obtain ⟨u,w,av,cb⟩:=ak v au;refine .inr ⟨u,w,av,fun b5=>absurd b5 uS,fun e aG=> .inl ?_⟩;exact kk8);unfold Oz.mad at am;by_cases qv:Oz.maA bl (i+m) (j+m)=J
 .rw[ua1 qv] at am;cases am
 rw[ua0 qv,m9] at am;by_cases hk:i+1=l.length
 .rw[ua1 oM] at am;injection am with am;have Ex:l.drop (i+1)=[]:=ug8 oM;have g2:l'=l.take j++xs:=by rw[←am,cR,←uc2];exact un9 (by rw[ua6,dk,bg];omega)
  have BM:∀ aC∈(l.take i).drop (j+1),Oz.ma9 aC=K:=by
   have av : Oz.maA bl (i + m) (j + m) = K := by cases bk : Oz.maA bl (i + m) (j + m) with
    | true => rfl
    | false => exact absurd bk qv
   unfold Oz.maA Oz.maN at av;rw[m9,ua5 oM,uk9,g8,←uc2,ul8 (by rw[ua6,dk,bg];omega)] at av;intro aC bp;have bk:Oz.ma9 (Oz.mapA g aC)=K:=un1.1 av _ (List.mem_map_of_mem bp);exact bk
  rw[g2];have qu:l=l.take j++t::((l.take i).drop (j+1)++[s]):=(by have av:=en;rw[Ex] at av;exact av);rw[show Ev.run X l=Ev.run X (l.take j++t::((l.take i).drop (j+1)++[s])) by rw[←qu]];refine krg X (fun d v hd au=>?_) (fun d hd=>y0 False id d hd);exact knw
 .rw[ua0 oM] at am;injection am with am;have g2:l'=l.take j++(xs++(((l.take i).drop (j+1)).map (Oz.mapA g)++(l.drop (i+1)).map (Oz.mapA fun a=>fRm (i+m) (fRp (i+m) (j+m) (g a))))):=(by rw[←am];unfold Oz.mai;have dz:(bl.take (i+m+1)).length=i+m+1:=(by rw[ub8,m9,uf7 oM]);rw[ul9 oM,us4,uf7 oM,g8,ul8 dz];simp only[uc2];refine ud4 (fun z=>l.take j++(xs++(((l.take i).drop (j+1)).map (Oz.mapA g)++z))) ?_;rw[mf,show (l.take j++(xs++((l.take i).drop (j+1)).map (Oz.mapA g)))++s'::(l.drop (i+1)).map (Oz.mapA g)=((l.take j++(xs++((l.take i).drop (j+1)).map (Oz.mapA g)))++[s'])++(l.drop (i+1)).map (Oz.mapA g) by rw[uc2 _ [s']];rfl];rw[ul8 (by rw[ua6,Lq];rfl),un0,un0];exact kh1);exact kns
end
end
def kjS (f g:Int→Int) (r:List St):(r.map (Oz.mapA f)).map (Oz.mapA g)=r.map (Oz.mapA fun a=>g (f a)):=by rw[un0];exact kh1
def kqu {l:List St} {i j:Nat} {s t x:St} (al:l[i]? =N s) (aB:l[j]? =N t) (b9:j<i):Oz.maq l j x=l.take j++(x::Oz.mapA (fIn j) t::(((l.take i).drop (j+1)).map (Oz.mapA (fIn j))++Oz.mapA (fIn j) s::(l.drop (i+1)).map (Oz.mapA (fIn j)))):=by have hi:=(gH al).1;obtain ⟨gr,en⟩:=kg1 al aB b9;have dk:(l.take j).length=j:=(by rw[ub8,uf7 oM]);have hd:l.drop j=t::((l.take i).drop (j+1)++s::l.drop (i+1)):=(by have av:=ud4 (List.drop j) en;rw[ul8 dk] at av;exact av);unfold Oz.maq;rw[hd,uf5,uj3,uf5];rfl
def koJ {a b:List St} {x aC:St} {k:Nat} (h:a.length=k):(a++x::b).set k aC=a++aC::b:=by rw[ur3 _ _ oM,h,uo8];rfl
section
variable (X:Ev.Cx) (hF:CxOk X)
include hF
theorem kjV {d:List Ev.Va} {p:Nat} (hg:kaD X (d.getD p (.num 0))):Ev.at1 X (Oz.lenOf (p:Int)) d= .ok (.num (d.getD p (.num 0)).t.length):=by rw[kcs X (s:=Oz.lenOf (p:Int)) rfl,kaJ X (s:=Oz.lenOf (p:Int)) (op:=Oz.mal) rfl];show Ev.mah (d.getD (p:Int).toNat (.num 0)).t.length=_;rw[ub7];refine kcH ?_;have:=kc0 hg;have:=hF.n;unfold Oz.mab at*;omega
section
variable {l l':List St} (an:kaf l=0) {i:Nat} {s:St} (al:l[i]? =N s)
include an al
theorem kxT (am:Oz.maD l i=N l'):Agree (Ev.run X l) (Ev.run X l'):=by
 unfold Oz.maD at am;rw[kal al] at am;split at am
 .cases am
 rename_i dY;rw[ul6] at dY;have ba:s.op=Oz.mal:=um8.1 dY.1;have f:=kaC an al (o:=⟨[3],1,J,J⟩) (by rw[ba];show (_:Option OpI)=_;kernel_rfl)
 cases bf:Oz.maV l i Oz.maO with
 |none=>rw[bf] at am;cases am
 |some j=>exact kfv
end
end
section
variable (X:Ev.Cx) (hF:CxOk X)
include hF
section
variable {l l':List St} (an:kaf l=0) {i:Nat} {s:St} (al:l[i]? =N s)
include an al
theorem kxZ (am:Oz.maC l i=N l'):Agree (Ev.run X l) (Ev.run X l'):=by
 unfold Oz.maC at am;rw[kal al] at am;split at am
 .cases am
 rename_i dY;have ba:s.op=Oz.mal:=um8.1 dY;have f:=kaC an al (o:=⟨[3],1,J,J⟩) (by rw[ba];show (_:Option OpI)=_;kernel_rfl)
 cases bf:Oz.maV l i Oz.maU with
 |none=>rw[bf] at am;cases am
 |some j=>
  rw[bf] at am;dsimp only at am;obtain ⟨t,aB,gO,aI,b9,aE⟩:=kjI an al f (by rw[f.len];decide) bf;rw[kal aB] at am;split at am
  .cases am
  rename_i iW;rw[ul6] at iW;have iW:=um8.1 iW.1;have dK:=(gH al).1;have fL:=kaC an aB (o:=⟨[3,1],3,J,J⟩) (by rw[gO];show (_:Option OpI)=_;kernel_rfl);have bG:t.args.length=2:=fL.len;obtain ⟨p,_,hW,aO,_,_,pD⟩:=ka1 an aB fL (k:=0) oM;obtain ⟨q,aC,eq,bj,bp,SY,r3⟩:=ka1 an aB fL (k:=1) oM;rw[eq,SY] at iW;rw[hW,eq] at am;have dk:(l.take j).length=j:=(by rw[ub8,uf7 oM]);refine kp4 X hF an al aB b9 aE aI (m:=1) (xs:=[Oz.lenOf (p:Int),Oz.mk Oz.maJ [(j:Int),(q:Int)] 0 [] 1]) (s':=Oz.mapA (fIn j) s) (g:=fIn j) rfl ?_ (fun a h=>?_) (fun a h=>?_) am (fun d hd=>?_)
  .rw[kqu al aB b9];rw[show ∀(x aC:St) (T:List St),l.take j++x::aC::T=(l.take j++[x])++aC::T from fun x aC T=>by rw[uc2];rfl];rw[koJ (by rw[ua6,dk];rfl)];simp only[uc2];rfl
  .unfold fIn;rw[ua0 oM]
  .unfold fIn;rw[ua1 oM];omega
  .have ky:=kiQ X hd oM;obtain ⟨d8,k0⟩:=kfc X hF an aB fL (by rw[gO];decide) (k:=0) oM hd;rw[hW,ub7] at d8 k0;have Gx:=kcT X an hd bj bp;unfold Ev.at1 at Gx;rw[kaJ X iW] at Gx;obtain ⟨Lr,_,hqm⟩:=kfU (n:=aC.num) Gx;have rn:=kfS an (ua4 bp);have PK:=hF.n;have dw:=kc0 d8;have Es:Ev.at1 X t d=Ev.mby X (d.getD p (.num 0)).t aC.num:=(by rw[kcN X bG,kaJ X gO,hW,eq,ub7,ub7,Lr];rfl);have ra:Ev.maf X d [Oz.lenOf (p:Int),Oz.mk Oz.maJ [(j:Int),(q:Int)] 0 [] 1]=(Ev.maQ (d.getD p (.num 0)).t.length aC.num).bind fun w=> .ok [.num (d.getD p (.num 0)).t.length,w]:=by rw[kbh,kjV X hF d8,kan,kbh];have av:Ev.at1 X (Oz.mk Oz.maJ [(j:Int),(q:Int)] 0 [] 1) (d++[Ev.Va.num (d.getD p (.num 0)).t.length])=Ev.maQ (d.getD p (.num 0)).t.length aC.num:=(by rw[kcN X (s:=Oz.mk Oz.maJ [(j:Int),(q:Int)] 0 [] 1) rfl,kaJ X (s:=Oz.mk Oz.maJ [(j:Int),(q:Int)] 0 [] 1) (op:=Oz.maJ) rfl];show Ev.maQ ((d++[Ev.Va.num (d.getD p (.num 0)).t.length]).getD ((j:Int)).toNat (.num 0)).n ((d++[Ev.Va.num (d.getD p (.num 0)).t.length]).getD ((q:Int)).toNat (.num 0)).n=_;rw[kbW (a:=d) (k:=((j:Int)).toNat) oM,kbF (k:=((q:Int)).toNat) oM,show ((j:Int)).toNat-d.length=0 by omega,ub7,Lr];rfl);rw[av];cases Ev.maQ (d.getD p (.num 0)).t.length aC.num <;> rfl
   rw[ra,Es];generalize (d.getD p (.num 0)).t=T at dw
   have SZ:Ev.maQ (T.length:Int) aC.num=if 0<T.length∧Oz.mab / T.length<aC.num then .error (N 2) else Ev.mah (T.length*aC.num):=by
    unfold Ev.maQ;rw[show max (T.length:Int) (-(T.length:Int))=T.length by omega,show max aC.num (-aC.num)=aC.num by omega];by_cases mG:0<T.length∧Oz.mab / T.length<aC.num
    .have bk:0≤Oz.mab / (T.length:Int):=Int.ediv_nonneg (by unfold Oz.mab;omega) oM;rw[ua1 mG,ua1 ⟨oM,oM,mG.2⟩]
    .rw[ua0 mG,ua0 (fun cb=>mG ⟨oM,cb.2.2⟩)]
   rw[SZ];unfold Ev.mby;rw[ua0 oM];by_cases mG:0<T.length∧Oz.mab / T.length<aC.num
   .rw[ua1 mG,ua1 mG];refine ⟨fun c aG=>?_,fun v aG=>(by cases aG)⟩;injection aG with aG;injection aG with aG;subst aG;rfl
   .rw[ua0 mG,ua0 mG]
    have eI:(T.length:Int)*aC.num≤Oz.mab:=by
     by_cases aD:T.length=0
     .rw[aD];unfold Oz.mab;omega
     .have cb:aC.num≤Oz.mab / (T.length:Int):=(by have:¬(Oz.mab / (T.length:Int)<aC.num):=fun dE=>mG ⟨oM,dE⟩;omega);have dE:=Int.mul_le_mul_of_nonneg_left cb (show (0:Int)≤T.length by omega);have fi:=Int.mul_ediv_self_le (x:=Oz.mab) (k:=(T.length:Int)) oM;omega
    have h0le:0≤(T.length:Int)*aC.num:=uq1 oM rn;by_cases gs:(X.n:Int)<(T.length:Int)*aC.num
    .rw[ua1 gs];refine ⟨fun c aG=>?_,fun v aG=>(by cases aG)⟩;injection aG with aG;rcases hF.c with af|af
     .omega
     .rw[af] at aG;cases aG
    .rw[ua0 gs,kcH (by unfold Oz.mab at*;omega),kan];refine ⟨fun c aG=>(by cases aG),fun v aG=>⟨[.num T.length],_,rfl,fun cw hD aS=>?_⟩⟩;injection aG with aG;rw[kcs X f.len,kaJ X ba,kfd aE,aS,←aG];show Ev.mah ((if T.length=0 then [] else Ev.ma6 T aC.num.toNat).length)=_
     have dz:(((if T.length=0 then [] else Ev.ma6 T aC.num.toNat).length:Nat):Int)=(T.length:Int)*aC.num:=by
      split
      .rename_i aD;rw[aD,uj7];omega
      .rw[kjr,ur9,Int.toNat_of_nonneg rn]
     rw[dz,kcH (by unfold Oz.mab at*;omega)]
end
theorem kCu {l l':List St} (an:kaf l=0) {k:Nat} (h:Oz.mam k l=N l'):Agree (Ev.run X l) (Ev.run X l'):=by
 have key:∀ g:List St→Nat→Option (List St),(∀(i:Nat) (s:St),l[i]? =N s→g l i=N l'→Agree (Ev.run X l) (Ev.run X l'))→Oz.maw g l=N l'→Agree (Ev.run X l) (Ev.run X l'):=fun g hg h=>by unfold Oz.maw at h;obtain ⟨i,hi,aG⟩:=ui8 h;exact hg i _ (ua3 (uk3.1 hi)) aG
 unfold Oz.mam at h;by_cases aw:k<11
 .have tr:k=0∨k=1∨k=2∨k=3∨k=4∨k=5∨k=6∨k=7∨k=8∨k=9∨k=10:=oM;rcases tr with e|e|e|e|e|e|e|e|e|e|e <;> subst e
  .exact key Oz.maH (fun i s al aG=>kuR X hF an al aG) h
  .exact key Oz.maM (fun i s al aG=>kzT X an al aG) h
  .exact key Oz.maj (fun i s al aG=>kwL X hF an al aG) h
  .exact key Oz.maB (fun i s al aG=>kwS X hF an al aG) h
  .exact key Oz.maZ (fun i s al aG=>kBc X an al aG) h
  .exact key Oz.maK (fun i s al aG=>kxs X hF an al aG) h
  .exact key Oz.mav (fun i s al aG=>kz6 X hF an al aG) h
  .exact key Oz.maP (fun i s al aG=>kx6 X hF an al aG) h
  .exact key Oz.maD (fun i s al aG=>kxT X hF an al aG) h
  .exact key Oz.maC (fun i s al aG=>kxZ X hF an al aG) h
  .exact key Oz.ma0 (fun i s al aG=>ks3 X hF an al aG) h
 .rw[show Oz.mb1[k]? =Z from ud5 (by show 11≤k;omega)] at h;cases h
end
namespace Ev
def Cx.all (X:Cx):Cx:=⟨1152921504606846976,N 2,fun p t=>match X.F p t with
 | .error Z=> .error (N 77)
 |r=>r,X.env⟩
end Ev
def kbP {α:Type} (r hb:Ev.Re α):Prop:=r= .error Z∨r=hb
def kbq {α:Type} (r:Ev.Re α):kbP r r:= .inr rfl
theorem kf0 {α β:Type} {r hb:Ev.Re α} {f Dk:α→Ev.Re β} (h:kbP r hb) (b5:∀ a,kbP (f a) (Dk a)):kbP (r.bind f) (hb.bind Dk):=by
 rcases h with h|h
 .rw[h];exact .inl rfl
 .rw[←h]
  cases r with
  |error e=>exact .inr rfl
  |ok a=>exact b5 a
def kbr {α:Type} {p:Prop} [Decidable p] {a ib b cx:Ev.Re α} (h:kbP a ib) (fg:kbP b cx):kbP (if p then a else b) (if p then ib else cx):=by
 split
 .exact h
 .exact fg
theorem kyi {X:Ev.Cx} (p t:List UInt8):kbP (X.F p t) (X.all.F p t):=by
 show kbP (X.F p t) (match X.F p t with
  | .error Z => .error (N 77)
  | r => r)
 cases X.F p t with
 |ok l=>exact kbq _
 |error e=>
  cases e with
  |none=>exact .inl rfl
  |some c=>exact kbq _
section
variable {X:Ev.Cx} (ax:X.n≤1152921504606846976) (an:X.c=Z)
include ax an
theorem keU (t:List UInt8):kbP (Ev.maG X t) (Ev.maG X.all t):=by
 unfold Ev.maG;by_cases h:t.length≤X.n
 .rw[ua1 h,ua1 (show t.length≤X.all.n from uc9 h ax)];exact kbq _
 .rw[ua0 h,an];exact .inl rfl
theorem kqj (t:List UInt8) (a b:Int):kbP (Ev.cutV X t a b) (Ev.cutV X.all t a b):=by unfold Ev.cutV;exact kbr (keU ax an _) (kbq _)
theorem kye (t:List UInt8) (n:Int):kbP (Ev.mby X t n) (Ev.mby X.all t n):=by
 unfold Ev.mby;refine kbr (kbq _) (kbr (kbq _) ?_);by_cases h:(X.n:Int)<(t.length:Int)*n
 .rw[ua1 h,an];exact .inl rfl
 .rw[ua0 h,ua0 (show ¬((X.all.n:Int)<(t.length:Int)*n) by show ¬(((1152921504606846976:Nat):Int)<(t.length:Int)*n);omega)];exact kbq _
theorem kyf (op:List UInt8) (a:List Ev.Va):kbP (Ev.more X op a) (Ev.more X.all op a):=by
 unfold Ev.more;refine kbr (keU ax an _) (kbr (kqj ax an _ _ _) (kbr ?_ (kbr (kye ax an _ _) (kbr ?_ (kbq _)))))
 .refine kbr (kbq _) ?_
  cases (Ev.maX (Ev.v0 a 0).t)[(Ev.v0 a 1).n.toNat]? with
  |none=>exact kbq _
  |some r=>exact keU ax an _
 .refine kbr (kbq _) ?_
  cases (Ev.v0 a 1).l[(Ev.v0 a 2).n.toNat]? with
  |none=>exact kbq _
  |some r=>exact kbr (keU ax an _) (kbq _)
theorem kyg (op:List UInt8) (a:List Ev.Va):kbP (Ev.call X op a) (Ev.call X.all op a):=by unfold Ev.call;(iterate 16 refine kbr (kbq _) ?_);exact kyf ax an _ _
theorem kyh (s:St) (a:List Ev.Va):kbP (Ev.app X s a) (Ev.app X.all s a):=by
 unfold Ev.app;refine kbr (kbq _) (kbr (keU ax an _) (kbr ?_ (kbr ?_ (kbr ?_ (kbr ?_ (kbr ?_ (kbr ?_ (kbr ?_ (kyg ax an _ _)))))))))
 .show kbP (match X.env.find? fun x => decide (x.1 = s.text) with
   | some x => Ev.maG X x.2
   | none => .error (some 13)) (match X.env.find? fun x => decide (x.1 = s.text) with
   | some x => Ev.maG X.all x.2
   | none => .error (some 13))
  cases X.env.find? fun x=>decide (x.1=s.text) with
  |none=>exact kbq _
  |some x=>exact keU ax an _
 all_goals first
  | exact kf0 (kyi _ _) fun _ => kbq _
  | exact kf0 (kqj ax an _ _ _) fun _ => kbq _
theorem kqh:∀(l:List St) (d:List Ev.Va),kbP (Ev.maf X d l) (Ev.maf X.all d l)
 |[],_=>kbq _
 |s::l,d=>by rw[kbh,kbh];exact kf0 (kyh ax an _ _) fun v=>kf0 (kqh l _) fun e=>kbq _
theorem kqi (l:List St):kbP (Ev.run X l) (Ev.run X.all l):=by unfold Ev.run;exact kf0 (kqh ax an l []) fun _=>kbq _
end
def kbn {α:Type} (r:Ev.Re α):Prop:=r≠ .error Z
theorem kdm {α β:Type} {r:Ev.Re α} {f:α→Ev.Re β} (h:kbn r) (b5:∀ a,kbn (f a)):kbn (r.bind f):=by
 cases r with
 |ok a=>exact b5 a
 |error e=>intro ao;have av:(Except.error e:Ev.Re β)= .error Z:=ao;injection av with av;subst av;exact h rfl
def kb0 {α:Type} (a:α):kbn (.ok a:Ev.Re α):=fun h=>by cases h
def kbB {α:Type} (c:Int):kbn (.error (N c):Ev.Re α):=fun h=>by cases h
def kaK {α:Type} {p:Prop} [Decidable p] {a b:Ev.Re α} (h:kbn a) (fg:kbn b):kbn (if p then a else b):=by
 split
 .exact h
 .exact fg
def keH (n:Int):kbn (Ev.mah n):=kaK (kbB _) (kb0 _)
def ktK (a b:Int):kbn (Ev.maQ a b):=kaK (kbB _) (keH _)
def koe (l:List (Int×Int)):kbn (Ev.ma8 l):=kaK (kbB _) (kb0 _)
def koh (l:List (Int×Int)) (n:Int):kbn (Ev.ma3 l n):=kaK (kbB _) (kb0 _)
section
variable {X:Ev.Cx}
theorem keG (t:List UInt8):kbn (Ev.maG X.all t):=kaK (kb0 _) (kbB _)
theorem koi (t:List UInt8) (a b:Int):kbn (Ev.cutV X.all t a b):=kaK (keG _) (kbB _)
theorem ktJ (t:List UInt8) (n:Int):kbn (Ev.mby X.all t n):=kaK (kbB _) (kaK (kbB _) (kaK (kbB _) (kb0 _)))
theorem kfD (p t:List UInt8):kbn (X.all.F p t):=by
 show kbn (match X.F p t with
  | .error Z => .error (N 77)
  | r => r)
 cases X.F p t with
 |ok l=>exact kb0 _
 |error e=>
  cases e with
  |none=>exact kbB _
  |some c=>exact kbB _
theorem ktL (op:List UInt8) (a:List Ev.Va):kbn (Ev.more X.all op a):=by
 unfold Ev.more;refine kaK (keG _) (kaK (koi _ _ _) (kaK ?_ (kaK (ktJ _ _) (kaK ?_ (kaK (koe _) (kaK (kaK (kb0 _) (kbB _)) (kaK (kb0 _) (kaK (kaK (kbB _) (kb0 _)) (kaK (koe _) (kaK (kb0 _) (koh _ _)))))))))))
 .refine kaK (kbB _) ?_
  cases (Ev.maX (Ev.v0 a 0).t)[(Ev.v0 a 1).n.toNat]? with
  |none=>exact kbB _
  |some r=>exact keG _
 .refine kaK (kbB _) ?_
  cases (Ev.v0 a 1).l[(Ev.v0 a 2).n.toNat]? with
  |none=>exact kbB _
  |some r=>exact kaK (keG _) (kbB _)
theorem ktM (op:List UInt8) (a:List Ev.Va):kbn (Ev.call X.all op a):=by unfold Ev.call Ev.mbl;(iterate 8 refine kaK (keH _) ?_);refine kaK (ktK _ _) ?_;(iterate 7 refine kaK (kb0 _) ?_);exact ktL _ _
theorem ktN (s:St) (a:List Ev.Va):kbn (Ev.app X.all s a):=by
 unfold Ev.app Ev.mbl;refine kaK (keH _) (kaK (keG _) (kaK ?_ (kaK ?_ (kaK ?_ (kaK ?_ (kaK ?_ (kaK ?_ (kaK ?_ (ktM _ _)))))))))
 .cases X.all.env.find? fun x=>decide (x.1=s.text) with
  |none=>exact kbB _
  |some x=>exact keG _
 .exact kdm (kfD _ _) fun _=>keH _
 .exact kdm (kfD _ _) fun _=>kb0 _
 .exact kdm (kfD _ _) fun _=>kb0 _
 .exact kdm (kfD _ _) fun _=>keH _
 .exact kdm (kfD _ _) fun _=>koh _ _
 .exact kdm (koi _ _ _) fun _=>keH _
theorem kof:∀(l:List St) (d:List Ev.Va),kbn (Ev.maf X.all d l)
 |[],_=>kb0 _
 |s::l,d=>by rw[kbh];exact kdm (ktN _ _) fun v=>kdm (kof l _) fun e=>kb0 _
theorem kog (l:List St):kbn (Ev.run X.all l):=by unfold Ev.run;exact kdm (kof l []) fun _=>kb0 _
end
section
variable {X:Ev.Cx} (hF:∀ p t l,X.F p t= .ok l→kbo l∧l.length≤4096)
include hF
theorem kCJ:CxOk X.all where
 F p t l h := by
  refine hF p t l ?_
  have h : (match X.F p t with
   | .error Z => (.error (N 77) : Ev.Re (List (Int × Int)))
   | r => r) = .ok l := h
  cases aA : X.F p t with
  | ok l' => rw [aA] at h; exact h
  | error e =>
   rw [aA] at h
   cases e with
   | none => cases h
   | some c => cases h
 n := by show ((1152921504606846976 : Nat) : Int) ≤ Oz.mab; unfold Oz.mab; omega
 c := .inl ⟨by show ((1152921504606846976 : Nat) : Int) = Oz.mab; unfold Oz.mab; omega, rfl⟩
theorem ksj {l l':List St} (an:kaf l=0) {k:Nat} (h:Oz.mam k l=N l'):Ev.run X.all l=Ev.run X.all l':=by
 rcases kCu X.all (kCJ hF) an h with h|h|h
 .exact absurd h (kog l)
 .exact absurd h (kog l')
 .exact h
theorem kCL {l:List St} (an:kaf l=0) (k:Nat):Ev.run X.all l=Ev.run X.all (doR k l):=by
 unfold doR
 cases h:Oz.mam k l with
 |none=>rfl
 |some l'=>exact ksj hF an h
theorem ksi:∀(n:Nat) {l:List St},kaf l=0→Ev.run X.all l=Ev.run X.all (Oz.ofN n l)
 |0,_,_=>rfl
 |n+1,l,an=>by
  rw[Oz.ofN]
  cases h:Oz.mba l with
  |none=>rfl
  |some l'=>have hd:=kgl an h;unfold Oz.mba at h;obtain ⟨k,_,aw⟩:=ui8 h;dsimp only;rw[ksj hF an aw];exact ksi n hd.check
theorem kCK {l:List St} (an:kaf l=0):Ev.run X.all l=Ev.run X.all (ofR l):=ksi hF _ an
end
def kqk {X:Ev.Cx} {l l':List St} (ax:X.n≤1152921504606846976) (d6:X.c=Z) (h:Ev.run X.all l=Ev.run X.all l'):Ev.run X l= .error Z∨Ev.run X l'= .error Z∨Ev.run X l=Ev.run X l':=by
 rcases kqi ax d6 l with af|af
 .exact .inl af
 .rcases kqi ax d6 l' with ao|ao
  .exact .inr (.inl ao)
  .exact .inr (.inr (by rw[af,ao,h]))
namespace Ev
def mbB (lg:Nat→Int) (len:Nat):Nat→Nat→Option (Nat×Int)
 |0,_=>Z
 |f+1,p=>if len<p then Z else if 0≤lg p then N (p,lg p) else mbB lg len f (p+1)
def mbj (lg:Nat→Int) (len:Nat):Nat→Nat→List (Int×Int)
 |0,_=>[]
 | f + 1, p => match mbB lg len (len + 1 - p) p with
  | none => []
  | some (a, n) => ((a : Int), n) :: mbj lg len f (if n = 0 then a + 1 else a + n.toNat)
end Ev
theorem kfQ {lg:Nat→Int} {len:Nat} :∀ {f p a:Nat} {n:Int},Ev.mbB lg len f p=N (a,n)→p≤a∧a≤len∧0≤n
 |0,_,_,_,h=>by cases h
 |f+1,p,a,n,h=>by
  rw[Ev.mbB] at h;split at h
  .cases h
  split at h
  .injection h with h;injection h with af ao;omega
  .have:=kfQ h;omega
theorem kso {lg:Nat→Int} {len:Nat} :∀(f p:Nat),∀ r∈Ev.mbj lg len f p,(p:Int)≤r.1
 |0,_,r,h=>by cases h
 |f+1,p,r,h=>by
  rw[Ev.mbj] at h;split at h
  .cases h
  .rename_i a n bf;have af:=kfQ bf;rcases uc7.1 h with aG|bg
   .rw[aG];show (p:Int)≤(a:Int);omega
   .have ao:=kso f _ r bg;split at ao <;> omega
theorem ksl {lg:Nat→Int} {len:Nat} :∀(f p:Nat),kbo (Ev.mbj lg len f p)
 |0,_=>List.Pairwise.nil
 |f+1,p=>by
  rw[Ev.mbj];split
  .exact List.Pairwise.nil
  .rename_i a n bf;have af:=kfQ bf;refine uq0.2 ⟨fun r am=>?_,ksl f _⟩;have ao:=kso f _ r am;unfold Ev.mau;rw[ue8];refine .inl ?_;show (a:Int)<r.1;split at ao <;> omega
theorem ksn {lg:Nat→Int} {len:Nat} :∀(f p:Nat),(Ev.mbj lg len f p).length≤f
 |0,_=>nR
 |f+1,p=>by
  rw[Ev.mbj];split
  .exact ud1 _
  .rw[uc8];have:=ksn (lg:=lg) (len:=len) f;rename_i a n bf;exact Nat.succ_le_succ (this _)
def sgC:List (Int×Int)→List C
 |[]=>[]
 |x::l=>I U x.1::I U x.2::sgC l
theorem kfI:∀(l:List (Int×Int)),(sgC l).length=l.length*2
 |[]=>rfl
 |x::l=>by rw[sgC,uc8,uc8,kfI l,uc8];omega
theorem kdn:∀(l l':List (Int×Int)),sgC (l++l')=sgC l++sgC l'
 |[],_=>rfl
 |x::l,l'=>by rw[ui4,sgC,kdn l l'];rfl
theorem koH:∀ {l:List (Int×Int)} {k:Nat} {x:Int×Int},l[k]? =N x→(sgC l)[k*2]? =N (I U x.1)∧(sgC l)[k*2+1]? =N (I U x.2)
 |[],_,_,h=>by simp at h
 |aC::l,0,x,h=>by simp only[gB,ug0] at h;subst h;exact ⟨rfl,rfl⟩
 |aC::l,k+1,x,h=>by rw[gC] at h;have:=koH h;rw[sgC,show (k+1)*2=k*2+1+1 by omega];exact this
theorem kg5:∀(l:List (Int×Int)),∀ u∈sgC l,u.oneCell'=K
 |[],u,h=>by cases h
 |x::l,u,h=>by
  rw[sgC] at h;rcases uc7.1 h with h|h
  .rw[h];rfl
  rcases uc7.1 h with h|h
  .rw[h];rfl
  .exact kg5 l u h
def SpV (w:O) (F:Nat→Prop) (A:Option ae) (l:List (Int×Int)):Prop:=RdF w F 2 A l.length (sgC l)
def SpV.nil (w:O) (F:Nat→Prop) (A:Option ae):SpV w F A []:=⟨rfl,fun h=>absurd h (by simp)⟩
def SpV.keep {w w':O} {F G:Nat→Prop} {A:Option ae} {l:List (Int×Int)} (h:SpV w F A l) (aw:∀ i,F i→i<w.heap.size→w'.heap[i]? =w.heap[i]?) (al:w.heap.size≤w'.heap.size) (el:∀ i,F i→i<w.heap.size→G i):SpV w' G A l:=RdF.keep h aw al el
def SpV.below {w w':O} {F G:Nat→Prop} {A:Option ae} {l:List (Int×Int)} (h:SpV w F A l) (ak:H w w w') (el:∀ i,F i→G i):SpV w' G A l:=h.keep (fun i _ hi=>ak.block i hi) ak.size (fun i hi _=>el i hi)
def SpV.at_ {w:O} {F:Nat→Prop} {A:Option ae} {l:List (Int×Int)} (h:SpV w F A l) {k:Nat} {x:Int×Int} (aA:l[k]? =N x):∃ b o,A=N ⟨b,o,Z⟩∧F b∧b<w.heap.size∧w.cell? ⟨b,o+k*2,Z⟩=N (I U x.1)∧w.cell? ⟨b,o+k*2+1,Z⟩=N (I U x.2):=by
 have aw:k<l.length:=by
  rcases ug1 k l.length with af|af
  .exact af
  .rw[ud5 af] at aA;cases aA
 obtain ⟨b,o,e,hF,ak,an⟩:=h.2 oM;have al:=koH aA;exact ⟨b,o,e,hF,ak,an _ _ al.1,by rw[show o+k*2+1=o+(k*2+1) by omega];exact an _ _ al.2⟩
def SpV.take {w:O} {F:Nat→Prop} {A:Option ae} {l:List (Int×Int)} (h:SpV w F A l) (k:Nat):SpV w F A (l.take k):=by
 refine ⟨kfI _,fun ax=>?_⟩;rw[ub8] at ax;obtain ⟨b,o,e,hF,ak,an⟩:=h.2 oM;refine ⟨b,o,e,hF,ak,fun j u aI=>an j u ?_⟩
 have aS:j<(sgC (l.take k)).length:=by
  rcases ug1 j (sgC (l.take k)).length with af|af
  .exact af
  .rw[ud5 af] at aI;cases aI
 have aG:sgC l=sgC (l.take k)++sgC (l.drop k):=(by rw[←kdn,ug3]);rw[aG,ui1 aS];exact aI
def VaC (A:Option ae) (c:Nat) (v:Ev.Va):List C:=[I .i64 (kbe v),I U v.n,V v.b,Q ⟨v.t.toArray⟩,D A v.l.length c]
def VaV (w:O) (F:Nat→Prop) (v:Ev.Va) (cs:List C):Prop:=∃ A c,cs=VaC A c v∧v.l.length≤c∧SpV w F A v.l
def VaV.keep {w w':O} {F G:Nat→Prop} {v:Ev.Va} {cs:List C} (h:VaV w F v cs) (aw:∀ i,F i→i<w.heap.size→w'.heap[i]? =w.heap[i]?) (al:w.heap.size≤w'.heap.size) (el:∀ i,F i→i<w.heap.size→G i):VaV w' G v cs:=by obtain ⟨A,c,af,ao,av⟩:=h;exact ⟨A,c,af,ao,av.keep aw al el⟩
def VaV.below {w w':O} {F G:Nat→Prop} {v:Ev.Va} {cs:List C} (h:VaV w F v cs) (ak:H w w w') (el:∀ i,F i→G i):VaV w' G v cs:=h.keep (fun i _ hi=>ak.block i hi) ak.size (fun i hi _=>el i hi)
def ArV (w:O) (F:Nat→Prop) (g:Nat) (vs:List Ev.Va):Prop:=∀ k v,vs[k]? =N v→g<w.heap.size∧∃ A c,(∀ j u,(VaC A c v)[j]? =N u→w.cell? ⟨g,k*5+j,Z⟩=N u)∧v.l.length≤c∧SpV w F A v.l
def ArV.below {w w':O} {F G:Nat→Prop} {g:Nat} {vs:List Ev.Va} (h:ArV w F g vs) (ak:H w w w') (el:∀ i,F i→G i):ArV w' G g vs:=fun k v au=>by obtain ⟨hg,A,c,af,ao,av⟩:=h k v au;exact ⟨ua7 hg ak.size,A,c,fun j u aI=>(ak.cell (p:=⟨g,k*5+j,Z⟩) hg).trans (af j u aI),ao,av.below ak el⟩
def C5 (w:O) (g i:Nat) (A:Option ae) (c:Nat) (v:Ev.Va):Prop:=
 w.cell? ⟨g,i+1,Z⟩=N (I U v.n)∧w.cell? ⟨g,i+2,Z⟩=N (V v.b)∧w.cell? ⟨g,i+3,Z⟩=N (Q ⟨v.t.toArray⟩)∧w.cell? ⟨g,i+4,Z⟩=N (D A v.l.length c)
def ArV.c5 {w:O} {F:Nat→Prop} {g:Nat} {vs:List Ev.Va} (h:ArV w F g vs) (k:Nat) (aw:k<vs.length):∃ A c,C5 w g (k*5) A c (Ev.v0 vs k)∧(Ev.v0 vs k).l.length≤c∧SpV w F A (Ev.v0 vs k).l∧g<w.heap.size:=by have au:vs[k]? =N (Ev.v0 vs k):=(by unfold Ev.v0;rw[ub6,ua3 aw];rfl);obtain ⟨hg,A,c,af,ao,av⟩:=h k _ au;exact ⟨A,c,⟨af 1 _ rfl,af 2 _ rfl,af 3 _ rfl,af 4 _ rfl⟩,ao,av,hg⟩
def EvR (w':O) (F:Nat→Prop) (r:Ev.Re Ev.Va) (x:C):Prop:=match r with
 | .ok v=>∃ cs,VaV w' F v cs∧x=ag #[aa cs.toArray,I U 0,V K]
 | .error (N k)=>k≠0∧x=ag #[aa #[I .i64 0,I U 0,V J,Q ⟨#[]⟩,D Z 0 0],I U k,V K]
 | .error Z=>∃ A l c k n b t,x=ag #[aa #[I .i64 k,I U n,V b,Q t,D A l c],I U 0,V J]
def kao (w:O) (F:Nat→Prop) (r:Ev.Re Ev.Va) (e:Ending) (w':O):Prop:=H w w w'∧∃ x,e=ac x∧EvR w' (khO F w) r x
theorem EvR.keep {w w':O} {F G:Nat→Prop} {r:Ev.Re Ev.Va} {x:C} (h:EvR w F r x) (ak:H w w w') (el:∀ i,F i→G i):EvR w' G r x:=by
 unfold EvR at*
 match r,h with
 | .ok v,⟨cs,af,ao⟩=>exact ⟨cs,af.below ak el,ao⟩
 | .error (N k),h=>exact h
 | .error Z,h=>exact h
def EnvAt (w:O) (A:Option ae) (env:List (List UInt8×List UInt8)):Prop:=∀ i x,env[i]? =N x→∃ b o,A=N ⟨b,o,Z⟩∧b<w.heap.size∧w.cell? ⟨b,o+i*2,Z⟩=N (Q ⟨x.1.toArray⟩)∧w.cell? ⟨b,o+i*2+1,Z⟩=N (Q ⟨x.2.toArray⟩)
def EnvAt.below {w w':O} {A:Option ae} {env:List (List UInt8×List UInt8)} (h:EnvAt w A env) (ak:H w w w'):EnvAt w' A env:=fun i x aA=>by obtain ⟨b,o,e,bG,af,ao⟩:=h i x aA;exact ⟨b,o,e,ua7 bG ak.size,(ak.cell (p:=⟨b,o+i*2,Z⟩) bG).trans af,(ak.cell (p:=⟨b,o+i*2+1,Z⟩) bG).trans ao⟩
def SmV (v:Ev.Va):Prop:=∀ x∈v.l,0≤x.1∧x.1≤1152921504606846976∧0≤x.2∧x.2≤1152921504606846976
def SmL (l:List (Int×Int)):Prop:=∀ x∈l,0≤x.1∧x.1≤1152921504606846976∧0≤x.2∧x.2≤1152921504606846976
def SmR (r:Ev.Re Ev.Va):Prop:=∀ v,r= .ok v→SmV v
def kbC {e:Option Int} :SmR (.error e):=fun v h=>by cases h
def kfF {v:Ev.Va} (h:SmV v):SmR (.ok v):=fun u aI=>by injection aI with aI;subst aI;exact h
def kaL {p:Prop} [Decidable p] {a b:Ev.Re Ev.Va} (aE:p→SmR a) (ak:¬p→SmR b):SmR (if p then a else b):=by
 by_cases h:p
 .rw[ua1 h];exact aE h
 .rw[ua0 h];exact ak h
def keb {v:Ev.Va} (h:v.l=[]):SmV v:=fun x aA=>by rw[h] at aA;cases aA
def keK (n:Int):SmR (Ev.mah n):=kaL (fun _=>kbC) fun _=>kfF (keb rfl)
def keJ (X:Ev.Cx) (t:List UInt8):SmR (Ev.maG X t):=kaL (fun _=>kfF (keb rfl)) fun _=>kbC
def kor (b:Bool):SmR (.ok (.tru b)):=kfF (keb rfl)
def kea {l:List (Int×Int)} (h:SmL l):SmR (.ok (.sps l)):=kfF h
def kt5 (a b:Int):SmR (Ev.maQ a b):=kaL (fun _=>kbC) fun _=>keK _
def kt6 (X:Ev.Cx) (t:List UInt8) (a b:Int):SmR (Ev.cutV X t a b):=kaL (fun _=>keJ _ _) fun _=>kbC
def kt4 (X:Ev.Cx) (t:List UInt8) (n:Int):SmR (Ev.mby X t n):=kaL (fun _=>kbC) fun _=>kaL (fun _=>kbC) fun _=>kaL (fun _=>kbC) fun _=>kfF (keb rfl)
def kos {l:List (Int×Int)} (h:SmL l):SmR (Ev.ma8 l):=kaL (fun _=>kbC) fun _=>kea h
def ki2 {l:List (Int×Int)} (p:Int×Int→Bool) (h:SmL l):SmL (l.filter p):=fun x aA=>h x (List.mem_filter.1 aA).1
def kt8 {l:List (Int×Int)} (k:Nat) (h:SmL l):SmL (l.take k):=fun x aA=>h x (uk4 aA)
def kot {l:List (Int×Int)} (n:Int) (h:SmL l):SmR (Ev.ma3 l n):=kaL (fun _=>kbC) fun _=>kea (kt8 _ h)
def kt9 {o:List (Int×Int)} {x:Int×Int} (h:SmL o) (aA:SmL [x]):SmL (Ev.mbg o x):=by
 unfold Ev.mbg;by_cases bg:x∈o
 .rw[ua1 bg];exact h
 .rw[ua0 bg];intro aC bp;rcases uh2.1 bp with af|af
  .exact h aC ((List.takeWhile_sublist _).subset af)
  rcases uc7.1 af with ao|ao
  .exact aA aC (by rw[ao];exact List.mem_singleton_self _)
  .exact h aC ((uo2 _).subset ao)
theorem kou:∀ {a o:List (Int×Int)},SmL a→SmL o→SmL (a.foldl Ev.mbg o)
 |[],_,_,h=>h
 |x::a,o,aE,bf=>by rw[uj8];exact kou (fun aC bp=>aE aC (uf6 _ bp)) (kt9 bf fun aC bp=>aE aC (by rw[ug5.1 bp];exact uf3 ..))
def kt7 {a b:List (Int×Int)} (aE:SmL a) (ak:SmL b):SmL (Ev.mbx a b):=kou (fun x aA=>(uh2.1 aA).elim (aE x) (ak x)) fun x aA=>by cases aA
theorem kji:∀(t:List UInt8) (i f:Int),0≤f→f≤i→i+t.length≤1152921504606846976→SmL (Ev.maE i f t)
 |[],i,f,aD,af,ao=>fun x aA=>by rw[Ev.maE] at aA;rw[ug5.1 aA];simp only[uj7] at ao;dsimp only;omega
 |b::r,i,f,aD,af,ao=>by
  rw[uc8] at ao;rw[Ev.maE];by_cases ak:b=10
  .rw[ua1 ak];intro x aA;rcases uc7.1 aA with av|av
   .rw[av];dsimp only;omega
   .exact kji r (i+1) (i+1) oM oM oM x av
  .rw[ua0 ak];exact kji r (i+1) f aD oM oM
def kvk {t:List UInt8} (h:t.length≤1152921504606846976):SmL (Ev.maX t):=kji t 0 0 (ug9 _) (ug9 _) oM
theorem kfA {a:List Ev.Va} (h:∀ v∈a,SmV v) (k:Nat):SmV (Ev.v0 a k):=by
 unfold Ev.v0;rw[ub6]
 cases aw:a[k]? with
 |none=>exact keb rfl
 |some v=>exact h v (ua4 aw)
section
variable {X:Ev.Cx} (ax:X.n≤3000)
include ax
theorem kxa {op:List UInt8} {a:List Ev.Va} (aE:∀ v∈a,SmV v) (hg:∀ v∈a,kaD X v):SmR (Ev.more X op a):=by
 unfold Ev.more;have aD:=kfA aE 0;have af:=kfA aE 1;have aB:=kc0 (kct hg 0);refine kaL (fun _=>keJ _ _) fun _=>kaL (fun _=>kt6 _ _ _ _) fun _=>kaL (fun _=>kaL (fun _=>kbC) fun _=>?_) fun _=>kaL (fun _=>kt4 _ _ _) fun _=>kaL (fun _=>kaL (fun _=>kbC) fun _=>?_) fun _=>?_
 .split
  .exact keJ _ _
  .exact kbC
 .split
  .exact kaL (fun _=>keJ _ _) fun _=>kbC
  .exact kbC
 refine kaL (fun _=>kos (kvk oM)) fun _=>kaL (fun _=>kaL (fun hi=>kea fun x aA=>?_) fun _=>kbC) fun _=>kaL (fun _=>kea (ki2 _ aD)) fun _=>kaL (fun _=>kaL (fun _=>kbC) fun _=>kea (ki2 _ aD)) fun _=>kaL (fun _=>kos (kt7 aD af)) fun _=>kaL (fun _=>kea (ki2 _ aD)) fun _=>kot _ aD;rw[ug5.1 aA];unfold Ev.inV Oz.mab at hi;rw[ue8] at hi;dsimp only;omega
theorem kBJ {op:List UInt8} {a:List Ev.Va} (aE:∀ v∈a,SmV v) (hg:∀ v∈a,kaD X v):SmR (Ev.call X op a):=by unfold Ev.call Ev.mbl;(iterate 8 refine kaL (fun _=>keK _) fun _=>?_);refine kaL (fun _=>kt5 _ _) fun _=>?_;(iterate 7 refine kaL (fun _=>kor _) fun _=>?_);exact kxa ax aE hg
theorem kCw (hF:∀ p t l,X.F p t= .ok l→SmL l) {s:St} {a:List Ev.Va} (aE:∀ v∈a,SmV v) (hg:∀ v∈a,kaD X v):SmR (Ev.app X s a):=by
 have ak:∀ {f:List (Int×Int)→Ev.Re Ev.Va},(∀ l,SmL l→SmR (f l))→SmR ((X.F s.text (Ev.v0 a 0).t).bind f):=fun {f} b5=>by
  cases am:X.F s.text (Ev.v0 a 0).t with
  |error e=>exact kbC
  |ok l=>exact b5 l (hF _ _ _ am)
 unfold Ev.app Ev.mbl;refine kaL (fun _=>keK _) fun _=>kaL (fun _=>keJ _ _) fun _=>kaL (fun _=>?_) fun _=>?_
 .cases X.env.find? fun x=>decide (x.1=s.text) with
  |some x=>exact keJ _ _
  |none=>exact kbC
 refine kaL (fun _=>ak fun l _=>keK _) fun _=>kaL (fun _=>ak fun l _=>kor _) fun _=>kaL (fun _=>ak fun l az=>kea az) fun _=>kaL (fun _=>ak fun l _=>keK _) fun _=>kaL (fun _=>ak fun l az=>kot _ az) fun _=>kaL (fun _=>?_) fun _=>kBJ ax aE hg
 cases Ev.cutV X (Ev.v0 a 0).t (Ev.v0 a 1).n (Ev.v0 a 2).n with
 |error e=>exact kbC
 |ok v=>exact keK _
end
def kh4 (h:P:=by clear am;go_enter func195,ntmps195;go_wp2_with fail;go_ret;exact ⟨by rw[bq.o];rfl,ub5 _ _⟩):=h
def klg (h:P:=by exact ⟨aV.o _,_,rfl,by rw[bq.o];exact ⟨_,⟨Z,0,rfl,nR,SpV.nil _ _ _⟩,rfl⟩⟩):=h
def knr (h:P:=by go_enter func79,ntmps79;go_wp2_with fail;refine ub2 (v:=ag #[aa #[I .i64 0,I U 0,V J,Q ⟨#[]⟩,D Z 0 0],I U 2,V K]) (by simp[results,results79,go_sem]) rfl ?_;exact ⟨aV.o _,_,rfl,by rw[bq.o];exact ⟨dC,rfl⟩⟩):=h
def X57 (env:List (List UInt8×List UInt8)) (F:Ev.Fi):Ev.Cx:=⟨3000,Z,F,env⟩
def kcS (k:Int) (aw:k≠0) (F:Nat→Prop) (w:O):L prog 81 #[I .i64 k] w (kao w F (.error (N k))):=by have aV:=hD (fun o:Obj=>kat w o);have ei:=hD aw;clear aw;go_enter func81,ntmps81;go_wp2_with fail;refine ub2 (v:=ag #[aa #[I .i64 0,I U 0,V J,Q ⟨#[]⟩,D Z 0 0],I U k,V K]) (by simp[results,results81,go_sem]) rfl ?_;exact ⟨aV.o _,_,rfl,ei.o,rfl⟩
def kcy (n:Int) (F:Nat→Prop) (w:O):L prog 79 #[I .i64 n] w (kao w F (Ev.mah n)):=by
 have aV:=hD (fun o:Obj=>kat w o);by_cases af:n< -1152921504606846976
 .have bq:=hD (show Ev.mah n= .error (N 2) from ua1 (.inl af));exact knr
 by_cases ao:1152921504606846976<n
 .have bq:=hD (show Ev.mah n= .error (N 2) from ua1 (.inr ao));exact knr
 .have bq:=hD (show Ev.mah n= .ok (.num n) from ua0 (fun e=>e.elim af ao));go_enter func79,ntmps79;go_wp2_with fail;refine ub2 (v:=ag #[aa #[I .i64 1,I U n,V J,Q ⟨#[]⟩,D Z 0 0],I U 0,V K]) (by simp[results,results79,go_sem]) rfl ?_;exact klg
def kdN (b:Bool) (F:Nat→Prop) (w:O):L prog 127 #[V b] w (kao w F (.ok (.tru b))):=by have aV:=hD (fun o:Obj=>kat w o);go_enter func127,ntmps127;go_wp2_with fail;refine ub2 (v:=ag #[aa #[I .i64 2,I U 0,V b,Q ⟨#[]⟩,D Z 0 0],I U 0,V K]) (by simp[results,results127,go_sem]) rfl ?_;exact ⟨aV.o _,_,rfl,_,⟨Z,0,rfl,nR,SpV.nil _ _ _⟩,rfl⟩
def kdQ (A:Option ae) (l:List (Int×Int)) (c:Nat) (an:l.length≤c) (F:Nat→Prop) (w:O) (h:SpV w F A l):L prog 128 #[D A l.length c] w (kao w F (.ok (.sps l))):=by obtain ⟨aV,b7,a8⟩:=hd3 (fun o:Obj=>kat w o) (fun o:Obj=>h.below (kat w o) (G:=khO F w) (fun _ hi=> .inl hi)) an;clear h an;go_enter func128,ntmps128;go_wp2_with fail;refine ub2 (v:=ag #[aa #[I .i64 4,I U 0,V J,Q ⟨#[]⟩,D A l.length c],I U 0,V K]) (by simp[results,results128,go_sem]) rfl ?_;exact ⟨aV.o _,_,rfl,_,⟨A,c,rfl,a8.o,b7.o _⟩,rfl⟩
def kd8 (t:List UInt8) (env:List (List UInt8×List UInt8)) (Fi:Ev.Fi) (F:Nat→Prop) (w:O) (aB:t.length≤9223372036854775807):L prog 80 #[Q ⟨t.toArray⟩] w (kao w F (Ev.maG (X57 env Fi) t)):=by
 have aV:=hD (fun o:Obj=>kat w o);have dN:=bZ t;by_cases h:t.length≤3000
 .have fg:decide ((t.length:Int)≤3000)=K:=ub3 oM;have bq:=hD (show Ev.maG (X57 env Fi) t= .ok (.txt t) from ua1 h);go_enter func80,ntmps80;go_wp2_with fail;refine ub2 (v:=ag #[aa #[I .i64 3,I U 0,V J,Q ⟨t.toArray⟩,D Z 0 0],I U 0,V K]) (by simp[results,results80,go_sem]) rfl ?_;exact klg
 .have fg:decide ((t.length:Int)≤3000)=J:=ua5 oM;have bq:=hD (show Ev.maG (X57 env Fi) t= .error Z from ua0 h);go_enter func80,ntmps80;go_wp2_with fail;refine ub2 (v:=ag #[aa #[I .i64 3,I U 0,V J,Q ⟨t.toArray⟩,D Z 0 0],I U 0,V J]) (by simp[results,results80,go_sem]) rfl ?_;exact ⟨aV.o _,_,rfl,by rw[bq.o];exact ⟨_,_,_,_,_,_,_,rfl⟩⟩
def knR (n:Int) (w:O):L prog 195 #[I .i64 n] w fun e w'=>e=ac (V (decide (0≤n∧n≤1152921504606846976)))∧H w w w':=by
 obtain ⟨r,am⟩:=xE (decide (0≤n∧n≤1152921504606846976));rw[←am];by_cases af:0≤n
 .by_cases ao:n≤1152921504606846976
  .have aL:decide (0≤n)=K:=ub3 af;have bJ:decide (n≤1152921504606846976)=K:=ub3 ao;have bq:=hD (am.trans (ub3 ⟨af,ao⟩));exact kh4
  .have aL:decide (0≤n)=K:=ub3 af;have bJ:decide (n≤1152921504606846976)=J:=ua5 ao;have bq:=hD (am.trans (ua5 fun h=>ao h.2));exact kh4
 .have aL:decide (0≤n)=J:=ua5 af;have bq:=hD (am.trans (ua5 fun h=>af h.1));exact kh4
def keB (h:P:=by go_wp2_with fail;refine a8.o.mono ?_;rintro cG c7 ⟨ck,j3,rfl,cF⟩;obtain ⟨cy,cv,cr,t9,ci,bX,c9,dM,ff,rfl⟩:=cF.form;first|guard_hyp S6;(first|guard_hyp Tv;have dm:=dv.o.below ck dv.o.lt;obtain ⟨z0,ca,cI,z3,z4,k0,k1,bS,fp,gy⟩:=kak dm;have cW:=hD (kb1 dm (I U cy) (I U cv) (V cr) (Q t9) (D ci bX c9));have di:=hD (kaR (F:=F) a7.o oM ck cF (fun _ h=>h.elim) (I U cy) (I U cv) (V cr) (Q t9) (D ci bX c9));clear ck cF dm;go_wp2_with fail;obtain ⟨bi,aW,bc,br,bL, -⟩:=kak cW.o;(first|guard_hyp S7;refine ub2 (v:=ag #[aa #[I .i64 cy,I U cv,V cr,Q t9,D ci bX c9],I U dM,V ff]) (by simp[results,results83,go_sem,bi,aW,bc,br,bL]) rfl ?_;exact di.o|guard_hyp L4;refine ub2 (v:=ag #[aa #[I .i64 cy,I U cv,V cr,Q t9,D ci bX c9],I U dM,V ff]) (by simp[results,results45,go_sem,bi,aW,bc,br,bL]) rfl ?_;exact di.o|refine ub2 (v:=ag #[aa #[I .i64 cy,I U cv,V cr,Q t9,D ci bX c9],I U dM,V ff]) (by simp[results,results130,go_sem,bi,aW,bc,br,bL]) rfl ?_;exact di.o)|guard_hyp Ua;have dm:=ih.o.below ck ih.o.lt;exact kbp|guard_hyp TW;have dm:=fX.o.below ck fX.o.lt;have S0:=();exact kbp|guard_hyp T0;have dm:=kj.o.below ck kj.o.lt;have S1:=();exact kbp|guard_hyp T2;have dm:=ri.o.below ck ri.o.lt;have S2:=();exact kbp|have dm:=ri.o.below ck ri.o.lt;have S3:=();exact kbp)|guard_hyp Tq;have dm:=jq.o.below ck jq.o.lt;have S4:=();exact kbp|guard_hyp Lt;have dm:=jq.o.below ck jq.o.lt;have S5:=();exact kbp|have dm:=ih.o.below ck ih.o.lt;exact kbp):=h
def kd3 (h:P:=by have S6:=();exact keB):=h
theorem EvR.form {w:O} {F:Nat→Prop} {r:Ev.Re Ev.Va} {x:C} (h:EvR w F r x):∃ k n b t A l c e X9,x=ag #[aa #[I .i64 k,I U n,V b,Q t,D A l c],I U e,V X9]:=by
 unfold EvR at h
 match r,h with
 | .ok v,⟨cs,⟨A,c,af,_⟩,ao⟩=>exact ⟨_,_,_,_,_,_,_,_,_,by rw[ao,af];try rfl⟩
 | .error (N k),h=>exact ⟨_,_,_,_,_,_,_,_,_,h.2⟩
 | .error Z,⟨A,l,c,k,n,b,t,h⟩=>exact ⟨_,_,_,_,_,_,_,_,_,h⟩
theorem EvR.mb5 {w w':O} {F G:Nat→Prop} {r:Ev.Re Ev.Va} {x:C} (h:EvR w F r x) (aw:∀ i,F i→i<w.heap.size→w'.heap[i]? =w.heap[i]?) (al:w.heap.size≤w'.heap.size) (el:∀ i,F i→i<w.heap.size→G i):EvR w' G r x:=by
 unfold EvR at*
 match r,h with
 | .ok v,⟨cs,af,ao⟩=>exact ⟨cs,af.keep aw al el,ao⟩
 | .error (N k),h=>exact h
 | .error Z,h=>exact h
def kb1 {w:O} {g:Nat} {t:ah} {a b c d e:C} (h:Blk w g t #[a,b,c,d,e]) (aT aU aX a2 d7:C):
 Blk (((((w.setCell ⟨g,0,Z⟩ aT).setCell ⟨g,1,Z⟩ aU).setCell ⟨g,2,Z⟩ aX).setCell ⟨g,3,Z⟩ a2).setCell ⟨g,4,Z⟩ d7) g t #[aT,aU,aX,a2,d7]:=by
 have hd:=Blk.mac (Blk.mac (Blk.mac (Blk.mac (Blk.mac h 0 aT) 1 aU) 2 aX) 3 a2) 4 d7;simpa using hd
def ke3 (w:O) (g i:Nat) (hi:i≠g) (aT aU aX a2 d7:C):(((((w.setCell ⟨g,0,Z⟩ aT).setCell ⟨g,1,Z⟩ aU).setCell ⟨g,2,Z⟩ aX).setCell ⟨g,3,Z⟩ a2).setCell ⟨g,4,Z⟩ d7).heap[i]? =w.heap[i]? :=by rw[ud7 _ _ _ _ hi,ud7 _ _ _ _ hi,ud7 _ _ _ _ hi,ud7 _ _ _ _ hi,ud7 _ _ _ _ hi]
def kdc {w aq:O} {g B:Nat} (h:H B w aq) (hg:B≤g) (a b c d e:C):H B w (((((aq.setCell ⟨g,0,Z⟩ a).setCell ⟨g,1,Z⟩ b).setCell ⟨g,2,Z⟩ c).setCell ⟨g,3,Z⟩ d).setCell ⟨g,4,Z⟩ e):=
 ((((h.setCell (p:=⟨g,0,Z⟩) hg a).setCell (p:=⟨g,1,Z⟩) hg b).setCell (p:=⟨g,2,Z⟩) hg c).setCell (p:=⟨g,3,Z⟩) hg d).setCell (p:=⟨g,4,Z⟩) hg e
def kaR {w W aK:O} {F F0:Nat→Prop} {r:Ev.Re Ev.Va} {x:C} (b0:H w w W) (dH:w.heap.size<W.heap.size) (ak:H W W aK) (am:EvR aK (khO F0 W) r x) (hF:∀ i,F0 i→i≠w.heap.size∧(F i∨w.heap.size≤i)) (aT aU aX a2 d7:C):
 kao w F r (ac x) (((((aK.setCell ⟨w,0,Z⟩ aT).setCell ⟨w,1,Z⟩ aU).setCell ⟨w,2,Z⟩ aX).setCell ⟨w,3,Z⟩ a2).setCell ⟨w,4,Z⟩ d7):=by
 refine ⟨kdc (b0.trans (ak.mono b0.size)) (nR) _ _ _ _ _,x,rfl,am.mb5 (fun i hi _=>ke3 _ _ _ ?_ _ _ _ _ _) (by simp[World.setCell]) (fun i hi _=>?_)⟩
 .rcases hi with h|h
  .exact (hF i h).1
  .intro e;omega
 .rcases hi with h|h
  .exact (hF i h).2
  .exact .inr oM
def kdB {w W:O} {F F0:Nat→Prop} {r:Ev.Re Ev.Va} {x:C} (b0:H w w W) (am:EvR W F0 r x) (hF:∀ i,F0 i→i≠w.heap.size∧(F i∨w.heap.size≤i)) (aT aU aX a2 d7:C):
  kao w F r (ac x) (((((W.setCell ⟨w, 0, Z⟩ aT).setCell ⟨w, 1, Z⟩ aU).setCell ⟨w, 2, Z⟩ aX).setCell ⟨w, 3, Z⟩ a2).setCell ⟨w, 4, Z⟩ d7) :=
 ⟨kdc b0 (nR) _ _ _ _ _, x, rfl, am.mb5 (fun i hi _ => ke3 _ _ _ (hF i hi).1 _ _ _ _ _) (by simp [World.setCell]) (fun i hi _ => (hF i hi).2)⟩
def kk9 (h:P:=by clear am;go_enter func164,ntmps164;go_wp2_with fail;refine dB.o.mono ?_;rintro cG aF ⟨rfl,bs⟩;have bo:=hD bs;clear bs;exact kgw):=h
def kgy (h:P:=by go_enter func130,ntmps130;go_upto_region 1 with (fail);rw[←cd.o];clear cd;exact kgD):=h
def klf (h:P:=by simp only[Bool.true_and,Bool.false_and,ut7,uk9] at a8;have S7:=();exact kgD):=h
def kmF (h:P:=by go_upto_region 24 with (fail);refine ue4 ?_;refine ud6 (S:=(fun w'=>w'.cell? ⟨g,11,Z⟩=N (I U dP))) kR ((b7.o _ a7.o.drew).2.2) (fun ay=>?_);refine tk 0 ay ?_;refine tk 1 ay ?_;refine tk 2 ay ?_;refine tk 3 ay ?_;refine tkO 4 (fun aR aJ=>?_);go_simp;refine aJ.out _ _ ay ?_;clear aJ aR;(try simp only[Act.put,ub4,ua8,ua9,gE,gF,gG]);refine tk 5 ay ?_;first|guard_hyp Tj;refine ts 6 ay ?_;refine ts 7 ay ?_;refine ts 8 ay ?_;refine ts 9 ay ?_;refine ts 10 ay ?_;refine ts 11 ay ?_;refine ts 12 ay ?_;exact kmV|refine tk 6 ay ?_;refine tk 7 ay ?_;refine tk 8 ay ?_;refine tk 9 ay ?_;refine tk 10 ay ?_;refine tk 11 ay ?_;refine tkO 12 (fun aR aJ=>?_);go_simp;refine aJ.out _ _ ay ?_;clear aJ aR;(try simp only[Act.put,ub4,ua8,ua9,gE,gF,gG]);exact kmV):=h
def kmD (h:P:=by refine ue4 ?_;refine ud6 (S:=(fun w'=>w'.cell? ⟨g,1,Z⟩=N (I U df)∧w'.cell? ⟨g,3,Z⟩=N (Q ⟨t0.toArray⟩)∧w'.cell? ⟨g,6,Z⟩=N (I U bD)∧w'.cell? ⟨g,8,Z⟩=N (Q ⟨bb.toArray⟩))) kR (b7.o _ a7.o.drew) (fun ay=>?_);first|guard_hyp Te;have S8:=();exact kmW|exact kmW):=h
def kis (h:P:=by go_upto_region 25 with (fail);refine ue4 ?_;refine ud6 (S:=(fun w'=>w'.cell? ⟨g,1,Z⟩=N (I U df)∧w'.cell? ⟨g,2,Z⟩=N (V dt)∧w'.cell? ⟨g,3,Z⟩=N (Q ⟨t0.toArray⟩)∧w'.cell? ⟨g,6,Z⟩=N (I U bD)∧w'.cell? ⟨g,7,Z⟩=N (V cL)∧w'.cell? ⟨g,8,Z⟩=N (Q ⟨bb.toArray⟩))) kR (b7.o _ a7.o.drew) (fun ay=>?_);have S9:=();exact kfs):=h
def kmW (h:P:=by have Ta:=();exact kfs):=h
def kmV (h:P:=by refine tk 13 ay ?_;refine tk 14 ay ?_;refine ts 15 ay ?_;refine ts 16 ay ?_;refine ts 17 ay ?_;refine ts 18 ay ?_;refine ts 19 ay ?_;refine ts 20 ay ?_;refine ts 21 ay ?_;refine ts 22 ay ?_;refine ts 23 ay ?_;refine ts 24 ay ?_;refine ts 25 ay ?_;refine ts 26 ay ?_;refine ts 27 ay ?_;refine ts 28 ay ?_;refine ts 29 ay ?_;refine ts 30 ay ?_;refine ts 31 ay ?_;refine ts 32 ay ?_;refine ts 33 ay ?_;refine ts 34 ay ?_;refine tk 35 ay ?_;refine ug7 kR ?_ _;refine uf0 ?_;(try simp only[Act.put,ub4,ua8,ua9,gE,gF,gG]);clear ay s0 s1 s2 pC;have a8:=hD (kcS 1 dC (fun _=>False) aq.drew);rw[←bK] at a8;clear bK;go_wp2_with fail;refine a8.o.mono ?_;rintro cG c7 ⟨ck,j3,rfl,cF⟩;obtain ⟨cy,cv,cr,t9,ci,bX,c9,dM,ff,rfl⟩:=cF.form;have dm:=l7.o.below ck l7.o.lt;have Tb:=();exact kbp):=h
def kcR (h:P:=by
 obtain ⟨aq,aQ⟩:=xE (w.alloc (y #[I .i64 0,I U 0,V J,Q ⟨#[]⟩,D Z 0 0] 40));have j0:=bM aQ;have c4:=bA aQ;have fy:=wS aQ;obtain ⟨dv,a7,cd⟩:=hd3 j0 c4 aQ;clear j0 c4 aQ
 first
 |guard_hyp Tz;have jb:w.heap.size<aq.heap.size:=oM;by_cases aD:a=0
  .subst aD;rw[ua0 (fun h=>h.1 rfl),ut9] at bK;have a8:=hD (kcy 0 (fun _=>False) aq);rw[←bK] at a8;clear bK aE ak;exact kgy
  by_cases af:b=0
  .subst af;rw[ua0 (fun h=>h.2.1 rfl),Int.mul_zero] at bK;have a8:=hD (kcy 0 (fun _=>False) aq);rw[←bK] at a8;have bw:(a==0)=J:=ua2.2 aD;have aL:(a != 0)=K:=uk2.2 aD;clear bK aE ak;exact kgy
  have bw:(a==0)=J:=ua2.2 aD;have aL:(a != 0)=K:=uk2.2 aD;have bJ:(b==0)=J:=ua2.2 af;have dn:(b != 0)=K:=uk2.2 af;have DV:=uc5 (-a) oM;have rX:=uc5 (-b) oM;obtain ⟨x,aA⟩:∃ x,max a (-a)=x:=⟨_,rfl⟩;obtain ⟨aC,bp⟩:∃ aC,max b (-b)=aC:=⟨_,rfl⟩;rw[aA,bp] at bK;have kH:0<x:=oM;have Gy:a=x∨a= -x:=oM;have Gz:b=aC∨b= -aC:=oM;have Ls:0<aC:=oM;have bj:=kpf kH;have az:=@kph x aC kH;have h6:¬(x=0):=oM;obtain ⟨d,hd⟩:=xE ((1152921504606846976:Int).tdiv x);rw[←hd] at bj az;have fn:=uc5 d oM;have zM:(1152921504606846976:Int).tdiv x=d:=hd.symm;by_cases ao:Oz.mab / x<aC
  .rw[ua1 ⟨aD,af,ao⟩] at bK;have a8:=hD (kcS 2 dC (fun _=>False) aq);rw[←bK] at a8;have av:=az.2 ao;clear bK aE ak hd az ao bj Gy Gz kH Ls;exact kgy
  .rw[ua0 (fun h=>ao h.2.2)] at bK;have av:¬d<aC:=fun h=>ao (az.1 h);have bg:=kpg kH ao;have hw:0≤aC*x:=uq1 oM oM
   have hz:a*b=aC*x∨a*b= -(aC*x):=by
    rcases Gy with h|h <;> rcases Gz with fg|fg <;> rw[h,fg]
    .exact .inl (uo5 _ _)
    .exact .inr (by rw[Int.mul_neg,uo5])
    .exact .inr (by rw[Int.neg_mul,uo5])
    .exact .inl (by rw[Int.neg_mul_neg,uo5])
   have bW:=uc5 (a*b) oM;have a8:=hD (kcy (a*b) (fun _=>False) aq);rw[←bK] at a8;clear bK aE ak hd az ao bj Gy Gz kH Ls bg hw hz;exact kgy
 |guard_hyp TM;have b7:Hz (∀ W,H w w W→W.cell? ⟨g,1,Z⟩=N (I U df)∧W.cell? ⟨g,2,Z⟩=N (V dt)∧W.cell? ⟨g,3,Z⟩=N (Q ⟨t0.toArray⟩)∧W.cell? ⟨g,6,Z⟩=N (I U bD)∧W.cell? ⟨g,7,Z⟩=N (V cL)∧W.cell? ⟨g,8,Z⟩=N (Q ⟨bb.toArray⟩)):=hD (fun W ak=>⟨(ak.cell (p:=⟨g,1,Z⟩) hg).trans aD,(ak.cell (p:=⟨g,2,Z⟩) hg).trans af,(ak.cell (p:=⟨g,3,Z⟩) hg).trans ao,(ak.cell (p:=⟨g,6,Z⟩) hg).trans av,(ak.cell (p:=⟨g,7,Z⟩) hg).trans bk,(ak.cell (p:=⟨g,8,Z⟩) hg).trans cb⟩);have gh:(0:Int)<(bt:Int):=oM;have hw:0<bt:=oM;have e2:(1:Int)<(bt:Int):=oM;have oL:1<bt:=oM;obtain ⟨es,bK⟩:=xE (decide (df=bD∧dt=cL∧t0=bb));rw[←bK];have jb:w.heap.size<aq.heap.size:=oM;have fv:=hD (fun b W=>kdN b (fun _=>False) W);clear aD af ao av bk cb cj;go_enter func83,ntmps83;go_upto_region 1 with (fail);rw[←cd.o];clear cd;by_cases bw:df=bD
  .have be:(df==bD)=K:=(by rw[bw];exact um2 _);by_cases aL:dt=cL
   .have b8:(dt==cL)=K:=(by rw[aL];exact um2 _);obtain ⟨z8,Aa⟩:∃ b,(t0==bb)=b:=⟨_,rfl⟩
    have aH:es=z8:=by
     rw[bK,←Aa];by_cases bJ:t0=bb
     .rw[ub3 ⟨bw,aL,bJ⟩,bJ];exact (um2 _).symm
     .rw[ua5 (fun h=>bJ h.2.2)];exact (ua2.2 bJ).symm
    clear bK bw aL;subst aH;have Tc:=();exact kis
   .have b8:(dt==cL)=J:=ua2.2 aL;have aH:es=J:=(by rw[bK];exact ua5 (fun h=>aL h.2.1));clear bK bw aL;obtain rfl:es=J:=aH;have Td:=();exact kis
  .have be:(df==bD)=J:=ua2.2 bw;have aH:es=J:=(by rw[bK];exact ua5 (fun h=>bw h.1));clear bK bw;obtain rfl:es=J:=aH;exact kis
 |guard_hyp TN;have b7:Hz (∀ W,H w w W→W.cell? ⟨g,1,Z⟩=N (I U df)∧W.cell? ⟨g,3,Z⟩=N (Q ⟨t0.toArray⟩)∧W.cell? ⟨g,6,Z⟩=N (I U bD)∧W.cell? ⟨g,8,Z⟩=N (Q ⟨bb.toArray⟩)):=hD (fun W ak=>⟨(ak.cell (p:=⟨g,1,Z⟩) hg).trans aD,(ak.cell (p:=⟨g,3,Z⟩) hg).trans af,(ak.cell (p:=⟨g,6,Z⟩) hg).trans ao,(ak.cell (p:=⟨g,8,Z⟩) hg).trans av⟩);have gh:(0:Int)<(bt:Int):=oM;have hw:0<bt:=oM;have e2:(1:Int)<(bt:Int):=oM;have oL:1<bt:=oM;(first|guard_hyp t2;obtain ⟨es,bK⟩:=xE ((decide (df≤bD)&&!Ev.ltV bb t0))|(obtain ⟨es,bK⟩:=xE ((decide (df<bD)||Ev.ltV t0 bb))));rw[←bK];have fv:=hD (fun b W=>kdN b (fun _=>False) W);clear aD af ao av cj;go_enter func83,ntmps83;go_upto_region 1 with (fail);rw[←cd.o];clear cd;first|guard_hyp t2;by_cases bw:df≤bD|by_cases bw:df<bD
  ·(first|guard_hyp t2;have be:decide (df≤bD)=K:=ub3 bw;obtain ⟨z8,Aa⟩:∃ b,(Op.bytesLess t0 bb||t0==bb)=b:=⟨_,rfl⟩;have aH:es=z8:=by rw[bK,be,←Aa,kxy];try rfl|have be:decide (df<bD)=K:=ub3 bw;have aH:es=K:=by rw[bK,be];try rfl);clear bK;(first|guard_hyp t2;subst aH;have a8:=hD (fv.o es);go_upto_region 30 with (fail)|obtain rfl:es=K:=aH;have a8:=hD (fv.o K);go_upto_region 28 with (fail));have Te:=();exact kmD
  ·(first|guard_hyp t2;have be:decide (df≤bD)=J:=ua5 bw;have aH:es=J:=by rw[bK,be];try rfl|have be:decide (df<bD)=J:=ua5 bw;obtain ⟨z8,Aa⟩:∃ b,Op.bytesLess t0 bb=b:=⟨_,rfl⟩;have aH:es=z8:=by rw[bK,be,←Aa,kr3];try rfl);clear bK;(first|guard_hyp t2;obtain rfl:es=J:=aH;have a8:=hD (fv.o J);go_upto_region 30 with (fail)|subst aH;have a8:=hD (fv.o es);go_upto_region 28 with (fail));exact kmD
 |guard_hyp TO;have b7:Hz (∀ W,H w w W→W.cell? ⟨g,1,Z⟩=N (I U df)∧W.cell? ⟨g,6,Z⟩=N (I U bD)):=hD (fun W ak=>⟨(ak.cell (p:=⟨g,1,Z⟩) hg).trans aD,(ak.cell (p:=⟨g,6,Z⟩) hg).trans af⟩);have gh:(0:Int)<(bt:Int):=oM;have hw:0<bt:=oM;have e2:(1:Int)<(bt:Int):=oM;have oL:1<bt:=oM;(first|guard_hyp LJ;have fn:=uc5 (df+bD) oM;have a8:=hD (fun W=>kcy (df+bD) (fun _=>False) W)|guard_hyp LI;have a8:=hD (fun W=>kcy (max df bD) (fun _=>False) W)|guard_hyp LH;have a8:=hD (fun W=>kcy (min df bD) (fun _=>False) W)|guard_hyp LK;have fn:=uc5 (df-bD) oM;have a8:=hD (fun W=>kcy (df-bD) (fun _=>False) W)|have a8:=hD (fun W=>kvF df bD r0 d5 (fun _=>False) W));clear r0 d5;clear aD af cj;go_enter func83,ntmps83;go_upto_region 1 with (fail);rw[←cd.o];clear cd;(first|guard_hyp LJ;go_upto_region 18 with (fail)|guard_hyp LI;go_upto_region 16 with (fail)|guard_hyp LH;go_upto_region 14 with (fail)|guard_hyp LK;go_upto_region 20 with (fail)|go_upto_region 22 with (fail));refine ue4 ?_;refine ud6 (S:=(fun w'=>w'.cell? ⟨g,1,Z⟩=N (I U df)∧w'.cell? ⟨g,6,Z⟩=N (I U bD))) kR (b7.o _ a7.o.drew) (fun ay=>?_);refine tk 0 ay ?_;refine tk 1 ay ?_;refine tk 2 ay ?_;refine tk 3 ay ?_;refine tk 4 ay ?_;refine tk 5 ay ?_;refine tk 6 ay ?_;refine tk 7 ay ?_;refine tkO 8 (fun aR aJ=>?_);go_simp;(first|guard_hyp Ag;go_at_call 130|refine aJ.out _ _ ay ?_;clear aJ aR;(try simp only[Act.put,gE,gF,gG]);refine tkO 9 (fun aR aJ=>?_);go_simp;go_at_call 79);refine (a8.o _).mono ?_;rintro cG c7 ⟨ck,j3,rfl,cF⟩;obtain ⟨cy,cv,cr,t9,ci,bX,c9,dM,ff,rfl⟩:=cF.form;have dG:H aq aq c7:=(ub5 _ aq).drew.trans ck;have dm:=dv.o.below dG dv.o.lt;have Tf:=();exact kbp
 |guard_hyp TP;have b7:Hz (∀ W,H w w W→W.cell? ⟨g,2,Z⟩=N (V dt)∧W.cell? ⟨g,7,Z⟩=N (V cL)):=hD (fun W ak=>⟨(ak.cell (p:=⟨g,2,Z⟩) hg).trans aD,(ak.cell (p:=⟨g,7,Z⟩) hg).trans af⟩);have gh:(0:Int)<(bt:Int):=oM;have hw:0<bt:=oM;have e2:(1:Int)<(bt:Int):=oM;have oL:1<bt:=oM;have jb:w.heap.size<aq.heap.size:=oM;clear aD af cj;go_enter func83,ntmps83;go_upto_region 1 with (fail);rw[←cd.o];clear cd;obtain ⟨s0,s1⟩:=b7.o aq a7.o
  cases dt with
  |true=>(first|guard_hyp LL;have a8:=hD (kdN (K&&cL) (fun _=>False) aq)|have a8:=hD (kdN (K||cL) (fun _=>False) aq));exact klf
  |false=>(first|guard_hyp LL;have a8:=hD (kdN (J&&cL) (fun _=>False) aq)|have a8:=hD (kdN (J||cL) (fun _=>False) aq));exact klf
 |guard_hyp TQ;(first|guard_hyp Ha;have a8:=hD (an aq a7.o);have b4:=hD (fun i (hi:F i)=>(⟨by have:=hF i hi;omega, .inl hi⟩:i≠w.heap.size∧(F i∨w.heap.size≤i)));have be:(op== [108,101,110])=J:=ua2.2 (ch _ dC);have b8:(op== [108,105,110,101,115])=J:=ua2.2 (ch _ dC);have cn:(op== [115,105,122,101])=J:=ua2.2 (ch _ dC);have c0:(op== [99,111,109,109,111,110])=J:=ua2.2 (ch _ dC);have c3:(op== [109,105,110])=J:=ua2.2 (ch _ dC);have jA:(op== [109,97,120])=J:=ua2.2 (ch _ dC);have jc:(op== [43])=J:=ua2.2 (ch _ dC);have mT:(op== [45])=J:=ua2.2 (ch _ dC);have CR:(op== [42])=J:=ua2.2 (ch _ dC);have GA:(op== [61,61])=J:=ua2.2 (ch _ dC);have x10:(op== [33,61])=J:=ua2.2 (ch _ dC);have Tg:(op== [60])=J:=ua2.2 (ch _ dC);have x12:(op== [60,61])=J:=ua2.2 (ch _ dC);have x13:(op== [97,110,100])=J:=ua2.2 (ch _ dC);have x14:(op== [111,114])=J:=ua2.2 (ch _ dC);have x15:(op== [110,111,116])=J:=ua2.2 (ch _ dC);clear an hF ch;go_enter func83,ntmps83|guard_hyp GV;have b7:Hz (∀ W,H w w W→W.cell? ⟨g,2,Z⟩=N (V dt)):=hD (fun W ak=>(ak.cell (p:=⟨g,2,Z⟩) hg).trans aD);have gh:(0:Int)<(bt:Int):=oM;have hw:0<bt:=oM;have a8:=hD (kdN (!dt) (fun _=>False) aq);clear aD cj;go_enter func83,ntmps83|guard_hyp GU;have b7:Hz (∀ W,H w w W→W.cell? ⟨g,4,Z⟩=N (D fB b6.length aN)):=hD (fun W ak=>(ak.cell (p:=⟨g,4,Z⟩) hg).trans aD);have gh:(0:Int)<(bt:Int):=oM;have hw:0<bt:=oM;have a8:=hD (kcy (b6.length:Int) (fun _=>False) aq);clear aD cj;go_enter func83,ntmps83|guard_hyp GT;have b7:Hz (∀ W,H w w W→W.cell? ⟨g,3,Z⟩=N (Q ⟨t0.toArray⟩)):=hD (fun W ak=>(ak.cell (p:=⟨g,3,Z⟩) hg).trans aD);have gh:(0:Int)<(bt:Int):=oM;have hw:0<bt:=oM;have xt:=bZ t0;have a8:=hD (kcy (t0.length:Int) (fun _=>False) aq);clear aD cj;go_enter func83,ntmps83|guard_hyp UC;have a8:=hD (kcy num (fun _=>False) aq);go_enter func45,ntmps45|guard_hyp UD;have a8:=hD (kd8 text env Fi (fun _=>False) aq aB);clear aB;go_enter func45,ntmps45|guard_hyp UE;have s0:=(a7.o.cell (p:=⟨g,3,Z⟩) hg).trans aD;have cU:(0:Int)<(bt:Int):=oM;have a8:=hD (kg9 kb5 t0 text (.inl rfl) aq (fun _=>False) (dY.below a7.o dY.1) aB cE);clear aD dY aB cE;unfold kb5 at a8;go_enter func45,ntmps45|guard_hyp UF;have s0:=(a7.o.cell (p:=⟨g,3,Z⟩) hg).trans aD;have cU:(0:Int)<(bt:Int):=oM;have a8:=hD (kg9 kb4 t0 text (.inr (.inl rfl)) aq (fun _=>False) (dY.below a7.o dY.1) aB cE);clear aD dY aB cE;unfold kb4 at a8;go_enter func45,ntmps45|guard_hyp UG;have s0:=(a7.o.cell (p:=⟨g,3,Z⟩) hg).trans aD;have cU:(0:Int)<(bt:Int):=oM;have a8:=hD (kg9 kbT t0 text (.inr (.inr rfl)) aq (fun _=>False) (dY.below a7.o dY.1) aB cE);clear aD dY aB cE;unfold kbT at a8;go_enter func45,ntmps45|guard_hyp xw;have b7:Hz (∀ W,H w w W→W.cell? ⟨g,3,Z⟩=N (Q ⟨t0.toArray⟩)):=hD (fun W ak=>(ak.cell (p:=⟨g,3,Z⟩) hg).trans aD);have gh:(0:Int)<(bt:Int):=oM;have hw:0<bt:=oM;have qJ:=hD (kjm t0 aq aB);obtain ⟨bl,cR⟩:=xE (Ev.maX t0);rw[←cR] at qJ ⊢;clear cR aB;clear aD cj;go_enter func83,ntmps83|have a8:=hD (an aq a7.o);have b4:=hD (fun i (hi:F i)=>(⟨by have:=hF i hi;omega, .inl hi⟩:i≠w.heap.size∧(F i∨w.heap.size≤i)));have be:(op== [110,117,109,98,101,114])=J:=ua2.2 (ch _ dC);have b8:(op== [115,116,114,105,110,103])=J:=ua2.2 (ch _ dC);have cn:(op== [114,101,102])=J:=ua2.2 (ch _ dC);have c0:(op== [99,111,117,110,116])=J:=ua2.2 (ch _ dC);have c3:(op== [104,97,115])=J:=ua2.2 (ch _ dC);have jA:(op== [102,105,110,100])=J:=ua2.2 (ch _ dC);have jc:(op== [109,97,116,99,104,101,115])=J:=ua2.2 (ch _ dC);have mT:(op== [102,105,114,115,116,102,105,110,100])=J:=ua2.2 (ch _ dC);have CR:(op== [108,101,110,99,117,116])=J:=ua2.2 (ch _ dC);clear an hF ch;go_enter func45,ntmps45);go_upto_region 1 with (fail);rw[←cd.o];clear cd;(first|(first|guard_hyp GV|guard_hyp GU|guard_hyp GT|guard_hyp xw);have s0:=b7.o aq a7.o|skip);go_wp2_with fail;(first|guard_hyp xw;refine qJ.o.mono ?_;rintro cG aK ⟨bv,gS,b1,rfl, -, -⟩;have ih:=hD (dv.o.below bv dv.o.lt);have cA:=bT a7 bv;have r8:=bv.size;have a8:=hD (kcy (bl.length:Int) (fun _=>False) aK);clear bv qJ s0;go_wp2_with fail|skip);refine a8.o.mono ?_;rintro cG c7 ⟨ck,j3,rfl,cF⟩;obtain ⟨cy,cv,cr,t9,ci,bX,c9,dM,ff,rfl⟩:=cF.form;(first|guard_hyp xw;have dm:=ih.o.below ck ih.o.lt|have dm:=dv.o.below ck dv.o.lt);have Th:=();exact kbp
 |guard_hyp T4;(first|guard_hyp la;have b7:Hz (∀ W,H w w W→W.cell? ⟨g,3,Z⟩=N (Q ⟨t0.toArray⟩)∧W.cell? ⟨g,9,Z⟩=N (D dA bx.length aM)∧W.cell? ⟨g,11,Z⟩=N (I U dP)):=hD (fun W ak=>⟨(ak.cell (p:=⟨g,3,Z⟩) hg).trans aD,(ak.cell (p:=⟨g,9,Z⟩) hg).trans af,(ak.cell (p:=⟨g,11,Z⟩) hg).trans ao⟩)|guard_hyp ns;have b7:Hz (∀ W,H w w W→W.cell? ⟨g,3,Z⟩=N (Q ⟨t0.toArray⟩)∧W.cell? ⟨g,6,Z⟩=N (I U bD)∧W.cell? ⟨g,11,Z⟩=N (I U dP)):=hD (fun W ak=>⟨(ak.cell (p:=⟨g,3,Z⟩) hg).trans aD,(ak.cell (p:=⟨g,6,Z⟩) hg).trans af,(ak.cell (p:=⟨g,11,Z⟩) hg).trans ao⟩)|have b7:Hz (∀ W,H w w W→W.cell? ⟨g,3,Z⟩=N (Q ⟨t0.toArray⟩)∧W.cell? ⟨g,1,Z⟩=N (I U df)∧W.cell? ⟨g,6,Z⟩=N (I U bD)):=hD (fun W ak=>⟨(ak.cell (p:=⟨g,3,Z⟩) hg).trans aD,(ak.cell (p:=⟨g,1,Z⟩) hg).trans af,(ak.cell (p:=⟨g,6,Z⟩) hg).trans ao⟩));have gh:(0:Int)<(bt:Int):=oM;have hw:0<bt:=oM;have e2:(1:Int)<(bt:Int):=oM;have oL:1<bt:=oM;(first|guard_hyp xC|have fT:(2:Int)<(bt:Int):=oM;have x6:2<bt:=oM);have jb:w.heap.size<aq.heap.size:=oM;(first|guard_hyp la;have xt:=bZ t0;obtain ⟨es,bK⟩:=xE (Ev.more (X57 env Fi) Ev.mbO [.txt t0, .sps bx, .num dP])|guard_hyp ns;have xt:=bZ t0;obtain ⟨es,bK⟩:=xE (Ev.cutV (X57 env Fi) t0 bD dP)|obtain ⟨es,bK⟩:∃ R:Ev.Re Ev.Va,R=(if Ev.inV df bD Oz.mab then .ok (.sps [(df,bD)]) else .error (N 1)):=⟨_,rfl⟩);rw[←bK]
  first
  |guard_hyp la
   have bK : es = (if dP < 0 then .error (N 1) else match bx[dP.toNat]? with
    | some r => if Ev.inV r.1 r.2 t0.length then Ev.maG (X57 env Fi) ((t0.drop r.1.toNat).take r.2.toNat) else .error (some 1)
    | none => .error (some 1)) := bK
   obtain ⟨m7,l7,qF⟩:=hd3 nA dv.o.drew a7.o.drew;have Ti:w.heap.size<aq.drew.heap.size:=jb;have pC:=hD (fun a b W=>kjx a b t0.length W);clear nA
  |guard_hyp ns;unfold Ev.cutV at bK;have pC:=hD (fun W=>kjx bD dP t0.length W);obtain ⟨GB,ni⟩:=xE (Ev.inV bD dP t0.length);rw[←ni] at pC bK;have hZ:=hD ni;clear ni
  |have pC:Hz (∀ W,L prog 164 #[I .i64 df,I U bD,I U 1152921504606846976] W fun e w'=>e=ac (V (Ev.inV df bD Oz.mab))∧H W W w'):=hD (fun W=>kjx df bD Oz.mab W);obtain ⟨GB,ni⟩:=xE (Ev.inV df bD Oz.mab);rw[←ni] at pC bK;clear ni
  clear aD af ao cj;go_enter func131,ntmps131;go_upto_region 1 with (fail);rw[←cd.o];clear cd;obtain ⟨s0,s1,s2⟩:=b7.o aq a7.o
  first
  |guard_hyp la;by_cases aD:dP<0
   .rw[ua1 aD] at bK;have bw:decide (dP<0)=K:=ub3 aD;have Tj:=();exact kmF
   rw[ua0 aD] at bK;have bw:decide (dP<0)=J:=ua5 aD;by_cases af:(bx.length:Int)≤dP
   .rw[ud5 oM] at bK;dsimp only at bK;have aL:decide ((bx.length:Int)≤dP)=K:=ub3 af;exact kmF
   have aL:decide ((bx.length:Int)≤dP)=J:=ua5 af;obtain ⟨i,rfl⟩:∃ i:Nat,dP=(i:Int):=⟨dP.toNat,oM⟩;rw[ub7] at bK;obtain ⟨r,am⟩:∃ r,bx[i]? =N r:=⟨_,ua3 oM⟩;rw[am] at bK;obtain ⟨iv,kD,rfl, -,Ab,bu,bY⟩:=m7.o.at_ am;obtain ⟨sl,sm⟩:=r;dsimp only at bK bu bY;obtain ⟨GB,ni⟩:=xE (Ev.inV sl sm t0.length);have GC:=hD (pC.o sl sm);rw[←ni] at GC bK;have hZ:=hD ni;have cU:(i:Int)<(bx.length:Int):=oM;have bE:=nN i;have c2:i<bx.length:=oM;have e1n:decide (bx.length≤i)=J:=ua5 oM;have jT:iv≠w.heap.size:=oM;have xj:Hz (∀ W,H w w W→W.cell? ⟨g,11,Z⟩=N (I U (i:Int))∧W.cell? ⟨iv,kD+i*2,Z⟩=N (I U sl)∧W.cell? ⟨iv,kD+i*2+1,Z⟩=N (I U sm)):=hD (fun W ak=>⟨(b7.o W ak).2.2,(ak.cell (p:=⟨iv,kD+i*2,Z⟩) Ab).trans bu,(ak.cell (p:=⟨iv,kD+i*2+1,Z⟩) Ab).trans bY⟩);clear ni am aD af pC;go_upto_region 24 with (fail)
  |guard_hyp ns;go_upto_region 6 with (fail)
  |go_upto_region 33 with (fail)
  refine ue4 ?_;(first|guard_hyp la;refine ud6 (S:=(fun w'=>w'.cell? ⟨g,11,Z⟩=N (I U (i:Int))∧w'.cell? ⟨iv,kD+i*2,Z⟩=N (I U sl)∧w'.cell? ⟨iv,kD+i*2+1,Z⟩=N (I U sm))) kR (xj.o _ a7.o.drew) (fun ay=>?_)|guard_hyp ns;refine ud6 (S:=(fun w'=>w'.cell? ⟨g,3,Z⟩=N (Q ⟨t0.toArray⟩)∧w'.cell? ⟨g,6,Z⟩=N (I U bD)∧w'.cell? ⟨g,11,Z⟩=N (I U dP))) kR (b7.o _ a7.o.drew) (fun ay=>?_)|refine ud6 (S:=(fun w'=>w'.cell? ⟨g,1,Z⟩=N (I U df)∧w'.cell? ⟨g,6,Z⟩=N (I U bD))) kR ((b7.o _ a7.o.drew).2) (fun ay=>?_));refine tk 0 ay ?_;refine tk 1 ay ?_;refine tk 2 ay ?_;refine tk 3 ay ?_;(first|guard_hyp la;refine tkO 4 (fun aR aJ=>?_);go_simp;refine aJ.out _ _ ay ?_;clear aJ aR;(try simp only[Act.put,ub4,ua8,ua9,gE,gF,gG])|refine tk 4 ay ?_);refine tk 5 ay ?_;refine tk 6 ay ?_;refine tk 7 ay ?_;(first|guard_hyp la;refine tk 8 ay ?_;refine tk 9 ay ?_;refine tk 10 ay ?_;refine tk 11 ay ?_;refine tkO 12 (fun aR aJ=>?_);go_simp;refine aJ.out _ _ ay ?_;clear aJ aR;(try simp only[Act.put,ub4,ua8,ua9,gE,gF,gG]);refine tk 13 ay ?_;refine tk 14 ay ?_;refine tk 15 ay ?_;refine tk 16 ay ?_;refine tk 17 ay ?_;refine tk 18 ay ?_;refine tk 19 ay ?_;refine tk 20 ay ?_;refine tk 21 ay ?_;refine tk 22 ay ?_;refine tk 23 ay ?_;refine tk 24 ay ?_;refine tk 25 ay ?_;refine tk 26 ay ?_;refine tk 27 ay ?_;refine tk 28 ay ?_;refine tk 29 ay ?_;refine tk 30 ay ?_;refine tk 31 ay ?_;refine tk 32 ay ?_;refine tkO 33 (fun aR aJ=>?_)|guard_hyp ns;refine tk 8 ay ?_;refine tk 9 ay ?_;refine tkO 10 (fun aR aJ=>?_)|refine tkO 8 (fun aR aJ=>?_));go_simp;go_at_call 164;(first|guard_hyp la;refine (GC.o _).mono ?_|refine (pC.o _).mono ?_);rintro cG bm ⟨rfl,cQ⟩;have dG:H aq aq bm:=(ub5 _ aq).drew.trans cQ;have cN:=bT a7 dG;have jq:=hD (dv.o.below dG dv.o.lt);(first|guard_hyp la;have iF:=xj.o bm cN.o|guard_hyp ns;have iF:=b7.o bm cN.o|have iF:=(b7.o bm cN.o).2);have zI:w.heap.size<bm.heap.size:=(by have:=dG.size;omega);clear cQ dG;refine aJ.out _ _ iF ?_;clear aJ aR;(first|guard_hyp la;(try simp only[Act.put,ub4,ua8,ua9,gE,gF,gG]);refine tkO 34 (fun aR aJ=>?_)|guard_hyp ns;(try simp only[Act.put,gE,gF,gG]);refine tkO 11 (fun aR aJ=>?_)|(try simp only[Act.put,gE,gF,gG]);refine tkO 9 (fun aR aJ=>?_));go_simp;refine aJ.out _ _ iF ?_;clear aJ aR;(first|guard_hyp la;(try simp only[Act.put,ub4,ua8,ua9,gE,gF,gG]);refine tk 35 iF ?_|(try simp only[Act.put,gE,gF,gG]));refine ug7 kR ?_ _;refine uf0 ?_;first|guard_hyp la;(try simp only[Act.put,ub4,ua8,ua9,gE,gF,gG]);clear ay iF s0 s1 s2 GC l7 qF Ti bu bY|(try simp only[Act.put,gE,gF,gG]);clear s0 s1 s2 ay pC
  cases GB with
  |false=>rw[ua0 dC] at bK;have a8:=hD (kcS 1 dC (fun _=>False) bm);rw[←bK] at a8;clear bK;have Lt:=();exact keB
  |true=>rw[ua1 rfl] at bK;(first|guard_hyp la;have CS:=kqx hZ.o.symm;obtain ⟨x,rfl⟩:∃ x:Nat,sl=(x:Int):=⟨sl.toNat,oM⟩;obtain ⟨aC,rfl⟩:∃ aC:Nat,sm=(aC:Int):=⟨sm.toNat,oM⟩;rw[ub7,ub7] at bK;have mc:=ki4 t0 x aC oM;have sQ:=uc5 ((x:Int)+(aC:Int)) oM;obtain ⟨cK,cq⟩:=xE ((t0.drop x).take aC);have Ac:cK.length≤3000:=(by rw[cq,ub8,ud9];omega);rw[←cq] at mc bK;have a8:=hD (fun W=>kd8 cK env Fi (fun _=>False) W oM);rw[←bK] at a8;have vB:Hz (∀ W,H bm bm W→W.cell? ⟨g,11,Z⟩=N (I U (i:Int))∧W.cell? ⟨iv,kD+i*2,Z⟩=N (I U (x:Int))∧W.cell? ⟨iv,kD+i*2+1,Z⟩=N (I U (aC:Int))):=hD (fun W ak=>xj.o W (cN.o.trans (ak.mono cN.o.size)));have GD:Hz (∀ W,H bm bm W→∀ aT aU aX a2 d7:C,(((((W.setCell ⟨w,0,Z⟩ aT).setCell ⟨w,1,Z⟩ aU).setCell ⟨w,2,Z⟩ aX).setCell ⟨w,3,Z⟩ a2).setCell ⟨w,4,Z⟩ d7).cell? ⟨g,11,Z⟩=N (I U (i:Int))∧(((((W.setCell ⟨w,0,Z⟩ aT).setCell ⟨w,1,Z⟩ aU).setCell ⟨w,2,Z⟩ aX).setCell ⟨w,3,Z⟩ a2).setCell ⟨w,4,Z⟩ d7).cell? ⟨iv,kD+i*2,Z⟩=N (I U (x:Int))∧(((((W.setCell ⟨w,0,Z⟩ aT).setCell ⟨w,1,Z⟩ aU).setCell ⟨w,2,Z⟩ aX).setCell ⟨w,3,Z⟩ a2).setCell ⟨w,4,Z⟩ d7).cell? ⟨iv,kD+i*2+1,Z⟩=N (I U (aC:Int))):=hD (fun W ak aT aU aX a2 d7=>by have h:=vB.o W ak;have e:∀ b o,b≠w.heap.size→(((((W.setCell ⟨w,0,Z⟩ aT).setCell ⟨w,1,Z⟩ aU).setCell ⟨w,2,Z⟩ aX).setCell ⟨w,3,Z⟩ a2).setCell ⟨w,4,Z⟩ d7).cell? ⟨b,o,Z⟩=W.cell? ⟨b,o,Z⟩:=fun b o ak=>ue6 (ke3 W w b ak aT aU aX a2 d7);exact ⟨(e g _ oM).trans h.1,(e iv _ jT).trans h.2.1,(e iv _ jT).trans h.2.2⟩);clear cq bK CS Ac;go_upto_region 26 with (fail)|guard_hyp ns;have kW:=kqx hZ.o.symm;obtain ⟨i,rfl⟩:∃ i:Nat,bD=(i:Int):=⟨bD.toNat,oM⟩;obtain ⟨m,rfl⟩:∃ m:Nat,dP=(m:Int):=⟨dP.toNat,oM⟩;rw[ub7,ub7] at bK;have mc:=ki4 t0 i m oM;have sQ:=uc5 ((i:Int)+(m:Int)) oM;obtain ⟨cK,cq⟩:=xE ((t0.drop i).take m);have Ac:cK.length≤3000:=(by rw[cq,ub8,ud9];omega);rw[←cq] at mc bK;have a8:=hD (fun W=>kd8 cK env Fi (fun _=>False) W oM);rw[←bK] at a8;clear cq bK kW Ac;go_upto_region 8 with (fail)|go_upto_region 35 with (fail));refine ue4 ?_;(first|guard_hyp la;refine ud6 (S:=(fun w'=>w'.cell? ⟨g,11,Z⟩=N (I U (i:Int))∧w'.cell? ⟨iv,kD+i*2,Z⟩=N (I U (x:Int))∧w'.cell? ⟨iv,kD+i*2+1,Z⟩=N (I U (aC:Int)))) kR (vB.o _ (ub5 _ _).drew) (fun ay=>?_)|guard_hyp ns;refine ud6 (S:=(fun w'=>w'.cell? ⟨g,3,Z⟩=N (Q ⟨t0.toArray⟩)∧w'.cell? ⟨g,6,Z⟩=N (I U (i:Int))∧w'.cell? ⟨g,11,Z⟩=N (I U (m:Int)))) kR (b7.o _ cN.o.drew) (fun ay=>?_)|refine ud6 (S:=(fun w'=>w'.cell? ⟨g,1,Z⟩=N (I U df)∧w'.cell? ⟨g,6,Z⟩=N (I U bD))) kR ((b7.o _ cN.o.drew).2) (fun ay=>?_));have Tk:=();exact kfs
 |guard_hyp T5;(first|guard_hyp nt;have b7:Hz (∀ W,H w w W→W.cell? ⟨g,3,Z⟩=N (Q ⟨t0.toArray⟩)∧W.cell? ⟨g,6,Z⟩=N (I U bD)):=hD (fun W ak=>⟨(ak.cell (p:=⟨g,3,Z⟩) hg).trans aD,(ak.cell (p:=⟨g,6,Z⟩) hg).trans af⟩)|guard_hyp nu;have b7:Hz (∀ W,H w w W→W.cell? ⟨g,3,Z⟩=N (Q ⟨t0.toArray⟩)∧W.cell? ⟨g,4,Z⟩=N (D fB b6.length aN)∧W.cell? ⟨g,6,Z⟩=N (I U bD)):=hD (fun W ak=>⟨(ak.cell (p:=⟨g,3,Z⟩) hg).trans aD,(ak.cell (p:=⟨g,4,Z⟩) hg).trans af,(ak.cell (p:=⟨g,6,Z⟩) hg).trans ao⟩)|have b7:Hz (∀ W,H w w W→W.cell? ⟨g,3,Z⟩=N (Q ⟨t0.toArray⟩)∧W.cell? ⟨g,4,Z⟩=N (D fB b6.length aN)∧W.cell? ⟨g,9,Z⟩=N (D dA bx.length aM)∧W.cell? ⟨g,11,Z⟩=N (I U dP)):=hD (fun W ak=>⟨(ak.cell (p:=⟨g,3,Z⟩) hg).trans aD,(ak.cell (p:=⟨g,4,Z⟩) hg).trans af,(ak.cell (p:=⟨g,9,Z⟩) hg).trans ao,(ak.cell (p:=⟨g,11,Z⟩) hg).trans av⟩));have gh:(0:Int)<(bt:Int):=oM;have hw:0<bt:=oM;have e2:(1:Int)<(bt:Int):=oM;have oL:1<bt:=oM;(first|guard_hyp L2;have fT:(2:Int)<(bt:Int):=oM;have x6:2<bt:=oM|skip);have jb:w.heap.size<aq.heap.size:=oM;(first|guard_hyp nt;have xt:=bZ t0;obtain ⟨es,bK⟩:=xE (Ev.more (X57 env Fi) Ev.mbQ [.txt t0, .num bD])|guard_hyp nu;obtain ⟨es,bK⟩:=xE (Ev.ma3 b6 bD)|have lA:=hD (fun W=>kkC Ev.mbK b6 bx dP (.inr (.inr rfl)) fB dA aN aM W ju lF);have gY:=hD (fun W (ak:H w w W)=>mL.below ak (G:=ju) (fun _ h=>h));have nK:=hD (fun W (ak:H w w W)=>mM.below ak (G:=lF) (fun _ h=>h));have rt:=hD (lA.o aq.drew (gY.o _ a7.o.drew) (nK.o _ a7.o.drew) md ew hU gZ);obtain ⟨bl,cR⟩:=xE (Ev.mbc Ev.mbK b6 bx dP);rw[←cR] at rt ⊢;clear cR lA gY nK mL mM md ew hU gZ;obtain ⟨es,bK⟩:∃ R:Ev.Re Ev.Va,R=(if dP<0 then .error (N 1) else .ok (.sps bl)):=⟨_,rfl⟩);rw[←bK]
  first
  |guard_hyp nt
   have bK : es = (if bD < 0 ∨ ((Ev.maX t0).length : Int) ≤ bD then .error (N 1) else match (Ev.maX t0)[bD.toNat]? with
    | some r => Ev.maG (X57 env Fi) ((t0.drop r.1.toNat).take r.2.toNat)
    | none => .error (some 1)) := bK
   have qJ:=hD (kjm t0 aq oM);have GE:=fun x (h:x∈Ev.maX t0)=>kvl h;have hl:=ko0 t0;obtain ⟨bl,cR⟩:=xE (Ev.maX t0);rw[←cR] at qJ bK GE hl;have Tl:=hD GE;clear cR GE;clear aD af cj
  |guard_hyp nu;unfold Ev.ma3 at bK;obtain ⟨m7,fh,Tm⟩:=hd3 mL el Ng;clear mL el Ng;clear aD af ao cj
  |clear aD af ao av cj
  go_enter func131,ntmps131;go_upto_region 1 with (fail);rw[←cd.o];clear cd;first|guard_hyp nt;obtain ⟨s0,s1⟩:=b7.o aq a7.o;go_wp2_with fail;refine qJ.o.mono ?_;rintro cG aK ⟨bv,gS,b1,rfl, -,Av⟩;have cA:=bT a7 bv;have ih:=hD (dv.o.below bv dv.o.lt);have Ad:w.heap.size<aK.heap.size:=(by have:=bv.size;omega);have Tn:=hD Av;clear bv qJ s0 s1 Av;obtain ⟨s0,s1⟩:=b7.o aK cA.o;by_cases ax:bD<0∨(bl.length:Int)≤bD|guard_hyp nu;obtain ⟨s0,s1,s2⟩:=b7.o aq a7.o;by_cases aD:bD<0|obtain ⟨s0,s1,s2,s3⟩:=b7.o aq a7.o;by_cases aD:dP<0
  ·(first|guard_hyp nt;rw[ua1 ax] at bK;have a8:=hD (kcS 1 dC (fun _=>False) aK)|guard_hyp nu;rw[ua1 aD] at bK;have bw:decide (bD<0)=K:=ub3 aD;have a8:=hD (kcS 1 dC (fun _=>False) aq)|have bw:decide (dP<0)=K:=ub3 aD;rw[ua1 aD] at bK;have a8:=hD (kcS 1 dC (fun _=>False) aq));rw[←bK] at a8
   first
   |guard_hyp nt;clear bK;by_cases aD:bD<0
    .have bw:decide (bD<0)=K:=ub3 aD;clear ax;exact keB
    .have bw:decide (bD<0)=J:=ua5 aD;have af:(bl.length:Int)≤bD:=ax.resolve_left aD;have aL:decide ((bl.length:Int)≤bD)=K:=ub3 af;clear ax;exact keB
   |guard_hyp nu;clear bK;go_wp2_with fail;refine a8.o.mono ?_;rintro cG c7 ⟨ck,j3,rfl,cF⟩;obtain ⟨cy,cv,cr,t9,ci,bX,c9,dM,ff,rfl⟩:=cF.form;have dm:=dv.o.below ck dv.o.lt;obtain ⟨z0,ca,cI,z3,z4,k0,k1,bS,fp,gy⟩:=kak dm;have cW:=hD (kb1 dm (I U cy) (I U cv) (V cr) (Q t9) (D ci bX c9));have di:=hD (kaR (F:=F) a7.o oM ck cF (fun _ h=>h.elim) (I U cy) (I U cv) (V cr) (Q t9) (D ci bX c9));clear ck cF dm;go_wp2_with fail;obtain ⟨bi,aW,bc,br,bL, -⟩:=kak cW.o;refine ub2 (v:=ag #[aa #[I .i64 cy,I U cv,V cr,Q t9,D ci bX c9],I U dM,V ff]) (by simp[results,results131,go_sem,bi,aW,bc,br,bL]) rfl ?_;exact di.o
   |clear rt bK;go_wp2_with fail;refine a8.o.mono ?_;rintro cG c7 ⟨ck,j3,rfl,cF⟩;obtain ⟨cy,cv,cr,t9,ci,bX,c9,dM,ff,rfl⟩:=cF.form;have dm:=dv.o.below ck dv.o.lt;obtain ⟨z0,ca,cI,z3,z4,k0,k1,bS,fp,gy⟩:=kak dm;have cW:=hD (kb1 dm (I U cy) (I U cv) (V cr) (Q t9) (D ci bX c9));have di:=hD (kaR (F:=F) a7.o oM ck cF (fun _ h=>h.elim) (I U cy) (I U cv) (V cr) (Q t9) (D ci bX c9));clear ck cF dm;go_wp2_with fail;obtain ⟨bi,aW,bc,br,bL, -⟩:=kak cW.o;refine ub2 (v:=ag #[aa #[I .i64 cy,I U cv,V cr,Q t9,D ci bX c9],I U dM,V ff]) (by simp[results,results131,go_sem,bi,aW,bc,br,bL]) rfl ?_;exact di.o
  ·(first|guard_hyp nt;rw[ua0 ax] at bK;have aD:¬bD<0:=fun h=>ax (.inl h);have af:¬(bl.length:Int)≤bD:=fun h=>ax (.inr h);have bw:decide (bD<0)=J:=ua5 aD;have aL:decide ((bl.length:Int)≤bD)=J:=ua5 af;obtain ⟨i,rfl⟩:∃ i:Nat,bD=(i:Int):=⟨bD.toNat,oM⟩;rw[ub7] at bK;obtain ⟨r,am⟩:∃ r,bl[i]? =N r:=⟨_,ua3 oM⟩;rw[am] at bK;obtain ⟨iv,kD,rfl,dR,Ab,bu,bY⟩:=Tn.o.at_ am;have CS:=Tl.o r (ua4 am);obtain ⟨sl,sm⟩:=r;dsimp only at bK bu bY CS;obtain ⟨x,rfl⟩:∃ x:Nat,sl=(x:Int):=⟨sl.toNat,oM⟩;obtain ⟨aC,rfl⟩:∃ aC:Nat,sm=(aC:Int):=⟨sm.toNat,oM⟩;rw[ub7,ub7] at bK;have mc:=ki4 t0 x aC oM;have sQ:=uc5 ((x:Int)+(aC:Int)) oM;obtain ⟨cK,cq⟩:=xE ((t0.drop x).take aC);have Ac:cK.length≤3000:=(by rw[cq,ub8,ud9];omega);rw[←cq] at mc bK;have a8:=hD (fun W=>kd8 cK env Fi (fun _=>False) W oM);rw[←bK] at a8;have cU:(i:Int)<(bl.length:Int):=oM;have bE:=nN i;have c2:i<bl.length:=oM;have vB:Hz (∀ W,H aK aK W→W.cell? ⟨g,6,Z⟩=N (I U (i:Int))∧W.cell? ⟨iv,kD+i*2,Z⟩=N (I U (x:Int))∧W.cell? ⟨iv,kD+i*2+1,Z⟩=N (I U (aC:Int))):=hD (fun W ak=>⟨(b7.o W (cA.o.trans (ak.mono cA.o.size))).2,(ak.cell (p:=⟨iv,kD+i*2,Z⟩) Ab).trans bu,(ak.cell (p:=⟨iv,kD+i*2+1,Z⟩) Ab).trans bY⟩);have jT:iv≠w.heap.size:=(by have:aq.heap.size≤iv:=dR;omega);have GD:Hz (∀ W,H aK aK W→∀ aT aU aX a2 d7:C,(((((W.setCell ⟨w,0,Z⟩ aT).setCell ⟨w,1,Z⟩ aU).setCell ⟨w,2,Z⟩ aX).setCell ⟨w,3,Z⟩ a2).setCell ⟨w,4,Z⟩ d7).cell? ⟨g,6,Z⟩=N (I U (i:Int))∧(((((W.setCell ⟨w,0,Z⟩ aT).setCell ⟨w,1,Z⟩ aU).setCell ⟨w,2,Z⟩ aX).setCell ⟨w,3,Z⟩ a2).setCell ⟨w,4,Z⟩ d7).cell? ⟨iv,kD+i*2,Z⟩=N (I U (x:Int))∧(((((W.setCell ⟨w,0,Z⟩ aT).setCell ⟨w,1,Z⟩ aU).setCell ⟨w,2,Z⟩ aX).setCell ⟨w,3,Z⟩ a2).setCell ⟨w,4,Z⟩ d7).cell? ⟨iv,kD+i*2+1,Z⟩=N (I U (aC:Int))):=hD (fun W ak aT aU aX a2 d7=>by have h:=vB.o W ak;have e:∀ b o,b≠w.heap.size→(((((W.setCell ⟨w,0,Z⟩ aT).setCell ⟨w,1,Z⟩ aU).setCell ⟨w,2,Z⟩ aX).setCell ⟨w,3,Z⟩ a2).setCell ⟨w,4,Z⟩ d7).cell? ⟨b,o,Z⟩=W.cell? ⟨b,o,Z⟩:=fun b o ak=>ue6 (ke3 W w b ak aT aU aX a2 d7);exact ⟨(e g _ oM).trans h.1,(e iv _ jT).trans h.2.1,(e iv _ jT).trans h.2.2⟩);clear cq bK CS Ac am ax aD af bu bY;go_upto_region 13 with (fail)|guard_hyp nu;rw[ua0 aD] at bK;have bw:decide (bD<0)=J:=ua5 aD;obtain ⟨m,bg⟩:∃ m:Nat,min (b6.length:Int) bD=(m:Int):=⟨(min (b6.length:Int) bD).toNat,oM⟩;rw[bg,ub7] at bK;have jl:m≤b6.length:=oM;have mc:=kua fB b6.length aN m oM;have GF:=fun W (ak:H w w W)=>kt0 (m7.o.below ak (G:=ju) (fun _ h=>h)) aN m;obtain ⟨gS,tK⟩:=xE ((if aN=0 then fB else fB.map (·.add (0*2))));rw[←tK] at mc GF;have bG:(b6.take m).length=m:=(by rw[ub8];omega);have a8:Hz (L prog 128 #[D gS m aN] aq.drew (kao aq.drew ju es)):=hD (by have:=kdQ gS (b6.take m) aN oM ju aq.drew (GF _ a7.o.drew);rw[bG,←bK] at this;exact this);have xa:Hz (∀ i,ju i→i≠w.heap.size∧(F i∨w.heap.size≤i)):=hD (fun i hi=>⟨by have:=fh.o i hi;omega, .inl (Tm.o i hi)⟩);clear bK GF tK bG;go_upto_region 58 with (fail)|have bw:decide (dP<0)=J:=ua5 aD;rw[ua0 aD] at bK;subst bK;go_upto_region 42 with (fail));refine ue4 ?_;(first|guard_hyp nt;refine ud6 (S:=(fun w'=>w'.cell? ⟨g,6,Z⟩=N (I U (i:Int))∧w'.cell? ⟨iv,kD+i*2,Z⟩=N (I U (x:Int))∧w'.cell? ⟨iv,kD+i*2+1,Z⟩=N (I U (aC:Int)))) kR (vB.o _ (ub5 _ _).drew) (fun ay=>?_)|guard_hyp nu;refine ud6 (S:=(fun w'=>w'.cell? ⟨g,4,Z⟩=N (D fB b6.length aN)∧w'.cell? ⟨g,6,Z⟩=N (I U bD))) kR ((b7.o _ a7.o.drew).2) (fun ay=>?_)|refine ud6 (S:=(fun w'=>w'.cell? ⟨g,4,Z⟩=N (D fB b6.length aN)∧w'.cell? ⟨g,9,Z⟩=N (D dA bx.length aM)∧w'.cell? ⟨g,11,Z⟩=N (I U dP))) kR ((b7.o _ a7.o.drew).2) (fun ay=>?_));have To:=();exact kfs
 |guard_hyp T6;(first|guard_hyp xB;have b7:Hz (∀ W,H w w W→W.cell? ⟨g,3,Z⟩=N (Q ⟨t0.toArray⟩)):=hD (fun W ak=>(ak.cell (p:=⟨g,3,Z⟩) hg).trans aD)|have b7:Hz (∀ W,H w w W→W.cell? ⟨g,3,Z⟩=N (Q ⟨t0.toArray⟩)∧W.cell? ⟨g,8,Z⟩=N (Q ⟨bb.toArray⟩)):=hD (fun W ak=>⟨(ak.cell (p:=⟨g,3,Z⟩) hg).trans aD,(ak.cell (p:=⟨g,8,Z⟩) hg).trans af⟩));have gh:(0:Int)<(bt:Int):=oM;have hw:0<bt:=oM;(first|guard_hyp xB|have e2:(1:Int)<(bt:Int):=oM;have oL:1<bt:=oM);have jb:w.heap.size<aq.heap.size:=oM;have xt:=bZ t0;(first|guard_hyp xB;have qJ:=hD (kjm t0 aq oM);have hl:=ko0 t0;obtain ⟨bl,cR⟩:=xE (Ev.maX t0);rw[←cR] at qJ hl ⊢;clear cR;clear aD cj|have IM:=bZ bb;have By:=krN prog t0 bb oM;have a8:=hD (kd8 (t0++bb) env Fi (fun _=>False) aq (by rw[ua6];omega));obtain ⟨cK,cq⟩:=xE (t0++bb);rw[←cq] at a8 By ⊢;clear cq;clear aD af cj);go_enter func131,ntmps131;go_upto_region 1 with (fail);rw[←cd.o];clear cd;(first|guard_hyp xB;have s0:=b7.o aq a7.o;go_wp2_with fail;refine qJ.o.mono ?_;rintro cG aK ⟨bv,gS,b1,rfl,r6,Av⟩;have cA:=bT a7 bv;have ih:=hD (dv.o.below bv dv.o.lt);have Ad:w.heap.size<aK.heap.size:=(by have:=bv.size;omega);have cU:¬(4096:Int)<(bl.length:Int):=oM;have a8:Hz (L prog 128 #[D gS bl.length b1] aK (kao aK (fun i=>aq.heap.size≤i) (Ev.ma8 bl))):=hD (by unfold Ev.ma8;rw[ua0 oM];exact kdQ gS bl b1 r6 _ aK Av);have l1:Hz (∀ i,aq.heap.size≤i→i≠w.heap.size∧(F i∨w.heap.size≤i)):=hD (fun i hi=>⟨oM, .inr oM⟩);clear bv qJ s0 r6 Av|obtain ⟨s0,s1⟩:=b7.o aq a7.o);go_wp2_with fail;refine a8.o.mono ?_;rintro cG c7 ⟨ck,j3,rfl,cF⟩;obtain ⟨cy,cv,cr,t9,ci,bX,c9,dM,ff,rfl⟩:=cF.form;(first|guard_hyp xB;have dm:=ih.o.below ck ih.o.lt|have dm:=dv.o.below ck dv.o.lt);have Tp:=();exact kbp
 |guard_hyp Ub;have b7:Hz (∀ W,H w w W→W.cell? ⟨g,3,Z⟩=N (Q ⟨t0.toArray⟩)∧W.cell? ⟨g,4,Z⟩=N (D fB b6.length aN)∧W.cell? ⟨g,9,Z⟩=N (D dA bx.length aM)):=hD (fun W ak=>⟨(ak.cell (p:=⟨g,3,Z⟩) hg).trans aD,(ak.cell (p:=⟨g,4,Z⟩) hg).trans af,(ak.cell (p:=⟨g,9,Z⟩) hg).trans ao⟩);have gh:(0:Int)<(bt:Int):=oM;have hw:0<bt:=oM;have e2:(1:Int)<(bt:Int):=oM;have oL:1<bt:=oM;have jb:w.heap.size<aq.heap.size:=oM;(first|guard_hyp t7;have GG:=hD (ks6 b6 bx fB dA aN aM aq.drew ju lF (mL.below a7.o.drew (G:=ju) (fun _ h=>h)) (mM.below a7.o.drew (G:=lF) (fun _ h=>h)) md ew);obtain ⟨bl,cR⟩:=xE (Ev.mbx b6 bx);rw[←cR] at GG ⊢;obtain ⟨es,bK⟩:=xE (Ev.ma8 bl);rw[←bK];unfold Ev.ma8 at bK;clear cR mL mM md ew|guard_hyp Uc;obtain ⟨lA,gY,nK⟩:=hd3 (fun W=>kkC Oz.maI b6 bx 0 (.inl rfl) fB dA aN aM W ju lF) (fun W (ak:H w w W)=>mL.below ak (G:=ju) (fun _ h=>h)) (fun W (ak:H w w W)=>mM.below ak (G:=lF) (fun _ h=>h));have rt:=hD (lA.o aq.drew (gY.o _ a7.o.drew) (nK.o _ a7.o.drew) md ew hU gZ);obtain ⟨bl,cR⟩:=xE (Ev.mbc Oz.maI b6 bx 0);rw[←cR] at rt ⊢;clear cR lA gY nK mL mM md ew hU gZ|have lA:=hD (fun W=>kkC Oz.mbz b6 bx 0 (.inr (.inl rfl)) fB dA aN aM W ju lF);have gY:=hD (fun W (ak:H w w W)=>mL.below ak (G:=ju) (fun _ h=>h));have nK:=hD (fun W (ak:H w w W)=>mM.below ak (G:=lF) (fun _ h=>h));have rt:=hD (lA.o aq.drew (gY.o _ a7.o.drew) (nK.o _ a7.o.drew) md ew hU gZ);obtain ⟨bl,cR⟩:=xE (Ev.mbc Oz.mbz b6 bx 0);rw[←cR] at rt ⊢;clear cR lA gY nK mL mM md ew hU gZ);clear aD af ao cj;go_enter func131,ntmps131;go_upto_region 1 with (fail);rw[←cd.o];clear cd;obtain ⟨s0,s1,s2⟩:=b7.o aq a7.o;(first|guard_hyp t7;go_upto_region 44 with (fail)|go_upto_region 38 with (fail));refine ue4 ?_;refine ud6 (S:=(fun w'=>w'.cell? ⟨g,4,Z⟩=N (D fB b6.length aN)∧w'.cell? ⟨g,9,Z⟩=N (D dA bx.length aM))) kR ((b7.o _ a7.o.drew).2) (fun ay=>?_);refine tk 0 ay ?_;refine tk 1 ay ?_;refine tk 2 ay ?_;refine tk 3 ay ?_;refine tk 4 ay ?_;refine tk 5 ay ?_;refine tk 6 ay ?_;refine tk 7 ay ?_;(first|guard_hyp t7;refine tkO 8 (fun aR aJ=>?_)|refine tk 8 ay ?_;refine tkO 9 (fun aR aJ=>?_));go_simp;(first|guard_hyp t7;go_at_call 167;refine (GG.o).mono ?_|go_at_call 166;refine (rt.o).mono ?_);rintro cG bm ⟨cQ,fs,c5,rfl,vJ,Au⟩;have dG:H aq aq bm:=(ub5 _ aq).drew.trans cQ;have cN:=bT a7 dG;have jq:=hD (dv.o.below dG dv.o.lt);have iF:=(b7.o bm cN.o).2;have zI:w.heap.size<bm.heap.size:=(by have:=dG.size;omega);have ks:=hD vJ;have Cw:=hD (SpV.keep (G:=fun i=>aq.heap.size≤i) Au (fun _ _ _=>rfl) (nR) (fun i hi _=>hi));clear cQ dG vJ Au;refine aJ.out _ _ iF ?_;clear aJ aR;(try simp only[Act.put,gE,gF,gG]);(first|guard_hyp t7;refine tkO 9 (fun aR aJ=>?_)|refine tkO 10 (fun aR aJ=>?_));go_simp;(first|guard_hyp t7;refine aJ.out _ _ iF ?_|go_at_call 128;refine ((kdQ fs bl c5 ks.o _ bm Cw.o)).mono ?_;rintro cG c7 ⟨ck,j3,rfl,cF⟩;obtain ⟨cy,cv,cr,t9,ci,bX,c9,dM,ff,rfl⟩:=cF.form;have dG:H bm bm c7:=ck;have dm:=jq.o.below dG jq.o.lt;obtain ⟨z0,ca,cI,z3,z4,k0,k1,bS,fp,gy⟩:=kak dm;have cW:=hD (kb1 dm (I U cy) (I U cv) (V cr) (Q t9) (D ci bX c9));have di:=hD (kaR (F:=F) cN.o oM ck cF (fun i (hi:aq.heap.size≤i)=>⟨oM, .inr oM⟩) (I U cy) (I U cv) (V cr) (Q t9) (D ci bX c9));have fq:=(b7.o c7 (cN.o.trans (dG.mono cN.o.size))).2;have iH:=(b7.o _ (kdc (cN.o.trans (dG.mono cN.o.size)) (nR) (I U cy) (I U cv) (V cr) (Q t9) (D ci bX c9))).2;clear ck cF dm dG;refine aJ.out _ _ fq ?_);clear aJ aR;(try simp only[Act.put,gE,gF,gG]);(first|guard_hyp t7|refine tk 11 fq ?_;refine tk 12 fq ?_;refine tk 13 fq ?_;refine tkO 14 (fun aR aJ=>?_);go_simp;refine aJ.out _ _ iH ?_;clear aJ aR;(try simp only[Act.put,gE,gF,gG]);refine tkO 15 (fun aR aJ=>?_);go_simp;refine aJ.out _ _ iH ?_;clear aJ aR;(try simp only[Act.put,gE,gF,gG]);refine tkO 16 (fun aR aJ=>?_);go_simp;refine aJ.out _ _ iH ?_;clear aJ aR;(try simp only[Act.put,gE,gF,gG]));refine ug7 kR ?_ _;refine uf0 ?_;try simp only[Act.put,gE,gF,gG]
  first
  |guard_hyp t7;clear s0 s1 s2 ay iF GG;by_cases aD:4096<bl.length
   .rw[ua1 aD] at bK;have bw:(4096:Int)<(bl.length:Int):=oM;have a8:=hD (kcS 9 dC (fun _=>False) bm);rw[←bK] at a8;clear bK;have Lt:=();exact keB
   .rw[ua0 aD] at bK;have bw:¬(4096:Int)<(bl.length:Int):=oM;have a8:=hD (kdQ fs bl c5 ks.o _ bm Cw.o);rw[←bK] at a8;have pA:Hz (∀ i,aq.heap.size≤i→i≠w.heap.size∧(F i∨w.heap.size≤i)):=hD (fun i hi=>⟨oM, .inr oM⟩);clear bK;have Tq:=();exact keB
  |go_wp2_with fail;obtain ⟨bi,aW,bc,br,bL, -⟩:=kak cW.o;refine ub2 (v:=ag #[aa #[I .i64 cy,I U cv,V cr,Q t9,D ci bX c9],I U dM,V ff]) (by simp[results,results131,go_sem,bi,aW,bc,br,bL]) rfl ?_;exact di.o
 |(first|guard_hyp so;rw[←fy] at L5|skip);have s0:=(a7.o.cell (p:=⟨g,3,Z⟩) hg).trans aD;have cU:(0:Int)<(bt:Int):=oM;have a8:=hD (kg9 kbT t0 text (.inr (.inr rfl)) aq (fun _=>False) (dY.below a7.o dY.1) aB cE);obtain ⟨CT,kp⟩:=xE (F57 text t0);have i8:=fun l (h:CT= .ok l)=>kdj (kp.symm.trans h);rw[←kp] at a8 ⊢;have ge:=hD i8;(first|guard_hyp so;obtain ⟨es,bK⟩:=xE ((CT.bind fun l=>Ev.ma3 l dX.n))|obtain ⟨es,bK⟩:=xE ((CT.bind fun l=>Ev.mbl l)));rw[←bK];have fz:=hD bK;clear bK;clear aD dY aB cE kp i8;unfold kbT at a8;go_enter func45,ntmps45;go_upto_region 1 with (fail);rw[←cd.o];clear cd;go_wp2_with fail;refine a8.o.mono ?_;rintro cG aF ⟨bs,j3,rfl,kA⟩;have bo:=bT a7 bs;have gt:=hD (dv.o.below bs dv.o.lt);have Tr:aq.heap.size≤aF.heap.size:=bs.size;clear bs a8
  cases CT with
  |error e=>
   cases e with
   |some kk=>have Ts:=();exact klZ
   |none=>have Tt:=();exact klY
  |ok l=>(first|guard_hyp so;have kV:=hD (ge.o l rfl)|skip);obtain ⟨cs,⟨ci,c9,rfl,pc,tX⟩,rfl⟩:=kA;rw[show VaC ci c9 (Ev.Va.sps l)=[I .i64 4,I U 0,V J,Q ⟨#[]⟩,D ci l.length c9] from rfl];obtain ⟨a6,cl⟩:=xE (aF.alloc (y #[I .i64 4,I U 0,V J,Q ⟨#[]⟩,D ci l.length c9] 40));have Tu:=();exact knt):=h
def kgD (h:P:=by have Tv:=();exact kd3):=h
def kfo (h:P:=by have a1:=hD (am.trans (ua5 (fun h=>by omega)));exact kk9):=h
def kgN (h:P:=by go_enter func165,ntmps165;go_wp2_with fail;refine dB.o.mono ?_;rintro cG aF ⟨rfl,bs⟩;have bo:=hD bs;clear bs;go_wp2_with fail;first|guard_hyp Tw;refine ub2 (v:=ag #[I .i64 0,I U 1]) (by simp[results,results165,go_sem]) rfl ?_;exact ⟨by rw[a1.o],bo.o⟩|guard_hyp Tx;refine ub2 (v:=ag #[I .i64 0,I U 2]) (by simp[results,results165,go_sem]) rfl ?_;exact ⟨by rw[a1.o],bo.o⟩|guard_hyp Ty;refine ub2 (v:=ag #[I .i64 (a*k),I U 0]) (by simp[results,results165,go_sem]) rfl ?_;exact ⟨by rw[a1.o],bo.o⟩|refine ub2 (v:=ag #[I .i64 0,I U 0]) (by simp[results,results165,go_sem]) rfl ?_;exact ⟨by rw[a1.o],bo.o⟩):=h
def kgM (h:P:=by clear am aA bp;go_enter func196,ntmps196;go_upto_region 1 with (fail);rw[←cd.o,←e1.o];clear cd e1;exact kgw):=h
def kmu (h:P:=by
 (first|guard_hyp tZ;obtain ⟨r,am⟩:=xE (Ev.mbI op x aC k)|obtain ⟨r,am⟩:=xE (Ev.mau x aC));rw[←am];(first|guard_hyp tZ;unfold Ev.mbI at am|unfold Ev.mau at am);obtain ⟨dJ,eC⟩:=x;obtain ⟨iI,k9⟩:=aC;(first|guard_hyp tZ;dsimp only at am aA bp ⊢|dsimp only at am ⊢);obtain ⟨aq,aQ⟩:=xE (w.alloc (y #[I .i64 dJ,I U eC] 91));have np:=bM aQ;have c4:=bA aQ;have fy:=wS aQ;have tY:Blk (aq.alloc (y #[I .i64 iI,I U k9] 91)) (w.heap.size+1) 91 #[I .i64 iI,I U k9]:=(by rw[←fy];exact Blk.new aq _ _);obtain ⟨aF,bW⟩:=xE (aq.alloc (y #[I .i64 iI,I U k9] 91));have dZ:=bA bW;rw[←bW] at tY;have bo:=hD (c4.trans (dZ.mono c4.size));have tO:=np.below dZ np.lt;have be:=tO.cell 0;have b8:=tO.cell 1;have bu:=tY.cell 0;have bY:=tY.cell 1;simp only[gA,gB,gC] at be b8 bu bY;have cd:=hD aQ;have e1:=hD bW;clear np c4 aQ tY dZ bW tO;first|guard_hyp tZ;have cU:=uc5 (dJ+eC) oM;have bE:=uc5 (iI+k9) oM;have c2:=uc5 (dJ-(iI+k9)) oM;(rcases ba with rfl|rfl|rfl)|by_cases aD:dJ<iI
 .first
  |guard_hyp tZ;rw[ua1 rfl] at am;unfold Oz.maI;by_cases aD:iI≤dJ
   .have bw:decide (iI≤dJ)=K:=ub3 aD;obtain ⟨b,ak⟩:∃ b,decide (dJ+eC≤iI+k9)=b:=⟨_,rfl⟩
    have a1:Hz (r=b):=hD (by
     rw[am,←ak];by_cases ao:dJ+eC≤iI+k9
     .rw[ub3 ao];exact ub3 ⟨aD,ao⟩
     .rw[ua5 ao];exact ua5 (fun h=>ao h.2))
    exact kgM
   .have bw:decide (iI≤dJ)=J:=ua5 aD;have a1:=hD (am.trans (ua5 (fun h=>aD h.1)));exact kgM
  |have a1:=hD (am.trans (ub3 (.inl aD)));have bw:decide (dJ<iI)=K:=ub3 aD;clear am;go_enter func197,ntmps197;go_upto_region 1 with (fail);rw[←cd.o,←e1.o];clear cd e1;go_wp2_with fail;go_ret;exact ⟨by rw[a1.o];rfl,bo.o⟩
 first|guard_hyp tZ|have bw:decide (dJ<iI)=J:=ua5 aD;by_cases af:dJ=iI
 .first
  |guard_hyp tZ;rw[ua0 dC,ua1 rfl] at am;unfold Oz.mbz;have a1:=hD am;clear am aA bp;go_enter func196,ntmps196
  |have aL:(dJ==iI)=K:=(by rw[af];exact um2 _);obtain ⟨b,ak⟩:∃ b,decide (eC<k9)=b:=⟨_,rfl⟩
   have a1:Hz (r=b):=hD (by
    rw[am,←ak];by_cases ao:eC<k9
    .rw[ub3 ao];exact ub3 (.inr ⟨af,ao⟩)
    .rw[ua5 ao];exact ua5 (fun h=>h.elim aD fun h=>ao h.2))
   clear am af;go_enter func197,ntmps197
  go_upto_region 1 with (fail);rw[←cd.o,←e1.o];clear cd e1;exact kgw
 .first
  |guard_hyp tZ;rw[ua0 dC,ua0 dC] at am;unfold Ev.mbK;by_cases aD:iI+k9≤dJ
   .have bw:decide (iI+k9≤dJ)=K:=ub3 aD;obtain ⟨b,ak⟩:∃ b,decide (dJ-(iI+k9)≤k)=b:=⟨_,rfl⟩
    have a1:Hz (r=b):=hD (by
     rw[am,←ak];by_cases ao:dJ-(iI+k9)≤k
     .rw[ub3 ao];exact ub3 ⟨aD,ao⟩
     .rw[ua5 ao];exact ua5 (fun h=>ao h.2))
    exact kgM
   .have bw:decide (iI+k9≤dJ)=J:=ua5 aD;have a1:=hD (am.trans (ua5 (fun h=>aD h.1)));exact kgM
  |have aL:(dJ==iI)=J:=ua2.2 af;have a1:=hD (am.trans (ua5 (fun h=>h.elim aD fun h=>af h.1)));clear am;go_enter func197,ntmps197;go_upto_region 1 with (fail);rw[←cd.o,←e1.o];clear cd e1;go_wp2_with fail;go_ret;exact ⟨by rw[a1.o];rfl,bo.o⟩):=h
def kjx (f n l:Int) (w:O):L prog 164 #[I .i64 f,I U n,I U l] w fun e w'=>e=ac (V (Ev.inV f n l))∧H w w w':=by
 have dB:=hD (knR l w);obtain ⟨r,am⟩:=xE (Ev.inV f n l);rw[←am];unfold Ev.inV Oz.mab at am;by_cases aD:0≤l∧l≤1152921504606846976
 .by_cases af:0≤f
  .by_cases ao:0≤n
   .by_cases av:f≤l
    .by_cases bk:n≤l-f
     .rw[ub3 aD] at dB;have aL:decide (0≤f)=K:=ub3 af;have bJ:decide (0≤n)=K:=ub3 ao;have dn:decide (f≤l)=K:=ub3 av;have h6:decide (n≤l-f)=K:=ub3 bk;have bj:=uc5 (l-f) oM;have a1:=hD (am.trans (ub3 ⟨aD.1,aD.2,af,ao,av,bk⟩));exact kk9
     .rw[ub3 aD] at dB;have aL:decide (0≤f)=K:=ub3 af;have bJ:decide (0≤n)=K:=ub3 ao;have dn:decide (f≤l)=K:=ub3 av;have h6:decide (n≤l-f)=J:=ua5 bk;have bj:=uc5 (l-f) oM;exact kfo
    .rw[ub3 aD] at dB;have aL:decide (0≤f)=K:=ub3 af;have bJ:decide (0≤n)=K:=ub3 ao;have dn:decide (f≤l)=J:=ua5 av;exact kfo
   .rw[ub3 aD] at dB;have aL:decide (0≤f)=K:=ub3 af;have bJ:decide (0≤n)=J:=ua5 ao;exact kfo
  .rw[ub3 aD] at dB;have aL:decide (0≤f)=J:=ua5 af;exact kfo
 .rw[ua5 aD] at dB;exact kfo
def kph {x aC:Int} (aA:0<x):(1152921504606846976:Int).tdiv x<aC↔Oz.mab / x<aC:=by rw[um7 dC];rfl
def kpf {x:Int} (aA:0<x):0≤(1152921504606846976:Int).tdiv x∧(1152921504606846976:Int).tdiv x≤1152921504606846976:=by refine ⟨Int.tdiv_nonneg dC oM,?_⟩;rw[um7 dC];exact Int.ediv_le_self _ dC
def kpg {x aC:Int} (aA:0<x) (h:¬Oz.mab / x<aC):aC*x≤1152921504606846976:=by have af:aC≤(1152921504606846976:Int) / x:=Int.not_lt.1 h;exact (Int.le_ediv_iff_mul_le aA).1 af
def khl (a k:Int):C:=if k<0 then ag #[I .i64 0,I U 1] else if 0<a∧Oz.mab / a<k then ag #[I .i64 0,I U 2] else ag #[I .i64 (a*k),I U 0]
def kw6 (a k:Int) (aE:0≤a) (ha2:a≤3000) (w:O):L prog 165 #[I .i64 a,I U k] w fun e w'=>e=ac (khl a k)∧H w w w':=by
 have dB:=hD (knR a w);rw[ub3 (show 0≤a∧a≤1152921504606846976 by omega)] at dB;obtain ⟨r,am⟩:=xE (khl a k);rw[←am];unfold khl at am;by_cases aD:k<0
 .rw[ua1 aD] at am;have a1:=hD am;clear am;have Tw:=();exact kgN
 .rw[ua0 aD] at am;by_cases af:0<a
  .have bj:=kpf af;have az:=@kph a k af;have h6:¬(a=0):=oM;obtain ⟨d,hd⟩:=xE ((1152921504606846976:Int).tdiv a);rw[←hd] at bj az;have fn:=uc5 d oM;have zM:(1152921504606846976:Int).tdiv a=d:=hd.symm;by_cases ao:Oz.mab / a<k
   .rw[ua1 ⟨af,ao⟩] at am;have a1:=hD am;have av:=az.2 ao;clear am hd az ao bj;have Tx:=();exact kgN
   .rw[ua0 (fun h=>ao h.2)] at am;have a1:=hD am;have av:¬d<k:=fun h=>ao (az.1 h);have bg:=kpg af ao;rw[uo5] at bg;have hw:0≤a*k:=uq1 aE oM;have bW:=uc5 (a*k) oM;clear am hd az ao bj bg hw;have Ty:=();exact kgN
  .rw[ua0 (fun h=>af h.1)] at am;obtain rfl:a=0:=oM;have a1:=hD (am.trans (by rw[ut9]));clear am;exact kgN
def kvF (a b:Int) (aE: -1152921504606846976≤a∧a≤1152921504606846976) (ak: -1152921504606846976≤b∧b≤1152921504606846976) (F:Nat→Prop) (w:O):L prog 130 #[I .i64 a,I U b] w (kao w F (Ev.maQ a b)):=by obtain ⟨es,bK⟩:=xE (Ev.maQ a b);rw[←bK];unfold Ev.maQ at bK;have Tz:=();exact kcR
def kxO (x aC:Int×Int) (w:O):L prog 197 #[aa #[I .i64 x.1,I U x.2],aa #[I .i64 aC.1,I U aC.2]] w fun e w'=>e=ac (V (Ev.mau x aC))∧H w w w':=by exact kmu
def kvv (op:List UInt8) (x aC:Int×Int) (k:Int) (ba:op=Oz.maI∨op=Oz.mbz∨op=Ev.mbK) (aA:0≤x.1∧x.1≤1152921504606846976∧0≤x.2∧x.2≤1152921504606846976) (bp:0≤aC.1∧aC.1≤1152921504606846976∧0≤aC.2∧aC.2≤1152921504606846976) (w:O):L prog 196 #[Q ⟨op.toArray⟩,aa #[I .i64 x.1,I U x.2],aa #[I .i64 aC.1,I U aC.2],I U k] w fun e w'=>e=ac (V (Ev.mbI op x aC k))∧H w w w':=by have tZ:=();exact kmu
theorem krd:∀(n:Nat),kfk n
 |0=>fun r ax=>by have:=r.size_pos;omega
 |n+1=>by
  intro r ax t cs w F g f au hF b5 aB al j9 iu lc;obtain ⟨k,aT,aU,aX,a2,lo,hi,ps⟩:=r;have bQ:=krd n;unfold Rx.fmd at b5;unfold Rx.mat at aB;obtain ⟨aw,eE⟩:=b5;obtain ⟨-,t0,bb,db,t3, -, -, -, -,dw⟩:=aB;rcases aw with ⟨rfl,⟨rfl,rfl,rfl,rfl⟩,rfl,rfl,az⟩|⟨rfl,rfl,rfl,az⟩|⟨rfl,⟨rfl,rfl,rfl,rfl⟩,rfl,rfl,az⟩|⟨rfl,⟨rfl,rfl,rfl,rfl⟩,rfl,rfl,az⟩|⟨rfl,⟨rfl,rfl,rfl,rfl⟩,az,aD,af,ao⟩
  .exact kzB n bQ ps ax t cs w F g f au hF eE dw al j9 iu lc
  .exact kzA n bQ aT aU aX a2 ps ax t cs w F g f au hF az t0 bb db t3 eE dw al j9 iu lc
  .exact kzz n bQ ps ax t cs w F g f au hF eE dw al j9 iu lc
  .exact kzy n bQ ps ax t cs w F g f au hF eE dw al j9 iu lc
  .exact kzx n bQ lo hi ps ax t cs w F g f au hF az aD af oM oM eE dw al j9 iu lc
def kAe (t:List UInt8) (p:Nat):(ByteArray.mk t.toArray).extract p t.length=⟨(t.drop p).toArray⟩:=by rw[ur7];congr 2;exact ui7 (by simp)
def kvq (n:Nat):(List.replicate (n+1) J).set 0 K=K::List.replicate n J:=rfl
def kzo (r:Rx) (t:List UInt8) (p:Nat) (cs:List C) (w:O) (F:Nat→Prop) (h:RxOk w F r cs) (aO:p≤t.length) (lc:t.length≤100000):
 L prog 217 #[aa cs.toArray,Q ⟨t.toArray⟩,I U p] w (kdk w (Rg.fromV r t p)):=by
 have dN:=bZ t;have TA:(ByteArray.mk (t.drop p).toArray).size=t.length-p:=(by simp[ByteArray.size]);obtain ⟨kd,a0,aY,bh,a3,lo,hi,A,n,c,rfl⟩:=h.v.eight;obtain ⟨d,hd⟩:=xE (t.length-p);rw[←hd] at TA;have cW:=hD hd;have hQ:Hz (∀ W:O,(Instr.makeSlice 276 (I U ((d:Int)+1)) (I U ((d:Int)+1))).run prog W= .ok (D (N ⟨W,0,Z⟩) (d+1) (d+1)) (W.alloc (y (kbI (List.replicate (d+1) J)) 4))):=hD (fun W=>by have:=kfY (d+1) oM W;rw[show ((d+1:Nat):Int)=(d:Int)+1 by omega] at this;exact this);have eD:(p:Int)≤(t.length:Int):=oM;have eS:=nN p;obtain ⟨aq,aQ⟩:=xE (w.alloc (y #[I .i64 kd,I Y a0,I Y aY,I Y bh,I Y a3,I U lo,I U hi,D A n c] 105));have dT:=bR aQ;have c4:=bA aQ;have fy:=wS aQ;have fP:=kat aq (y (kbI (List.replicate (d+1) J)) 4);have wI:BoAt (aq.alloc (y (kbI (List.replicate (d+1) J)) 4)) (w.heap.size+1) (List.replicate (d+1) J):=(by rw[←fy];exact Blk.new aq _ _);obtain ⟨aF,bW⟩:=xE (aq.alloc (y (kbI (List.replicate (d+1) J)) 4));rw[←bW] at wI fP;have bu:aF.cell? ⟨w.heap.size+1,0,Z⟩=N (V J):=(wI.cell 0).trans (kdg rfl);have bY:=wI.frozen 0;have jI:=fP.setCell (p:=⟨w.heap.size+1,0,Z⟩) (by show aq.heap.size≤w.heap.size+1;omega) (V K);have mE:=Blk.mac wI 0 (V K);rw[khI,kvq] at mE;obtain ⟨a6,cl⟩:=xE (aF.setCell ⟨w.heap.size+1,0,Z⟩ (V K));rw[←cl] at jI mE;have iM:=c4.trans (jI.mono c4.size);have e8:=dT.below jI dT.lt;have av:=h.below iM (nR);have ce:=krd r.size r (nR) (t.drop p) _ a6 F (w.heap.size+1) (K::List.replicate d J) av.v av.F av.fmd av.mat av.big mE (by simp;omega) (by simp;omega);rw[uc8,uj9,hd] at ce;have bq:Hz (L prog 230 #[aa #[I .i64 kd,I Y a0,I Y aY,I Y bh,I Y a3,I U lo,I U hi,D A n c],Q ⟨(t.drop p).toArray⟩,D (N ⟨w.heap.size+1,0,Z⟩) (d+1) (d+1)] a6 (kdk a6 (Rg.fromV r t p))):=hD (by rw[hd];exact ce);obtain ⟨bU,cX,cd,e1,ea⟩:=hd5 iM e8 aQ bW cl;have mR:d≤100000:=oM;have cU:(0:Int)<((d:Int)+1):=oM;obtain ⟨⟨⟨aN,aM⟩,aZ,bC⟩,⟨b1,c5⟩,ct,bI⟩:=e8.cells;clear ce dT c4 aQ fP wI bW jI mE cl iM e8 av hd h;go_enter func217,ntmps217;go_upto_region 2 with (fail);rw[kAe,←cd.o];have nE:=hQ.o;go_upto_region 3 with (fail);clear nE;rw[←e1.o];go_upto_region 4 with (fail);rw[←ea.o];clear bu bY;go_wp2_with fail;refine bq.o.mono ?_;rintro cG aK ⟨bv,iA,s8,rfl,gc⟩;have cA:=bT bU bv;have n3:=hD gc;have Cr:=bU.o.size;clear bv gc bq aN aM aZ bC b1 c5 ct bI;go_wp2_with fail;go_ret;exact ⟨cA.o,iA,oM,rfl,n3.o⟩
def klt (h:P:=by
 go_wp2_with fail;go_roundg f
 case measure=>omega
 case rel=>exact ⟨k+1,by go_num,oM,oM,by rw[eY.o];rfl,rfl⟩):=h
def kze (r:Rx) (t:List UInt8) (p:Nat) (cs:List C) (w:O) (F:Nat→Prop) (h:RxOk w F r cs) (aO:p≤t.length) (lc:t.length≤100000):
 L prog 194 #[aa cs.toArray,Q ⟨t.toArray⟩,I U p] w fun e w'=>e=ac (I U (Rg.mbt r t p))∧H w w w':=by
 obtain ⟨kd,a0,aY,bh,a3,lo,hi,A,n,c,rfl⟩:=h.v.eight;obtain ⟨l,az⟩:=xE (Rg.fromV r t p);have k5:l.length=t.length-p+1:=(by rw[az];exact kri r t p aO);obtain ⟨R,aH⟩:=xE (Rg.mbt r t p);rw[←aH];unfold Rg.mbt at aH;rw[←az] at aH;obtain ⟨aq,aQ⟩:=xE (w.alloc (y #[I .i64 kd,I Y a0,I Y aY,I Y bh,I Y a3,I U lo,I U hi,D A n c] 105));have dT:=bR aQ;have c4:=bA aQ;have hF:=kzo r t p _ aq F (h.below c4 (nR)) aO lc;rw[←az] at hF;obtain ⟨b4,a7,cd,a1⟩:=hd4 hF c4 aQ aH;have AL:l.length≤100001:=oM;obtain ⟨⟨⟨aN,aM⟩,aZ,bC⟩,⟨b1,c5⟩,ct,bI⟩:=dT.cells;clear hF c4 dT aQ aH az k5 h;go_enter func194,ntmps194;go_upto_region 1 with (fail);rw[←cd.o];go_wp2_with fail;refine b4.o.mono ?_;rintro cG aF ⟨bs,g,hg,rfl,bf⟩;have bo:=bT a7 bs;have c1:=hD bf;clear bs bf b4 aN aM aZ bC b1 c5 ct bI;go_wp2_with fail;go_loopg [7,9] (l.length+1) (fun f b i wr=>∃ k:Nat,i=I U k∧k≤l.length∧l.length<k+f∧b=I U (Rg.mbo 0 (l.take k) (-1))∧aF=wr)
 case atStart=>exact ⟨0,rfl,oM,oM,rfl,rfl⟩
 case round=>
  obtain ⟨k,rfl,aw,fo,rfl,rfl⟩:=hrel;obtain ⟨f,rfl⟩:=xS gk;by_cases bG:k<l.length
  .obtain ⟨x,aA⟩:=xG l bG;have bY:aF.cell? ⟨g,k,Z⟩=N (V x):=(c1.o.cell k).trans (kdg aA);have eY:=hD (kyd aA);have eD:(k:Int)<(l.length:Int):=oM;have eS:=nN k;clear aA
   cases x with
   |true=>exact klt
   |false=>exact klt
  .obtain rfl:k=l.length:=oM;rw[uf2];exact kgw
def kjG:Option (Nat×Int)→C
 |none=>ag #[aa #[I .i64 0,I U 0],V false]
 |some x=>ag #[aa #[I .i64 (x.1:Nat),I U x.2],V true]
def kzv (r:Rx) (t:List UInt8) (p:Nat) (cs:List C) (w:O) (F:Nat→Prop) (h:RxOk w F r cs) (aO:p≤t.length+1) (lc:t.length≤100000):
 L prog 163 #[aa cs.toArray,Q ⟨t.toArray⟩,I U p] w fun e w'=>e=ac (kjG (Ev.mbB (Rg.mbt r t) t.length (t.length+1-p) p))∧H w w w':=by
 have dN:=bZ t;obtain ⟨kd,a0,aY,bh,a3,lo,hi,A,n,c,rfl⟩:=h.v.eight;obtain ⟨R,aH⟩:=xE (Ev.mbB (Rg.mbt r t) t.length (t.length+1-p) p);rw[←aH];have a1:=hD aH;have ge:=hD h;obtain ⟨aq,aQ⟩:=xE (w.alloc (y #[I .i64 kd,I Y a0,I Y aY,I Y bh,I Y a3,I U lo,I U hi,D A n c] 105));have dT:=bR aQ;have c4:=bA aQ;have fy:=wS aQ;have fP:=kat aq (y #[I .i64 0,I U 0] 91);have nH:Blk (aq.alloc (y #[I .i64 0,I U 0] 91)) (w.heap.size+1) 91 #[I .i64 0,I U 0]:=(by rw[←fy];exact Blk.new aq _ _);obtain ⟨aF,bW⟩:=xE (aq.alloc (y #[I .i64 0,I U 0] 91));rw[←bW] at nH fP;obtain ⟨co,ex,bo,cd,e1⟩:=hd5 (dT.below fP dT.lt) nH (c4.trans (fP.mono c4.size)) aQ bW;clear dT c4 aQ fP nH bW aH h;go_enter func163,ntmps163;go_upto_region 1 with (fail);rw[←cd.o,←e1.o];go_wp2_with fail;go_loopg [8] (t.length+3) (fun f at_ wr=>∃ k:Nat,at_=I U k∧k≤t.length+1∧t.length+1<k+f∧Hz (Ev.mbB (Rg.mbt r t) t.length (t.length+1-k) k=R)∧Hz (R8 wr w (I U kd) (I Y a0) (I Y aY) (I Y bh) (I Y a3) (I U lo) (I U hi) (D A n c))∧Hz (Blk wr (w.heap.size+1) 91 #[I .i64 0,I U 0])∧Hz (H w w wr))
 case atStart=>exact ⟨p,rfl,aO,oM,hD a1.o.symm,co,ex,bo⟩
 case round=>
  clear co ex bo;obtain ⟨k,rfl,aw,fo,bq,sn,b7,aV⟩:=hrel;obtain ⟨f,rfl⟩:=xS gk;obtain ⟨⟨⟨aN,aM⟩,aZ,bC⟩,⟨b1,c5⟩,ct,bI⟩:=sn.o.cells;have s0:=b7.o.cell 0;have s1:=b7.o.cell 1;simp only[gA,gB,gC] at s0 s1;have f0:=b7.o.frozen 0;have b2:=b7.o.frozen 1;by_cases bG:k≤t.length
  .have az:=kze r t k _ wr F (ge.o.below aV.o (nR)) bG lc;have k5:=kjT r t k bG;have aG:=bq.o;rw[show t.length+1-k=t.length-k+1 by omega,Ev.mbB,ua0 oM] at aG;obtain ⟨m,bg⟩:=xE (Rg.mbt r t k);rw[←bg] at az k5 aG;have eg:=hD az;have hx:=hD aG;clear az bg aG bq;go_wp2_with fail;refine eg.o.mono ?_;rintro cG aK ⟨rfl,bv⟩;have cA:=bT aV bv;have da:=hD (sn.o.below bv sn.o.lt);have lK:=b7.o.below bv b7.o.lt;have fO:=hD lK;clear s0 s1 f0 b2 aN aM aZ bC b1 c5 ct bI;have s0:=lK.cell 0;have s1:=lK.cell 1;simp only[gA,gB,gC] at s0 s1;have f0:=lK.frozen 0;have b2:=lK.frozen 1;have gN:=hD (Blk.mac (Blk.mac lK 0 (I U k)) 1 (I U m));have cN:=hD ((cA.o.setCell (p:=⟨w.heap.size+1,0,Z⟩) (by show w.heap.size≤w.heap.size+1;omega) (I U k)).setCell (p:=⟨w.heap.size+1,1,Z⟩) (by show w.heap.size≤w.heap.size+1;omega) (I U m));clear bv lK eg aV sn b7;by_cases hw:0≤m
   .have aG:=hx.o;rw[ua1 hw] at aG;have eL:=hD aG;clear aG;go_wp2_with fail;have bi:=gN.o.cell 0;have aW:=gN.o.cell 1;simp only[gE,gF,gG,gA,gB,gC] at bi aW;refine ub2 (v:=ag #[aa #[I .i64 k,I U m],V K]) (by simp[results,results163,go_sem,bi,aW]) rfl ?_;exact ⟨by rw[←eL.o];rfl,cN.o⟩
   .have aG:=hx.o;rw[ua0 hw,show t.length-k=t.length+1-(k+1) by omega] at aG;have eL:=hD aG;clear aG;go_wp2_with fail;go_roundg f
    case measure=>omega
    case rel=>exact ⟨k+1,by go_num,oM,oM,eL,da,fO,cA⟩
  .obtain rfl:k=t.length+1:=oM;have aG:=bq.o;rw[uo8,Ev.mbB] at aG;have eL:=hD aG;have mX:=Blk.mac (Blk.mac b7.o 0 (I U 0)) 1 (I U 0);have gN:=hD mX;have cN:=hD ((aV.o.setCell (p:=⟨w.heap.size+1,0,Z⟩) (by show w.heap.size≤w.heap.size+1;omega) (I U 0)).setCell (p:=⟨w.heap.size+1,1,Z⟩) (by show w.heap.size≤w.heap.size+1;omega) (I U 0));clear aG mX bq;go_wp2_with fail;have bi:=gN.o.cell 0;have aW:=gN.o.cell 1;simp only[gE,gF,gG,gA,gB,gC] at bi aW;refine ub2 (v:=ag #[aa #[I .i64 0,I U 0],V J]) (by simp[results,results163,go_sem,bi,aW]) rfl ?_;exact ⟨by rw[←eL.o];rfl,cN.o⟩
def keV:(prog.info? 91).map (fun i=>(i.zero,i.size,i.bytes))=N (N (aa #[I .i64 0,I U 0]),2,16):=kR
def kfe (r:Rx) (t:List UInt8):List (Int×Int):=Ev.mbj (Rg.mbt r t) t.length (t.length+1) 0
theorem kCN {lg:Nat→Int} {len:Nat} :∀(f p:Nat),len<p→Ev.mbj lg len f p=[]
 |0,_,_=>rfl
 |f+1,p,h=>by rw[Ev.mbj,show len+1-p=0 by omega];rfl
theorem kCO {lg:Nat→Int} {len f p:Nat} (h:Ev.mbB lg len (len+1-p) p=Z):Ev.mbj lg len f p=[]:=by
 cases f with
 |zero=>rfl
 |succ f=>rw[Ev.mbj,h]
def kCM {lg:Nat→Int} {len f p a:Nat} {n:Int} (h:Ev.mbB lg len (len+1-p) p=N (a,n)):Ev.mbj lg len (f+1) p=((a:Int),n)::Ev.mbj lg len f (if n=0 then a+1 else a+n.toNat):=by rw[Ev.mbj,h]
theorem kjH {lg:Nat→Int} {len:Nat} :∀ {f p a:Nat} {n:Int},Ev.mbB lg len f p=N (a,n)→n=lg a
 |0,_,_,_,h=>by cases h
 |f+1,p,a,n,h=>by
  rw[Ev.mbB] at h;split at h
  .cases h
  split at h
  .injection h with h;injection h with af ao;rw[←af,←ao]
  .exact kjH h
def khM (w:O) (l:List (Int×Int)) (e:Ending) (w':O):Prop:=H w w w'∧∃ A c,e=ac (D A l.length c)∧l.length≤c∧SpV w' (fun i=>w.heap.size≤i) A l
def kfM {w:O} {base n:Nat} {A:Option ae} {c:Nat} {l:List (Int×Int)} (h:w.ownsRow base 91 2 (D A n c) n (sgC l)) (ax:n=l.length):SpV w (fun i=>base≤i) A l∧l.length≤c:=by
 subst ax;obtain ⟨dd,cS,aG,am⟩:=kds h;injection aG with af ao av;subst af av;refine ⟨am,?_⟩;rcases h.2 with ⟨af,ao⟩|⟨g,cap,cur,af,_,_,qk,_⟩
 .have:=(uj2 af).2.1;omega
 .have:=(uj2 af).2.2;omega
def kzH (r:Rx) (t:List UInt8) (cs:List C) (w:O) (F:Nat→Prop) (h:RxOk w F r cs) (lc:t.length≤100000):
 L prog 126 #[aa cs.toArray,Q ⟨t.toArray⟩] w (khM w (kfe r t)):=by
 have dN:=bZ t;obtain ⟨kd,a0,aY,bh,a3,lo,hi,A,n,c,rfl⟩:=h.v.eight;obtain ⟨bl,cR⟩:=xE (kfe r t);rw[←cR];have eg:=hD cR;have ge:=hD h;have dI:Hz (R8 (w.alloc (y #[I .i64 kd,I Y a0,I Y aY,I Y bh,I Y a3,I U lo,I U hi,D A n c] 105)) w (I U kd) (I Y a0) (I Y aY) (I Y bh) (I Y a3) (I U lo) (I U hi) (D A n c)):=hD (Blk.new w _ _);have a7:=hD (kat w (y #[I .i64 kd,I Y a0,I Y aY,I Y bh,I Y a3,I U lo,I U hi,D A n c] 105));obtain ⟨aq,aQ⟩:=xE (w.alloc (y #[I .i64 kd,I Y a0,I Y aY,I Y bh,I Y a3,I U lo,I U hi,D A n c] 105));rw[←aQ] at dI a7;have fy:=wS aQ;have cd:=hD aQ;obtain ⟨eX,cM,hi0,hi1,hi2⟩:=ug6 keV;obtain ⟨dc,jP,jQ,jR⟩:=hd4 cM hi0 hi1 hi2;clear aQ cR h cM hi0 hi1 hi2;go_enter func126,ntmps126;go_upto_region 1 with (fail);rw[←cd.o];go_wp2_with fail;go_loopg [5,6] (t.length+3) (fun f v xJ wr=>∃(k f9:Nat) (out:List (Int×Int)) (dF:Option ae) (eB:Nat),xJ=I U k∧v=D dF out.length eB∧k≤t.length+1∧t.length+1<k+f∧t.length+1≤k+f9∧out.length≤k∧w.heap.size+1≤wr.heap.size∧Hz (out++Ev.mbj (Rg.mbt r t) t.length f9 k=bl)∧Hz (wr.ownsRow (w.heap.size+1) 91 2 (D dF out.length eB) out.length (sgC out))∧Hz (R8 wr w (I U kd) (I Y a0) (I Y aY) (I Y bh) (I Y a3) (I U lo) (I U hi) (D A n c))∧Hz (H w w wr))
 case atStart=>exact ⟨0,t.length+1,[],Z,0,rfl,rfl,oM,oM,oM,nR,oM,hD eg.o.symm,hD ⟨rfl, .inl ⟨rfl,rfl⟩⟩,dI,a7⟩
 case round=>
  clear dI a7 fy;obtain ⟨k,f9,out,dF,eB,rfl,rfl,aw,fo,SW,q0,pf,bq,dB,sn,aV⟩:=hrel;obtain ⟨f,rfl⟩:=xS gk;obtain ⟨⟨⟨aN,aM⟩,aZ,bC⟩,⟨b1,c5⟩,ct,bI⟩:=sn.o.cells;by_cases bG:k≤t.length
  .have b5:=kzv r t k _ wr F (ge.o.below aV.o (nR)) oM lc;obtain ⟨TB,hq⟩:=xE (Ev.mbB (Rg.mbt r t) t.length (t.length+1-k) k);rw[←hq] at b5;have b4:=hD b5;have c1:=hD hq;clear b5 hq;go_wp2_with fail;refine b4.o.mono ?_;rintro cG aK ⟨rfl,bv⟩;have cA:=bT aV bv;have da:=hD (sn.o.below bv sn.o.lt);have h7:=hD (kaI dB.o bv);have r8:=bv.size;clear bv b4 aV sn dB aN aM aZ bC b1 c5 ct bI
   cases TB with
   |none=>have aG:=bq.o;rw[kCO c1.o.symm,ug2] at aG;have au:=kfM (kaI h7.o (kat aK (y #[I .i64 0,I U 0] 91))) rfl;have m7:=hD (au.1.keep (G:=fun i=>w.heap.size≤i) (fun _ _ _=>rfl) (nR) (fun i (hi:w.heap.size+1≤i) _=>by show w.heap.size≤i;omega));obtain ⟨pY,eL,cN⟩:=hd3 au.2 aG (cA.o.alloc cA.o.size (y #[I .i64 0,I U 0] 91));clear aG au;unfold kjG;go_wp2_with fail;go_ret;rw[←eL.o];exact ⟨cN.o,dF,eB,rfl,pY.o,m7.o⟩
   |some x=>
    obtain ⟨a,m⟩:=x;have aE:=kfQ c1.o.symm;have bg:=kjH c1.o.symm;have jl:=kjT r t a aE.2.1;rw[←bg] at jl;obtain ⟨f9,rfl⟩:∃ f,f9=f+1:=⟨f9-1,oM⟩;have aG:=bq.o;rw[kCM c1.o.symm] at aG;have eL:=hD aG;unfold kjG;dsimp only;have i4:=hD (Blk.new aK 91 #[I .i64 a,I U m]);have cQ:=kat aK (y #[I .i64 a,I U m] 91);have dQ:=hD (da.o.below cQ da.o.lt);have o2:=hD (kaI h7.o cQ);have cN:=bT cA cQ;obtain ⟨bm,eM⟩:=xE (aK.alloc (y #[I .i64 a,I U m] 91));rw[←eM] at i4 dQ o2 cN;have tA:=wS eM;have g9:=hD eM;have i7:=hD (fun (i:Nat) (e:(D dF out.length eB).ownBlock=N i)=>kbM h7.o e);clear aG cQ eM bg bq c1;go_upto_region 5 with (fail);rw[←g9.o];have be:=i4.o.cell 0;have b8:=i4.o.cell 1;simp only[gA,gB,gC] at be b8;have hr:=kaI o2.o (kat bm (y #[I .i64 a,I U m] 91));have e9:Reads (bm.alloc (y #[I .i64 a,I U m] 91)) (bm.heap.size+1) 2 (N ⟨bm,0,Z⟩) 1 [I .i64 a,I U m]:=⟨rfl,fun _=>⟨_,rfl,by simp,fun j u aI=>kcI bm #[I .i64 a,I U m] 91 j u aI⟩⟩;have d9:∀ u∈([I .i64 a,I U m]:List C),u.oneCell'=K:=(by simp[Value.oneCell']);rw[tA] at e9;have cM:=dc.o;have hi0:=jP.o;have hi1:=jQ.o;have hi2:=jR.o;(go_wp2_with (at_builtin;refine kbs _ rfl (.tmp 22) (.tmp 24) 38 rfl (w.heap.size+1) 91 eX (aa #[I .i64 0,I U 0]) 2 16 underlying38 cM hi0 hi1 hi2 rfl dC _ out.length _ rfl hr _ _ _ _ [I .i64 a,I U m] rfl e9 d9 (by unfold maxLen;omega) oM (by simp;omega) ?_));intro eQ dl fm fV j2;obtain ⟨e4,bI,rfl⟩:=kaA fm;have gT:=(kbR (kat bm (y #[I .i64 a,I U m] 91)) (D dF out.length eB).ownBlock).trans fV;have k4:=i4.o.grown gT (fun e=>by have:=i7.o _ e.symm;omega);have o0:=hD (dQ.o.grown gT (fun e=>by have:=i7.o _ e.symm;omega));have f2:=hD (cN.o.grown gT cN.o.size (fun j e=>by have:=i7.o _ e;omega));have kh:Hz (dl.ownsRow (w.heap.size+1) 91 2 (D e4 (out.length+1) bI) (out++[((a:Int),m)]).length (sgC (out++[((a:Int),m)]))):=hD (by rw[kdn,ua6];exact fm);have EP:=gT.size;clear be b8 hr e9 d9 cM hi0 hi1 hi2 fm fV j2 gT;have be:=k4.cell 0;have b8:=k4.cell 1;simp only[gA,gB,gC] at be b8;clear k4;have rn:=uc5 ((a:Int)+m) oM;by_cases hw:m=0
    .have bw:(m==0)=K:=(by rw[hw];rfl);have jV:=uc5 ((a:Int)+m+1) oM;have aG:=eL.o;rw[ua1 hw,List.append_cons] at aG;have oc:=hD aG;clear aG eL;go_wp2_with fail;go_roundg f
     case measure=>omega
     case rel=>exact ⟨a+1,f9,out++[((a:Int),m)],e4,bI,by subst hw;simp,by rw[ua6];rfl,oM,oM,oM,by rw[ua6];simp;omega,oM,oc,by rw[ua6] at kh ⊢;exact kh,o0,f2⟩
    .have bw:(m==0)=J:=(by simp;exact hw);have aG:=eL.o;rw[ua0 hw,List.append_cons] at aG;have oc:=hD aG;clear aG eL;go_wp2_with fail;go_roundg f
     case measure=>omega
     case rel=>exact ⟨a+m.toNat,f9,out++[((a:Int),m)],e4,bI,by congr 1;omega,by rw[ua6];rfl,oM,oM,oM,by rw[ua6];simp;omega,oM,oc,by rw[ua6] at kh ⊢;exact kh,o0,f2⟩
  .have aG:=bq.o;rw[kCN f9 k oM,ug2] at aG;have au:=kfM dB.o rfl;have m7:=hD (au.1.keep (G:=fun i=>w.heap.size≤i) (fun _ _ _=>rfl) (nR) (fun i (hi:w.heap.size+1≤i) _=>by show w.heap.size≤i;omega));have pY:=hD au.2;have eL:=hD aG;clear aG au;go_wp2_with fail;go_ret;rw[←eL.o];exact ⟨aV.o,dF,eB,rfl,pY.o,m7.o⟩
def klO (h:P:=by have au:=kfM dB.o rfl;obtain ⟨m7,pY,eL⟩:=hd3 au.1 au.2 aG;clear aG au bq;go_wp2_with fail;go_ret;rw[←eL.o];exact ⟨aV.o,dF,eB,rfl,pY.o,m7.o⟩):=h
def klN (h:P:=by
 clear bu bY bp;go_wp2_with fail;go_quiet (fail);go_wp2_with fail;go_roundg f
 case measure=>omega
 case rel=>exact ⟨k+1,by go_num,oM,oM,jv,hD (kgg aV.o _)⟩):=h
def kpY {l:List (Int×Int)} {k:Nat} {x aC:Int×Int} (ax:x∉l.take k) (bp:l[k]? =N aC) (ch:aC≠x):x∉l.take (k+1):=by
 rw[ue0,bp];intro bg;rcases uh2.1 bg with h|h
 .exact ax h
 .exact ch (by simpa[eq_comm] using h)
def kqz (l:List (Int×Int)) (x:Int×Int) (A:Option ae) (c:Nat) (w:O) (F:Nat→Prop) (h:SpV w F A l) (az:l.length≤100000):
 L prog 168 #[D A l.length c,aa #[I .i64 x.1,I U x.2]] w fun e w'=>e=ac (V (decide (x∈l)))∧H w w w':=by
 obtain ⟨r,am⟩:=xE (decide (x∈l));rw[←am];have kc:=hD am;have b7:=hD h;obtain ⟨dJ,eC⟩:=x;dsimp only;obtain ⟨aq,aQ⟩:=xE (w.alloc (y #[I .i64 dJ,I U eC] 91));have np:=bM aQ;have c4:=bA aQ;have fy:=wS aQ;obtain ⟨mn,a7,cd⟩:=hd3 np c4 aQ;clear np c4 aQ h am;go_enter func168,ntmps168;go_upto_region 1 with (fail);rw[←cd.o];clear cd;go_wp2_with fail;go_loopg [5] (l.length+1) (fun f i wr=>∃ k:Nat,i=I U k∧k≤l.length∧l.length<k+f∧Hz ((dJ,eC)∉l.take k)∧Hz (H aq aq wr))
 case atStart=>exact ⟨0,rfl,oM,oM,hD (by simp),hD (ub5 _ _)⟩
 case round=>
  obtain ⟨k,rfl,aw,fo,bF,aV⟩:=hrel;obtain ⟨f,rfl⟩:=xS gk;have f7:=hD (a7.o.trans (aV.o.mono a7.o.size));have d6:=mn.o.below aV.o mn.o.lt;have be:=d6.cell 0;have b8:=d6.cell 1;simp only[gA,gB,gC] at be b8;clear d6;by_cases bG:k<l.length
  .obtain ⟨aC,bp⟩:=xG l bG;obtain ⟨b,o,rfl, -,eZ,bu,bY⟩:=b7.o.at_ bp;have z0:=(f7.o.cell (p:=⟨b,o+k*2,Z⟩) eZ).trans bu;have ca:=(f7.o.cell (p:=⟨b,o+k*2+1,Z⟩) eZ).trans bY;obtain ⟨iI,k9⟩:=aC;dsimp only at z0 ca;have cU:(k:Int)<(l.length:Int):=oM;have bE:=nN k;by_cases af:iI=dJ
   .subst af;by_cases ao:k9=eC
    .subst ao;have a1:Hz (r=K):=hD (kc.o.trans (ub3 (ua4 bp)));clear bu bY bp;go_wp2_with fail;go_quiet (fail);go_wp2_with fail;go_ret;exact ⟨by rw[a1.o];rfl,kgg f7.o _⟩
    .have jv:=hD (kpY bF.o bp (fun e=>ao (by injection e)));exact klN
   .have jv:=hD (kpY bF.o bp (fun e=>af (by injection e)));exact klN
  .obtain rfl:k=l.length:=oM;have ax:=bF.o;rw[uf2] at ax;have a1:Hz (r=J):=hD (kc.o.trans (ua5 ax));clear ax;go_wp2_with fail;go_ret;exact ⟨by rw[a1.o];rfl,f7.o⟩
def kvn (i f:Int):Ev.maE i f []=[(f,i-f)]:=rfl
def kvm {t:List UInt8} {k:Nat} {b:UInt8} (h:t[k]? =N b) (i f:Int):Ev.maE i f (t.drop k)=if b=10 then (f,i-f)::Ev.maE (i+1) (i+1) (t.drop (k+1)) else Ev.maE (i+1) f (t.drop (k+1)):=by obtain ⟨aw,aG⟩:=ue1.1 h;rw[ue7 aw,Ev.maE,aG]
def kjm (t:List UInt8) (w:O) (aB:t.length≤100000):L prog 129 #[Q ⟨t.toArray⟩] w (khM w (Ev.maX t)):=by
 have dN:=bZ t;obtain ⟨bl,cR⟩:=xE (Ev.maX t);rw[←cR];have eg:=hD cR;clear cR;obtain ⟨eX,cM,hi0,hi1,hi2⟩:=ug6 keV;obtain ⟨dc,jP,jQ,jR⟩:=hd4 cM hi0 hi1 hi2;clear cM hi0 hi1 hi2;go_enter func129,ntmps129;go_wp2_with fail;go_loopg [3,4,5] (t.length+2) (fun f v xJ nW wr=>∃(k f0:Nat) (out:List (Int×Int)) (dF:Option ae) (eB:Nat),nW=I U k∧xJ=I U f0∧v=D dF out.length eB∧k≤t.length+1∧t.length+1<k+f∧f0≤k∧out.length≤k∧Hz (if k≤t.length then out++Ev.maE k f0 (t.drop k)=bl else out=bl)∧Hz (wr.ownsRow w 91 2 (D dF out.length eB) out.length (sgC out))∧Hz (H w w wr))
 case atStart=>exact ⟨0,0,[],Z,0,rfl,rfl,rfl,oM,oM,nR,nR,hD (by rw[ua1 (ud1 _)];exact eg.o.symm),hD ⟨rfl, .inl ⟨rfl,rfl⟩⟩,hD (ub5 _ _)⟩
 case round=>
  clear eg;obtain ⟨k,f0,out,dF,eB,rfl,rfl,rfl,aw,fo,IH,q0,bq,dB,aV⟩:=hrel;obtain ⟨f,rfl⟩:=xS gk;by_cases bG:k≤t.length
  .have aG:=bq.o;rw[ua1 bG] at aG;have pf:w.heap.size≤wr.heap.size:=aV.o.size;have uT:=uc5 ((k:Int)-(f0:Int)) oM;have aQ:=uc5 ((k:Int)+1) oM;have j4:(k:Int)≤(t.length:Int):=oM;have i7:=hD (fun (i:Nat) (e:(D dF out.length eB).ownBlock=N i)=>kbM dB.o e);by_cases pS:k=t.length
   .subst pS;rw[ug8 (nR),kvn] at aG;have bw:((t.length:Int)==(t.length:Int))=K:=um2 _;have eL:Hz (if t.length+1≤t.length then out++[((f0:Int),(t.length:Int)-f0)]++Ev.maE (t.length+1:Nat) (t.length+1:Nat) (t.drop (t.length+1))=bl else out++[((f0:Int),(t.length:Int)-f0)]=bl):=hD (by rw[ua0 oM];exact aG);clear aG bq;have hr:=kaI dB.o (kat wr (y #[I .i64 (f0:Int),I U ((t.length:Int)-(f0:Int))] 91));have e9:Reads (wr.alloc (y #[I .i64 (f0:Int),I U ((t.length:Int)-(f0:Int))] 91)) (wr.heap.size+1) 2 (N ⟨wr,0,Z⟩) 1 [I .i64 (f0:Int),I U ((t.length:Int)-(f0:Int))]:=⟨rfl,fun _=>⟨_,rfl,by simp,fun j u aI=>kcI wr #[I .i64 (f0:Int),I U ((t.length:Int)-(f0:Int))] 91 j u aI⟩⟩;have d9:∀ u∈([I .i64 (f0:Int),I U ((t.length:Int)-(f0:Int))]:List C),u.oneCell'=K:=(by simp[Value.oneCell']);have cM:=dc.o;have hi0:=jP.o;have hi1:=jQ.o;have hi2:=jR.o;(go_wp2_with (at_builtin;refine kbs _ rfl (.tmp 22) (.tmp 28) 38 rfl w 91 eX (aa #[I .i64 0,I U 0]) 2 16 underlying38 cM hi0 hi1 hi2 rfl dC _ out.length _ rfl hr _ _ _ _ [I .i64 (f0:Int),I U ((t.length:Int)-(f0:Int))] rfl e9 d9 (by unfold maxLen;omega) oM (by simp;omega) ?_));intro eQ dl fm fV j2;obtain ⟨e4,bI,rfl⟩:=kaA fm;have gT:=(kbR (kat wr (y #[I .i64 (f0:Int),I U ((t.length:Int)-(f0:Int))] 91)) (D dF out.length eB).ownBlock).trans fV;have f2:=hD (aV.o.grown gT pf (fun j e=>(i7.o _ e).1));have kh:Hz (dl.ownsRow w 91 2 (D e4 (out.length+1) bI) (out++[((f0:Int),(t.length:Int)-f0)]).length (sgC (out++[((f0:Int),(t.length:Int)-f0)]))):=hD (by rw[kdn,ua6];exact fm);clear hr e9 d9 cM hi0 hi1 hi2 fm fV j2 gT;go_wp2_with fail;go_roundg f
    case measure=>omega
    case rel=>exact ⟨t.length+1,t.length+1,out++[((f0:Int),(t.length:Int)-f0)],e4,bI,by go_num,by go_num,by rw[ua6];rfl,oM,oM,oM,by rw[ua6];simp;omega,eL,by rw[ua6] at kh ⊢;exact kh,f2⟩
   .have gp:k<t.length:=oM;obtain ⟨b,ak⟩:=xG t gp;rw[kvm ak] at aG;have bw:((k:Int)==(t.length:Int))=J:=ua2.2 oM;have cU:(k:Int)<(t.length:Int):=oM;have bE:=nN k;have g4:∀ w,(Instr.index 9 (Q ⟨t.toArray⟩) (I U (k:Int))).run prog w= .ok (I ai b.toNat) w:=kaX (P:=prog) underlying9 ak;by_cases qN:b=10
    .rw[ua1 qN] at aG;have eL:Hz (if k+1≤t.length then out++[((f0:Int),(k:Int)-f0)]++Ev.maE (k+1:Nat) (k+1:Nat) (t.drop (k+1))=bl else out++[((f0:Int),(k:Int)-f0)]=bl):=hD (by rw[ua1 oM,uc2];exact aG);have aL:((b.toNat:Int)==10)=K:=(by rw[qN];rfl);clear aG bq ak qN;have hr:=kaI dB.o (kat wr (y #[I .i64 (f0:Int),I U ((k:Int)-(f0:Int))] 91));have e9:Reads (wr.alloc (y #[I .i64 (f0:Int),I U ((k:Int)-(f0:Int))] 91)) (wr.heap.size+1) 2 (N ⟨wr,0,Z⟩) 1 [I .i64 (f0:Int),I U ((k:Int)-(f0:Int))]:=⟨rfl,fun _=>⟨_,rfl,by simp,fun j u aI=>kcI wr #[I .i64 (f0:Int),I U ((k:Int)-(f0:Int))] 91 j u aI⟩⟩;have d9:∀ u∈([I .i64 (f0:Int),I U ((k:Int)-(f0:Int))]:List C),u.oneCell'=K:=(by simp[Value.oneCell']);have cM:=dc.o;have hi0:=jP.o;have hi1:=jQ.o;have hi2:=jR.o;(go_wp2_with (at_builtin;refine kbs _ rfl (.tmp 22) (.tmp 28) 38 rfl w 91 eX (aa #[I .i64 0,I U 0]) 2 16 underlying38 cM hi0 hi1 hi2 rfl dC _ out.length _ rfl hr _ _ _ _ [I .i64 (f0:Int),I U ((k:Int)-(f0:Int))] rfl e9 d9 (by unfold maxLen;omega) oM (by simp;omega) ?_));intro eQ dl fm fV j2;obtain ⟨e4,bI,rfl⟩:=kaA fm;have gT:=(kbR (kat wr (y #[I .i64 (f0:Int),I U ((k:Int)-(f0:Int))] 91)) (D dF out.length eB).ownBlock).trans fV;have f2:=hD (aV.o.grown gT pf (fun j e=>(i7.o _ e).1));have kh:Hz (dl.ownsRow w 91 2 (D e4 (out.length+1) bI) (out++[((f0:Int),(k:Int)-f0)]).length (sgC (out++[((f0:Int),(k:Int)-f0)]))):=hD (by rw[kdn,ua6];exact fm);clear hr e9 d9 cM hi0 hi1 hi2 fm fV j2 gT;go_wp2_with fail;go_roundg f
     case measure=>omega
     case rel=>exact ⟨k+1,k+1,out++[((f0:Int),(k:Int)-f0)],e4,bI,by go_num,by go_num,by rw[ua6];rfl,oM,oM,oM,by rw[ua6];simp;omega,eL,by rw[ua6] at kh ⊢;exact kh,f2⟩
    .rw[ua0 qN] at aG;have eL:Hz (if k+1≤t.length then out++Ev.maE (k+1:Nat) f0 (t.drop (k+1))=bl else out=bl):=hD (by rw[ua1 oM];exact aG);have aL:((b.toNat:Int)==10)=J:=ua2.2 (fun e=>qN (uo0.1 (show b.toNat=(10:UInt8).toNat by have:(10:UInt8).toNat=10:=rfl;omega)));clear aG bq ak qN;go_wp2_with fail;go_roundg f
     case measure=>omega
     case rel=>exact ⟨k+1,f0,out,dF,eB,by go_num,rfl,rfl,oM,oM,oM,oM,eL,dB,aV⟩
  .have aG:=bq.o;rw[ua0 bG] at aG;exact klO
def kAc {op:List UInt8} {a b:List (Int×Int)} {kk:Int} {k:Nat} {x:Int×Int} (aA:a[k]? =N x):Ev.mbc op (a.take (k+1)) b kk=Ev.mbc op (a.take k) b kk++if b.any (fun aC=>Ev.mbI op x aC kk) then [x] else []:=by unfold Ev.mbc;rw[ue0,aA,List.filter_append];congr 1;cases h:b.any (fun aC=>Ev.mbI op x aC kk) <;> simp[h]
def kkC (op:List UInt8) (a b:List (Int×Int)) (kk:Int) (ba:op=Oz.maI∨op=Oz.mbz∨op=Ev.mbK) (A B:Option ae) (rb jh:Nat) (w:O) (F G:Nat→Prop) (aE:SpV w F A a) (ak:SpV w G B b) (Yk:a.length≤100000) (AL:b.length≤100000) (tI:SmL a) (ku:SmL b):
 L prog 166 #[Q ⟨op.toArray⟩,D A a.length rb,D B b.length jh,I U kk] w (khM w (Ev.mbc op a b kk)):=by
 obtain ⟨hR,ev,wC,j7,GH⟩:=hd5 aE ak tI ku ba;clear aE ak tI ku ba;obtain ⟨eX,cM,hi0,hi1,hi2⟩:=ug6 keV;obtain ⟨dc,jP,jQ,jR⟩:=hd4 cM hi0 hi1 hi2;clear cM hi0 hi1 hi2;go_enter func166,ntmps166;go_wp2_with fail;go_loopg [9,10,11] (a.length+1) (fun f v nW _ wr=>∃(k:Nat) (out:List (Int×Int)) (dF:Option ae) (eB:Nat),nW=I U k∧v=D dF out.length eB∧k≤a.length∧a.length<k+f∧out.length≤k∧Hz (out=Ev.mbc op (a.take k) b kk)∧Hz (wr.ownsRow w 91 2 (D dF out.length eB) out.length (sgC out))∧Hz (H w w wr))
 case atStart=>exact ⟨0,[],Z,0,rfl,rfl,oM,oM,nR,hD rfl,hD ⟨rfl, .inl ⟨rfl,rfl⟩⟩,hD (ub5 _ _)⟩
 case round=>
  obtain ⟨k,out,dF,eB,rfl,rfl,aw,fo,q0,bq,dB,aV⟩:=hrel;obtain ⟨f,rfl⟩:=xS gk;by_cases bG:k<a.length
  .obtain ⟨x,aA⟩:=xG a bG;obtain ⟨fj,oa,rfl, -,e0,a0,aY⟩:=hR.o.at_ aA;have ra:=wC.o x (ua4 aA);have cg:=kAc (op:=op) (b:=b) (kk:=kk) aA;rw[←bq.o] at cg;have gv:=hD cg;have TC:=hD ra;obtain ⟨dJ,eC⟩:=x;dsimp only at a0 aY;have cU:(k:Int)<(a.length:Int):=oM;have bE:=nN k;clear aA cg bq ra;go_wp2_with fail;go_loopg [9,11] (b.length+1) (fun f vN X6 jK=>∃ j:Nat,X6=I U j∧vN=D dF out.length eB∧j≤b.length∧b.length<j+f∧Hz ((b.take j).any (fun aC=>Ev.mbI op (dJ,eC) aC kk)=J)∧Hz (jK.ownsRow w 91 2 (D dF out.length eB) out.length (sgC out))∧Hz (H w w jK))
   case atStart=>exact ⟨0,rfl,rfl,oM,oM,hD (by simp),dB,aV⟩
   case round=>
    clear dB aV;obtain ⟨j,rfl,rfl,aS,qY,bF,dB,aV⟩:=hrel;obtain ⟨jN,rfl⟩:∃ f,gk=f+1:=⟨gk-1,oM⟩;have pf:w.heap.size≤wr.heap.size:=aV.o.size;have bi:=(aV.o.cell (p:=⟨fj,oa+k*2,Z⟩) e0).trans a0;have aW:=(aV.o.cell (p:=⟨fj,oa+k*2+1,Z⟩) e0).trans aY;by_cases dk:j<b.length
    .obtain ⟨aC,bp⟩:=xG b dk;obtain ⟨i5,hV,rfl, -,eZ,dt,cL⟩:=ev.o.at_ bp;have zF:=j7.o aC (ua4 bp);obtain ⟨r,am⟩:=xE (Ev.mbI op (dJ,eC) aC kk);have Ae:=hD (fun W=>kvv op (dJ,eC) aC kk GH.o TC.o zF W);rw[←am] at Ae;have Lu:(b.take (j+1)).any (fun aC=>Ev.mbI op (dJ,eC) aC kk)=r:=(by rw[ue0,bp,List.any_append,bF.o,am];simp);have lT:r=K→b.any (fun aC=>Ev.mbI op (dJ,eC) aC kk)=K:=fun h=>up2.2 ⟨aC,ua4 bp,by rw[←am,h]⟩;obtain ⟨iI,k9⟩:=aC;dsimp only at dt cL Ae;have bw:=(aV.o.cell (p:=⟨i5,hV+j*2,Z⟩) eZ).trans dt;have aL:=(aV.o.cell (p:=⟨i5,hV+j*2+1,Z⟩) eZ).trans cL;have eD:(j:Int)<(b.length:Int):=oM;have eS:=nN j;have GI:=hD lT;have GJ:=hD Lu;clear bp zF am Lu lT bF;go_upto_region 8 with (fail);refine ue4 ?_;refine ud6 (S:=(fun w'=>w'.cell? ⟨fj,oa+k*2,Z⟩=N (I U dJ)∧w'.cell? ⟨fj,oa+k*2+1,Z⟩=N (I U eC)∧w'.cell? ⟨i5,hV+j*2,Z⟩=N (I U iI)∧w'.cell? ⟨i5,hV+j*2+1,Z⟩=N (I U k9))) kR ⟨bi,aW,bw,aL⟩ (fun ay=>?_);have TD:=();exact kfp
    .obtain rfl:j=b.length:=oM;have ax:=bF.o;rw[uf2] at ax;have cg:=gv.o;rw[ax,ua0 dC,ug2] at cg;have hx:=hD cg.symm;clear ax cg bF;go_wp2_with fail;go_roundg f
     case measure=>omega
     case rel=>exact ⟨k+1,out,dF,eB,by go_num,rfl,oM,oM,oM,hx,dB,aV⟩
  .obtain rfl:k=a.length:=oM;have aG:=bq.o;rw[uf2] at aG;exact klO
def kmb (h:P:=by rw[←tK] at Fx da;rw[←uu] at Fy dQ;have h7:=hD iO;clear tK uu iO;have Lv:hE.drew.cell? ⟨fj,oa+k*2,Z⟩=N (I U dJ):=aN;have Lw:hE.drew.cell? ⟨fj,oa+k*2+1,Z⟩=N (I U eC):=aM;go_upto_region 10 with (fail);refine ue4 ?_;refine ud6 (S:=(fun w'=>w'.cell? ⟨fj,oa+k*2,Z⟩=N (I U dJ)∧w'.cell? ⟨fj,oa+k*2+1,Z⟩=N (I U eC))) kR ⟨Lv,Lw⟩ (fun ay=>?_);have TE:=();exact kgJ):=h
def ki1 {w:O} {F:Nat→Prop} {A:Option ae} {l:List (Int×Int)} (h:SpV w F A l):Reads w w 2 A l.length (sgC l):=by refine ⟨by rw[kfI],fun ax=>?_⟩;obtain ⟨b,o,rfl, -,ak,an⟩:=h.2 ax;exact ⟨⟨b,o,Z⟩,rfl,ak,fun j u aI=>by rw[kb8];exact an j u aI⟩
theorem kiO {p:Int×Int→Bool} :∀ {l:List (Int×Int)} {j:Nat},(∀ i aC,i<j→l[i]? =N aC→p aC=K)→(j=l.length∨∃ aC,l[j]? =N aC∧p aC=J)→l.takeWhile p=l.take j∧l.dropWhile p=l.drop j
 |[],j,_,ao=>by simp
 |x::l,0,_,ao=>by
  rcases ao with h|⟨aC,bp,aO⟩
  .simp at h
  .simp only[gB,ug0] at bp;subst bp;simp[aO]
 |x::l,j+1,af,ao=>by have aO:=af 0 x oM rfl;have:=kiO (l:=l) (j:=j) (fun i aC hi bp=>af (i+1) aC oM (by simpa using bp)) (by simpa using ao);rw[List.takeWhile_cons,List.dropWhile_cons,aO];simp[this.1,this.2]
def ki6 (W:O):(sizeOf (prog.elem 38)).run prog W= .ok 2 W:=kR
def kkG:prog.underlying 38=N (.slice (prog.elem 38)):=kR
def kow (A:Option ae) (n c j:Nat) (aS:j≤n) (W:O):(Instr.slice 38 (D A n c) (N (I U (j:Int))) Z Z).run prog W= .ok (.slice (if c=j then A else A.map (·.add (j*2))) (n-j) (c-j)) W:=by rw[run_slice_l W 38 A n c kkG .i64 j oM oM,ki6];rfl
def kox (A:Option ae) (n c j:Nat) (aS:j≤c) (W:O):(Instr.slice 38 (D A n c) Z (N (I U (j:Int))) (N (I U (j:Int)))).run prog W= .ok (.slice (if j=0 then A else A.map (·.add (0*2))) j j) W:=by rw[run_slice_hm W 38 A n c kkG .i64 .i64 j j oM oM oM,ki6];rfl
theorem kuT (l:List (Int×Int)) (j:Nat):(sgC l).take (j*2)=sgC (l.take j):=by
 induction l generalizing j with
 |nil=>simp[sgC]
 |cons x l bQ=>
  cases j with
  |zero=>simp[sgC]
  |succ j=>rw[uk7,sgC,sgC,show (j+1)*2=j*2+1+1 by omega,uk7,uk7,bQ]
theorem kuU (l:List (Int×Int)) (j:Nat):(sgC l).drop (j*2)=sgC (l.drop j):=by
 induction l generalizing j with
 |nil=>simp[sgC]
 |cons x l bQ=>
  cases j with
  |zero=>simp[sgC]
  |succ j=>rw[us1,sgC,show (j+1)*2=j*2+1+1 by omega,us1,us1,bQ]
def kpb {w:O} {F:Nat→Prop} {A:Option ae} {l:List (Int×Int)} (h:SpV w F A l) (j:Nat) (aS:j≤l.length):Reads w w 2 (if j=0 then A else A.map (·.add (0*2))) j (sgC (l.take j)):=by
 refine ⟨by rw[kfI,ub8];omega,fun ax=>?_⟩;rw[ua0 oM];obtain ⟨b,o,rfl, -,ak,an⟩:=h.2 oM;refine ⟨⟨b,o,Z⟩,by rw[un4];rfl,ak,fun i u aI=>?_⟩;rw[kb8];refine an i u ?_;rw[←kuT] at aI;rw[uc4] at aI;split at aI
 .exact aI
 .cases aI
def kpa {w:O} {F:Nat→Prop} {A:Option ae} {l:List (Int×Int)} {c:Nat} (h:SpV w F A l) (j:Nat) (aS:j≤l.length) (an:l.length≤c):Reads w w 2 (if c=j then A else A.map (·.add (j*2))) (l.length-j) (sgC (l.drop j)):=by have:=(ki1 h).cut aS an;rw[kuU] at this;exact this
theorem kCz (W:O) (ty:ah) {gS ci:Option ae} {j m c9 Yl Ym:Nat} {pv iK:List C} (bk:Reads W Yl 2 gS j pv) (gM:Reads W Ym 2 ci m iK) (bg:0<m) (ak:j+m≤100000):
 ∃ cS Dl,(Builtin.append_ #[38,38] ty #[if gS=Z then D Z 0 0 else D gS j j,D ci m c9]).run prog W= .ok (D (N ⟨W,0,Z⟩) (j+m) cS) Dl∧j+m≤cS∧H W W Dl∧W.heap.size<Dl.heap.size∧∀ i u,(pv++iK)[i]? =N u→Dl.cell? ⟨W,i,Z⟩=N u:=by
 obtain ⟨eX,cM,hi0,hi1,hi2⟩:=ug6 keV;obtain ⟨ad,rfl, -,pc⟩:=gM.2 bg;have Ly:∀ cs:Array C,H W W (W.drew.alloc (y cs 91)):=fun cs=>(ub5 _ W).drew.alloc (nR) _
 have qG:∀(cs:Array C) (z:Array C) (i:Nat) (u:C),cs[i]? =N u→(W.drew.alloc (y (cs++z) 91)).cell? ⟨W,i,Z⟩=N u:=fun cs z i u aI=>by
  have:=(Blk.new W.drew 91 (cs++z)).cell i;rw[show W.drew.heap.size=W.heap.size from rfl] at this
  rw[this,Array.getElem?_append_left (by
   rcases ug1 i cs.size with h|h
   .exact h
   .rw[um4 h] at aI;cases aI)]
  exact aI
 cases gS with
 |none=>
  have aS:j=0:=by
   rcases ul5 j with h|h
   .exact h
   .obtain ⟨HK,fg,_⟩:=bk.2 h;cases fg
  subst aS;have bf:pv=[]:=ui6 (by simpa using bk.1);subst bf;rw[ua1 rfl];have mN:=run_append_nil (P:=prog) W 38 ty 91 eX (aa #[I .i64 0,I U 0]) underlying38 cM hi0 ad m c9 iK (by rw[hi1];exact gM.1) pc bg oM (by rw[hi2];omega);refine ⟨_,_,by rw[ud3];exact mN,by rw[ud3];exact grownCap_ge _ _ _ _,Ly _,by simp,fun i u aI=>qG _ _ i u (by simpa using aI)⟩
 |some a4=>
  rw[ua0 (by simp)]
  have TF:∀ i u,pv[i]? =N u→W.cell? (a4.add i)=N u:=fun i u aI=>by
   rcases ul5 j with h|h
   .have:pv=[]:=ui6 (by rw[bk.1,h]);rw[this] at aI;cases aI
   .obtain ⟨HK,fg,_,an⟩:=bk.2 h;injection fg with fg;subst fg;exact an i u aI
  have mN:=run_append_grow (P:=prog) W 38 ty 91 eX (aa #[I .i64 0,I U 0]) underlying38 cM hi0 a4 j j pv (by rw[hi1];exact bk.1) TF ad m c9 iK (by rw[hi1];exact gM.1) pc oM oM (by rw[hi2];exact growslice_fits oM oM);exact ⟨_,_,mN,grownCap_ge _ _ _ _,Ly _,by simp,fun i u aI=>qG _ _ i u (by simpa using aI)⟩
def ktT {P:Program} {cD:Array Oper} {o:Oper} {a:Act} {w:O} {aR:Act→O→Prop} {cY:Exit→Act→O→Prop} {E:Prop} (ii:o.guard=Z) (s x:Operand) (t:ah)
 (bf:o.op= .call { callee:= .builtin .append,args:= #[s,x],argTypes:= #[t,t] }) (v aC cH:C) (w':O) (al:a.eval s=v) (aA:a.eval x=aC) (mN:(Builtin.append_ #[t,t] o.type #[v,aC]).run P w= .ok cH w') (h:aR (a.put o.dst cH) w'):
 if Region.wanted o (yielded cD a.tmps)=K then Oper.wp P o a w aR cY else E:=by
 have fn:Region.wanted o (yielded cD a.tmps)=K:=(by simp[Region.wanted,ii]);rw[ua1 fn];unfold Oper.wp execOp;simp only[bf,resolve,invoke,builtin,uh6,Sem.run_pure,Result.andThen_ok,List.map_toArray,uf5,uk8,al,aA,mN];exact h
def kt1 {w:O} {g B:Nat} {l:List (Int×Int)} (hg:B≤g) (az:g<w.heap.size) (h:∀ i u,(sgC l)[i]? =N u→w.cell? ⟨g,i,Z⟩=N u):SpV w (fun i=>B≤i) (N ⟨g,0,Z⟩) l:=
 ⟨kfI l,fun _=>⟨g,0,rfl,hg,az,fun i u aI=>by rw[ud3];exact h i u aI⟩⟩
def ks6 (a b:List (Int×Int)) (A B:Option ae) (rb jh:Nat) (w:O) (F G:Nat→Prop) (aE:SpV w F A a) (ak:SpV w G B b) (Yk:a.length≤10000) (AL:b.length≤10000):
 L prog 167 #[D A a.length rb,D B b.length jh] w (khM w (Ev.mbx a b)):=by
 obtain ⟨bl,cR⟩:=xE (Ev.mbx a b);rw[←cR];obtain ⟨l,az⟩:=xE (a++b);have k5:l.length≤20000:=(by rw[az,ua6];omega);have eg:Hz (l.foldl Ev.mbg []=bl):=hD (by rw[cR,az];rfl);have cm:=kat w (y #[] 91);have Lz:Reads (w.alloc (y #[] 91)) w 2 A a.length (sgC a):=(ki1 aE).below cm;have LA:Reads (w.alloc (y #[] 91)) w 2 B b.length (sgC b):=(ki1 ak).below cm;have qA:(w.alloc (y #[] 91)).ownsRow w.heap.size 91 2 (D (N ⟨w,0,Z⟩) 0 0) 0 []:=⟨rfl, .inr ⟨w.heap.size,0,#[],rfl,nR,Blk.new w _ _,nR,by unfold maxLen;omega,rfl,rfl⟩⟩;obtain ⟨LB,a7,lz⟩:=hd3 LA cm az;clear aE ak cR az LA cm;obtain ⟨eX,cM,hi0,hi1,hi2⟩:=ug6 keV;obtain ⟨dc,jP,jQ,jR⟩:=hd4 cM hi0 hi1 hi2;clear cM hi0 hi1 hi2;go_enter func167,ntmps167;have cM:=dc.o;have hi0:=jP.o;have hi1:=jQ.o;have hi2:=jR.o;(go_wp2_with (at_builtin;refine kbs _ rfl (.tmp 9) (.tmp 10) 38 rfl w 91 eX (aa #[I .i64 0,I U 0]) 2 16 underlying38 cM hi0 hi1 hi2 rfl dC _ 0 _ rfl qA _ _ _ _ (sgC a) rfl Lz (kg5 a) (by unfold maxLen;omega) oM (by first|omega|(simp;done)|(simp;omega)) ?_));intro eb aF Dg fW eU;obtain ⟨fD,aZ,rfl⟩:=kaA Dg;have bo:=hD (a7.o.grown fW a7.o.size (fun j e=>by have bJ:N w.heap.size=N j:=e;injection bJ with bJ;omega));have LC:Reads aF w 2 B b.length (sgC b):=LB.o.grown fW a7.o.size (fun j e=>by have bJ:N w.heap.size=N j:=e;injection bJ with bJ;omega);have eW:=bo.o.size;have i7:=hD (fun (i:Nat) (e:(D fD a.length aZ).ownBlock=N i)=>kbM Dg e);clear fW eU qA Lz LB a7;(go_wp2_with (at_builtin;refine kbs _ rfl (.tmp 11) (.tmp 12) 38 rfl w 91 eX (aa #[I .i64 0,I U 0]) 2 16 underlying38 cM hi0 hi1 hi2 rfl dC _ a.length _ rfl Dg _ _ _ _ (sgC b) rfl LC (kg5 b) (by unfold maxLen;omega) oM (by first|omega|(simp;done)|(simp;omega)) ?_));intro v3 a6 Dh mb XS;obtain ⟨zab,bC,rfl⟩:=kaA Dh;have bU:=hD (bo.o.grown mb eW (fun j e=>(i7.o j e).1));have Cr:=bU.o.size;have dz:a.length+b.length=l.length:=(by rw[lz.o,ua6]);rw[dz,←kdn,←lz.o] at Dh;rw[dz];have nA:=kfM Dh rfl;have wC:=hD nA.1;clear dz nA Dh mb XS Dg LC i7 bo cM hi0 hi1 hi2 lz eW;go_wp2_with fail;go_loopg [5,7,8] (l.length+1) (fun f v nW _ wr=>∃(k:Nat) (out:List (Int×Int)) (dF:Option ae) (eB:Nat),nW=I U k∧v=D dF out.length eB∧k≤l.length∧l.length<k+f∧out.length≤k∧out.length≤eB∧(dF=Z→eB=0)∧Hz ((l.drop k).foldl Ev.mbg out=bl)∧Hz (SpV wr (fun i=>w.heap.size≤i) dF out)∧Hz (H a6 a6 wr))
 case atStart=>exact ⟨0,[],Z,0,rfl,rfl,oM,oM,nR,nR,fun _=>rfl,eg,hD (SpV.nil _ _ _),hD (ub5 _ _)⟩
 case round=>
  clear eg;obtain ⟨k,out,dF,eB,rfl,rfl,aw,fo,q0,CU,zr,jZ,xu,aV⟩:=hrel;obtain ⟨f,rfl⟩:=xS gk;obtain ⟨cT,gd⟩:=xE wr;subst gd;by_cases bG:k<l.length
  .obtain ⟨x,aA⟩:=xG l bG;obtain ⟨fj,oa,rfl, -,e0,a0,aY⟩:=wC.o.at_ aA;have fl:=jZ.o;rw[keu aA,uj8] at fl;have pZ:=hD (kqz out x dF eB cT _ xu.o oM);have z0:=(aV.o.cell (p:=⟨fj,oa+k*2,Z⟩) e0).trans a0;have ca:=(aV.o.cell (p:=⟨fj,oa+k*2+1,Z⟩) e0).trans aY;have cU:(k:Int)<(l.length:Int):=oM;have bE:=nN k;clear aA jZ;by_cases lT:x∈out
   .rw[ub3 lT] at pZ;have iL:=hD (show (l.drop (k+1)).foldl Ev.mbg out=bl by rw[←fl];unfold Ev.mbg;rw[ua1 lT]);obtain ⟨dJ,eC⟩:=x;dsimp only at z0 ca pZ;clear fl lT a0 aY;go_wp2_with fail;refine pZ.o.mono ?_;rintro cG aK ⟨rfl,bv⟩;have cA:=bT aV bv;have Af:=hD (xu.o.below bv (G:=fun i=>w.heap.size≤i) (fun _ h=>h));clear bv aV xu pZ z0 ca;go_wp2_with fail;go_roundg f
    case measure=>omega
    case rel=>exact ⟨k+1,out,dF,eB,by go_num,rfl,oM,oM,oM,CU,zr,iL,Af,cA⟩
   .rw[ua5 lT] at pZ;have iL:Hz ((l.drop (k+1)).foldl Ev.mbg (out.takeWhile (Ev.mau · x)++x::out.dropWhile (Ev.mau · x))=bl):=hD (by rw[←fl];unfold Ev.mbg;rw[ua0 lT]);have LD:=hD (fun (aC:Int×Int) W=>kxO aC x W);obtain ⟨dJ,eC⟩:=x;dsimp only at z0 ca pZ a0 aY LD;clear fl lT;go_wp2_with fail;refine pZ.o.mono ?_;rintro cG aK ⟨rfl,bv⟩;have cA:=bT aV bv;have Af:=hD (xu.o.below bv (G:=fun i=>w.heap.size≤i) (fun _ h=>h));have GK:=cA.o.size;clear bv aV xu pZ z0 ca;go_wp2_with fail;go_loopg [8] (out.length+1) (fun f X7 jK=>∃ j:Nat,X7=I U j∧j≤out.length∧out.length<j+f∧Hz (∀ i aC,i<j→out[i]? =N aC→Ev.mau aC (dJ,eC)=K)∧Hz (H aK aK jK))
    case atStart=>exact ⟨0,rfl,oM,oM,hD (fun i aC hi=>by omega),hD (ub5 _ _)⟩
    case round=>
     obtain ⟨j,rfl,aS,qY,bF,hZ⟩:=hrel;obtain ⟨jN,rfl⟩:∃ f,gk=f+1:=⟨gk-1,oM⟩;have r8:=hZ.o.size;have GL:=hD (Af.o.below hZ.o (G:=fun i=>w.heap.size≤i) (fun _ h=>h));have k7:=hD (cA.o.trans (hZ.o.mono GK));have aN:=(k7.o.cell (p:=⟨fj,oa+k*2,Z⟩) e0).trans a0;have aM:=(k7.o.cell (p:=⟨fj,oa+k*2+1,Z⟩) e0).trans aY;have CV:fj<wr.heap.size:=oM;by_cases dk:j<out.length
     .obtain ⟨aC,bp⟩:=xG out dk;obtain ⟨i5,hV,rfl, -,GM,bi,aW⟩:=GL.o.at_ bp;have CW:=hD (LD.o aC);obtain ⟨r,am⟩:=xE (Ev.mau aC (dJ,eC));rw[←am] at CW
      have cg:r=K→∀ i z,i<j+1→out[i]? =N z→Ev.mau z (dJ,eC)=K:=fun h i z hi bd=>by
       rcases ug1 i j with af|af
       .exact bF.o i z af bd
       .obtain rfl:i=j:=oM;rw[bp] at bd;injection bd with bd;rw[←bd,←am,h]
      have pS:r=J→out.takeWhile (Ev.mau · (dJ,eC))=out.take j∧out.dropWhile (Ev.mau · (dJ,eC))=out.drop j:=fun h=>kiO (p:=(Ev.mau · (dJ,eC))) bF.o (.inr ⟨aC,bp,by rw[←am,h]⟩);obtain ⟨iI,k9⟩:=aC;dsimp only at bi aW CW;have gv:=hD cg;have sJ:=hD pS;have eD:(j:Int)<(out.length:Int):=oM;have eS:=nN j;clear bp am cg pS bF;go_upto_region 8 with (fail);refine ue4 ?_;refine ud6 (S:=(fun w'=>w'.cell? ⟨i5,hV+j*2,Z⟩=N (I U iI)∧w'.cell? ⟨i5,hV+j*2+1,Z⟩=N (I U k9)∧w'.cell? ⟨fj,oa+k*2,Z⟩=N (I U dJ)∧w'.cell? ⟨fj,oa+k*2+1,Z⟩=N (I U eC))) kR ⟨bi,aW,aN,aM⟩ (fun ay=>?_);have TG:=();exact kgJ
     .have pS:=kiO (p:=(Ev.mau · (dJ,eC))) bF.o (.inl (by omega:j=out.length));have mW:=iL.o;rw[pS.1,pS.2] at mW;have ln:=hD mW;have eD:¬(j:Int)<(out.length:Int):=oM;clear mW pS bF;go_upto_region 8 with (fail);refine ue4 ?_;refine ud6 (S:=(fun w'=>w'.cell? ⟨fj,oa+k*2,Z⟩=N (I U dJ)∧w'.cell? ⟨fj,oa+k*2+1,Z⟩=N (I U eC))) kR ⟨aN,aM⟩ (fun ay=>?_);refine tk 0 ay ?_;refine tk 1 ay ?_;refine tk 2 ay ?_;refine tk 3 ay ?_;refine tk 4 ay ?_;refine ts 5 ay ?_;refine ts 6 ay ?_;refine ts 7 ay ?_;refine ts 8 ay ?_;refine ts 9 ay ?_;refine ts 10 ay ?_;refine ts 11 ay ?_;refine ts 12 ay ?_;refine ts 13 ay ?_;refine tkO 14 (fun aR aJ=>?_);go_simp;refine aJ.out _ _ ay ?_;clear aJ aR;(try simp only[Act.put,gE,gF,gG]);refine ug7 kR ?_ _;refine uf0 ?_;(try simp only[Act.put,gE,gF,gG]);obtain ⟨hE,ka⟩:=xE wr.drew;have LE:Hz (H aK aK hE):=hD (by rw[ka];exact hZ.o.drew);rw[←ka] at ay ⊢;obtain ⟨aN,aM⟩:=ay;clear ka hZ GL k7 r8 CV;have hZ:=LE;clear LE;have n7:=hZ.o.size;have xc:=hD (Af.o.below hZ.o (G:=fun i=>w.heap.size≤i) (fun _ h=>h));have k7:=hD (cA.o.trans (hZ.o.mono GK));have Kp:=k7.o.size;have Fx:=kox dF out.length eB j oM;have Fy:=kow dF out.length eB j oM;have da:=hD (kpb xc.o j aS);have dQ:=hD (kpa xc.o j aS CU);obtain ⟨gS,tK⟩:=xE ((if j=0 then dF else dF.map (·.add (0*2))));obtain ⟨fs,uu⟩:=xE ((if eB=j then dF else dF.map (·.add (j*2))))
      have iO:D gS j j=if gS=Z then D Z 0 0 else D gS j j:=by
       split
       .rename_i aG
        have Fz:dF=Z:=by
         rw[tK] at aG;split at aG
         .exact aG
         .simpa using aG
        have:=zr Fz;rw[aG];obtain rfl:j=0:=oM;rfl
       .rfl
      exact kmb
  .obtain rfl:k=l.length:=oM;have aG:=jZ.o;rw[ug8 (nR)] at aG;have eL:Hz (out=bl):=hD aG;have z7:=hD (bU.o.trans (aV.o.mono bU.o.size));clear aG jZ;go_wp2_with fail;go_ret;rw[←eL.o];exact ⟨z7.o,dF,eB,rfl,CU,xu.o⟩
end Go.Proofs.YtamhdmkolfmmdaaGreatDoor
