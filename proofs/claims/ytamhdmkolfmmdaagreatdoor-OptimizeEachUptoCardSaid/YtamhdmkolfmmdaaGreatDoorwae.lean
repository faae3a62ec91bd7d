/- Part ae of the proof. -/
import Derived.Test.YtamhdmkolfmmdaaGreatDoorwab
import Derived.Test.YtamhdmkolfmmdaaGreatDoorwad
set_option linter.all false
set_option maxHeartbeats 16000000
set_option maxRecDepth 100000
open Go.Proofs.Tryz
open Go.Value renaming int→I,slice→D,bool→V,string→Q,pointer→ab,agg→aa,tuple→ag,nilIface→aj
open Go.IntKind renaming i64→U,u64→Y,u8→ai
open Go.Obj renaming cells→y
open Go.Ending renaming returned→ac
open Option renaming none→Z,some→N
open Bool renaming true→K,false→J
open Go renaming World→O,Value→C,Calls→L,TypeId→ah,Addr→ae
open Go.RowKit renaming Below→H
namespace Go.Proofs.YtamhdmkolfmmdaaGreatDoor
open Go.RowKit
variable {P:Prop}
def kmd (h:P:=by have dK:=(gH al).1;have dk:=(gH aB).1;have kX:=h.cap;have f5:=h.maz;have be:=h.ed.cell 0;have b8:=h.ed.cell 1;simp only[gA,gB,gC] at be b8;exact kiy):=h
def kgG (h:P:=by have Ri:=();exact kmd):=h
def kmr (h:P:=by exact kmd):=h
def kwW (base g ap bz cap i j:Nat) (l:List St) (vs:List C) (s t:St) (w:O) (h:EdX w base g ap cap l vs (D (N ⟨bz,0,Z⟩) l.length l.length)) (aI:Blk w bz 3 (kau (kag l))) (al:l[i]? =N s) (aB:l[j]? =N t) (aS:s.args[0]? =N (j:Int)) (b9:j<i) (aE:0<s.args.length) (ak:∀ s∈l,s.args.length≤3∧∀ a∈s.args,0≤a∧a≤100000) (ba:s.op=Oz.maL) (d9:(kag l).getD j 0=1) (a b:Int) (cE:t.op=Oz.oEq) (fK:t.args[0]? =N a) (jL:t.args[1]? =N b):
 L prog 70 #[ab (N ⟨g,0,Z⟩),I U i] w (RepEnd base g ap cap l vs (D (N ⟨bz,0,Z⟩) l.length l.length) (Oz.maB l i) w):=by
 have va:=();exact kgG
def kwV (base g ap bz cap i j:Nat) (l:List St) (vs:List C) (s t:St) (w:O) (h:EdX w base g ap cap l vs (D (N ⟨bz,0,Z⟩) l.length l.length)) (aI:Blk w bz 3 (kau (kag l))) (al:l[i]? =N s) (aB:l[j]? =N t) (aS:s.args[0]? =N (j:Int)) (b9:j<i) (aE:0<s.args.length) (ak:∀ s∈l,s.args.length≤3∧∀ a∈s.args,0≤a∧a≤100000) (ba:s.op=Oz.maL) (d9:(kag l).getD j 0=1) (a b:Int) (cE:t.op=Oz.oNe) (fK:t.args[0]? =N a) (jL:t.args[1]? =N b):
 L prog 70 #[ab (N ⟨g,0,Z⟩),I U i] w (RepEnd base g ap cap l vs (D (N ⟨bz,0,Z⟩) l.length l.length) (Oz.maB l i) w):=by
 have vb:=();exact kgG
def kwU (base g ap bz cap i j:Nat) (l:List St) (vs:List C) (s t:St) (w:O) (h:EdX w base g ap cap l vs (D (N ⟨bz,0,Z⟩) l.length l.length)) (aI:Blk w bz 3 (kau (kag l))) (al:l[i]? =N s) (aB:l[j]? =N t) (aS:s.args[0]? =N (j:Int)) (b9:j<i) (aE:0<s.args.length) (ak:∀ s∈l,s.args.length≤3∧∀ a∈s.args,0≤a∧a≤100000) (ba:s.op=Oz.maL) (d9:(kag l).getD j 0=1) (a b:Int) (cE:t.op=Oz.oLt) (fK:t.args[0]? =N a) (jL:t.args[1]? =N b):
 L prog 70 #[ab (N ⟨g,0,Z⟩),I U i] w (RepEnd base g ap cap l vs (D (N ⟨bz,0,Z⟩) l.length l.length) (Oz.maB l i) w):=by
 exact kgG
def kwT (base g ap bz cap i j:Nat) (l:List St) (vs:List C) (s t:St) (w:O) (h:EdX w base g ap cap l vs (D (N ⟨bz,0,Z⟩) l.length l.length)) (aI:Blk w bz 3 (kau (kag l))) (al:l[i]? =N s) (aB:l[j]? =N t) (aS:s.args[0]? =N (j:Int)) (b9:j<i) (aE:0<s.args.length) (ak:∀ s∈l,s.args.length≤3∧∀ a∈s.args,0≤a∧a≤100000) (ba:s.op=Oz.maL) (d9:(kag l).getD j 0=1) (a b:Int) (cE:t.op=Oz.oLe) (fK:t.args[0]? =N a) (jL:t.args[1]? =N b):
 L prog 70 #[ab (N ⟨g,0,Z⟩),I U i] w (RepEnd base g ap cap l vs (D (N ⟨bz,0,Z⟩) l.length l.length) (Oz.maB l i) w):=by
 have zl:=();exact kgG
def kwN (base g ap bz cap i j:Nat) (l:List St) (vs:List C) (s t:St) (w:O) (h:EdX w base g ap cap l vs (D (N ⟨bz,0,Z⟩) l.length l.length)) (aI:Blk w bz 3 (kau (kag l))) (al:l[i]? =N s) (aB:l[j]? =N t) (aS:s.args[0]? =N (j:Int)) (b9:j<i) (aE:0<s.args.length) (ak:∀ s∈l,s.args.length≤3∧∀ a∈s.args,0≤a∧a≤100000) (ba:s.op=Oz.maL) (d9:(kag l).getD j 0=1) (aD:t.op≠Oz.oEq) (af:t.op≠Oz.oNe) (ao:t.op≠Oz.oLt) (av:t.op≠Oz.oLe):
 L prog 70 #[ab (N ⟨g,0,Z⟩),I U i] w (RepEnd base g ap cap l vs (D (N ⟨bz,0,Z⟩) l.length l.length) (Oz.maB l i) w):=by
 have Cf:=();exact kmr
def kwP (base g ap bz cap i j:Nat) (l:List St) (vs:List C) (s t:St) (w:O) (h:EdX w base g ap cap l vs (D (N ⟨bz,0,Z⟩) l.length l.length)) (aI:Blk w bz 3 (kau (kag l))) (al:l[i]? =N s) (aB:l[j]? =N t) (aS:s.args[0]? =N (j:Int)) (b9:j<i) (aE:0<s.args.length) (ak:∀ s∈l,s.args.length≤3∧∀ a∈s.args,0≤a∧a≤100000) (ba:s.op=Oz.maL) (d9:(kag l).getD j 0≠1):
 L prog 70 #[ab (N ⟨g,0,Z⟩),I U i] w (RepEnd base g ap cap l vs (D (N ⟨bz,0,Z⟩) l.length l.length) (Oz.maB l i) w):=by
 exact kmr
def kwO (base g ap cap i:Nat) (l:List St) (vs:List C) (aP:C) (s:St) (w:O) (h:EdX w base g ap cap l vs aP) (al:l[i]? =N s) (ba:s.op≠Oz.maL):
 L prog 70 #[ab (N ⟨g,0,Z⟩),I U i] w (RepEnd base g ap cap l vs aP (Oz.maB l i) w):=by
 have Cg:=();exact kd2
def kwR (base g ap bz cap i:Nat) (l:List St) (vs:List C) (s:St) (w:O) (h:EdX w base g ap cap l vs (D (N ⟨bz,0,Z⟩) l.length l.length)) (aI:Blk w bz 3 (kau (kag l))) (al:l[i]? =N s) (an:kaf l=0):
 L prog 70 #[ab (N ⟨g,0,Z⟩),I U i] w (RepEnd base g ap cap l vs (D (N ⟨bz,0,Z⟩) l.length l.length) (Oz.maB l i) w):=by
 by_cases ba:s.op=Oz.maL
 .exact kfu
 .exact kwO base g ap cap i l vs _ s w h al ba
def kh3 (h:P:=by
 go_wp2_with fail;go_quiet (fail);go_wp2_with fail;go_ret2
 exact ⟨kbm (ub5 _ _) _,rfl⟩):=h
def kiG (h:P:=by have dh:=hD eR;clear eR;go_enter func112,ntmps112;go_wp2_with fail;refine (dh.o _).mono ?_;rintro e _ ⟨rfl,rfl⟩;clear dh;exact kh3):=h
def kmj (h:P:=by
 first
 |guard_hyp E7;have aD:0≤a*b:=uq1 oM ak;have bW:=uc5 (a*b) oM;have bj:=(kpi (b:=b) aE).2 h
 |have bj:¬(b≤(1152921504606846976:Int).tdiv a):=fun fg=>h ((kpi (b:=b) aE).1 fg)
 have rn:0≤(1152921504606846976:Int).tdiv a:=Int.tdiv_nonneg dC oM;have jV:(1152921504606846976:Int).tdiv a≤1152921504606846976:=(by rw[um7 dC];exact Int.ediv_le_self _ dC);obtain ⟨d,hd⟩:=xE ((1152921504606846976:Int).tdiv a);rw[←hd] at bj rn jV;have fn:=uc5 d oM;have o8:=hD (keF a oM jm);have bE:¬(b<0):=oM;have c2:¬(a=0):=oM;have j4:(a==0)=J:=ua2.2 c2;have kP:(1152921504606846976:Int).tdiv a=d:=hd.symm;(first|guard_hyp E7;clear aE jm ak h aD hd rn jV|clear aE jm ak h hd rn jV);go_enter func155,ntmps155;go_wp2_with fail;refine (o8.o _).mono ?_;rintro e _ ⟨rfl,rfl⟩;go_wp2_with fail;go_ret2
 first|guard_hyp E7;exact ⟨rfl,rfl⟩|exact ⟨rfl, .inl rfl⟩):=h
def kii (h:P:=by
 (first|guard_hyp Rj;have fn:=uc5 (1152921504606846976-b) oM;have bW:=uc5 (a+b) oM;have cU:a≤1152921504606846976-b:=oM|guard_hyp JQ;have fn:=uc5 (1152921504606846976-b) oM;have cU:¬(a≤1152921504606846976-b):=oM|have bW:=uc5 (a-b) oM);have o8:=hD (keF a aE jm);have yl:=hD (keF b ak gW);(first|guard_hyp Rk;clear aE jm ak gW;go_enter func154,ntmps154|clear aE jm ak gW h;go_enter func153,ntmps153);go_wp2_with fail;refine (o8.o _).mono ?_;rintro e _ ⟨rfl,rfl⟩;go_wp2_with fail;refine (yl.o _).mono ?_;rintro e _ ⟨rfl,rfl⟩;go_wp2_with fail;go_ret2
 first|guard_hyp JQ;exact ⟨rfl, .inl rfl⟩|exact ⟨rfl,rfl⟩):=h
def kih (h:P:=by
 have dh:=hD eR;clear eR;go_enter func112,ntmps112;go_wp2_with fail;refine (dh.o _).mono ?_;rintro e _ ⟨rfl,am⟩;clear dh;rcases am with rfl|rfl
 all_goals
  go_wp2_with fail;go_quiet (fail);go_wp2_with fail;go_ret2
  exact ⟨kbm (ub5 _ _) _,_,rfl⟩):=h
def keF (n:Int) (aD:0≤n) (af:n≤1152921504606846976) (w:O):L prog 182 #[I .i64 n] w fun e w'=>e=ac (V K)∧w=w':=by go_enter func182,ntmps182;go_wp2_with fail;go_ret;exact ⟨rfl,rfl⟩
def kcC (w:O) (r:Option Int) (e:Ending) (w':O):Prop:=w=w'∧match r with
 |some n=>e=ac (ag #[I .i64 n,aj])
 |none=>e=ac (ag #[I .i64 0, .iface 66 (I U 2)])∨e=ac (ag #[I .i64 0, .iface 66 (I U 1)])
def kCP (a b:Int) (aE:0≤a) (jm:a≤1152921504606846976) (ak:0≤b) (gW:b≤1152921504606846976) (h:a+b≤1152921504606846976) (w:O):L prog 153 #[I .i64 a,I U b] w (kcC w (N (a+b))):=by have Rj:=();exact kii
def kCR (a b:Int) (aE:0≤a) (jm:a≤1152921504606846976) (ak:0≤b) (gW:b≤1152921504606846976) (h:¬(a+b≤1152921504606846976)) (w:O):L prog 153 #[I .i64 a,I U b] w (kcC w Z):=by have JQ:=();exact kii
def ktO (a b:Int) (aE:0≤a) (jm:a≤1152921504606846976) (ak:0≤b) (gW:b≤1152921504606846976) (h:b≤a) (w:O):L prog 154 #[I .i64 a,I U b] w (kcC w (N (a-b))):=by have Rk:=();exact kii
def ktP (a b:Int) (aE:0≤a) (jm:a≤1152921504606846976) (ak:0≤b) (gW:b≤1152921504606846976) (h:¬(b≤a)) (w:O):L prog 154 #[I .i64 a,I U b] w (kcC w Z):=by
 have o8:=hD (keF a aE jm);have yl:=hD (keF b ak gW);clear aE jm ak gW;go_enter func154,ntmps154;go_wp2_with fail;refine (o8.o _).mono ?_;rintro e _ ⟨rfl,rfl⟩;go_wp2_with fail;refine (yl.o _).mono ?_;rintro e _ ⟨rfl,rfl⟩;go_wp2_with fail;go_ret2
 exact ⟨rfl, .inr rfl⟩
def mul_zero (b:Int) (ak:0≤b) (w:O):L prog 155 #[I .i64 0,I U b] w (kcC w (N 0)):=by
 have o8:=hD (keF 0 dC dC);have bE:¬(b<0):=oM;go_enter func155,ntmps155;go_wp2_with fail;refine (o8.o _).mono ?_;rintro e _ ⟨rfl,rfl⟩;go_wp2_with fail;go_ret2
 exact ⟨rfl,rfl⟩
def kpi {a b:Int} (aE:0<a):b≤(1152921504606846976:Int).tdiv a↔a*b≤1152921504606846976:=by rw[um7 dC,Int.le_ediv_iff_mul_le aE,uo5]
def kw4 (a b:Int) (aE:0<a) (jm:a≤1152921504606846976) (ak:0≤b) (h:a*b≤1152921504606846976) (w:O):L prog 155 #[I .i64 a,I U b] w (kcC w (N (a*b))):=by have E7:=();exact kmj
def kw5 (a b:Int) (aE:0<a) (jm:a≤1152921504606846976) (ak:0≤b) (h:¬(a*b≤1152921504606846976)) (w:O):L prog 155 #[I .i64 a,I U b] w (kcC w Z):=by exact kmj
def kdI (w:O) (r:Option Int) (e:Ending) (w':O):Prop:=H w w w'∧match r with
 |some n=>e=ac (ag #[I .i64 n,V true])
 |none=>∃ n,e=ac (ag #[I .i64 n,V false])
def kA6 (a b:Int) (w:O):L prog 112 #[Q ⟨#[109,105,110]⟩,I U a,I U b] w (kdI w (N (min a b))):=by go_enter func112,ntmps112;exact kh3
def kA7 (a b:Int) (w:O):L prog 112 #[Q ⟨#[109,97,120]⟩,I U a,I U b] w (kdI w (N (max a b))):=by go_enter func112,ntmps112;exact kh3
def kA8 (a b:Int) (n:Int) (eR:∀ w:O,L prog 153 #[I .i64 a,I U b] w (kcC w (N n))) (w:O):L prog 112 #[Q ⟨#[43]⟩,I U a,I U b] w (kdI w (N n)):=by exact kiG
def kA9 (a b:Int) (eR:∀ w:O,L prog 153 #[I .i64 a,I U b] w (kcC w Z)) (w:O):L prog 112 #[Q ⟨#[43]⟩,I U a,I U b] w (kdI w (Z)):=by exact kih
def kA3 (a b:Int) (n:Int) (eR:∀ w:O,L prog 154 #[I .i64 a,I U b] w (kcC w (N n))) (w:O):L prog 112 #[Q ⟨#[45]⟩,I U a,I U b] w (kdI w (N n)):=by exact kiG
def kA4 (a b:Int) (eR:∀ w:O,L prog 154 #[I .i64 a,I U b] w (kcC w Z)) (w:O):L prog 112 #[Q ⟨#[45]⟩,I U a,I U b] w (kdI w (Z)):=by exact kih
def krO (a b:Int) (n:Int) (eR:∀ w:O,L prog 155 #[I .i64 a,I U b] w (kcC w (N n))) (w:O):L prog 112 #[Q ⟨#[42]⟩,I U a,I U b] w (kdI w (N n)):=by exact kiG
def kA5 (a b:Int) (eR:∀ w:O,L prog 155 #[I .i64 a,I U b] w (kcC w Z)) (w:O):L prog 112 #[Q ⟨#[42]⟩,I U a,I U b] w (kdI w (Z)):=by exact kih
def kge (op:List UInt8) (ba:op=Oz.maT∨op=Oz.maS∨op=Oz.maF∨op=Oz.maY∨op=Oz.maJ) (a b:Int) (aE:0≤a) (jm:a≤1152921504606846976) (ak:0≤b) (gW:b≤1152921504606846976) (w:O):
 L prog 112 #[Q ⟨op.toArray⟩,I U a,I U b] w (kdI w (Oz.mao op a b)):=by
 have ou:Oz.valid a=K:=ub3 ⟨aE,jm⟩;have m0:Oz.valid b=K:=ub3 ⟨ak,gW⟩;rcases ba with rfl|rfl|rfl|rfl|rfl
 .exact kA6 a b w
 .exact kA7 a b w
 .have aH:Oz.mao Oz.maF a b=if decide (a+b≤Oz.mab) then N (a+b) else Z:=by unfold Oz.mao;rw[ua0 dC,ua0 dC,ua1 rfl,ou,m0];rfl
  rw[aH];by_cases h:a+b≤Oz.mab
  .rw[ua1 (ub3 h)];exact kA8 a b _ (kCP a b aE jm ak gW h) w
  .rw[ua0 (by simpa using h)];exact kA9 a b (kCR a b aE jm ak gW h) w
 .have aH:Oz.mao Oz.maY a b=if decide (b≤a) then N (a-b) else Z:=by unfold Oz.mao;rw[ua0 dC,ua0 dC,ua0 dC,ua1 rfl,ou,m0];rfl
  rw[aH];by_cases h:b≤a
  .rw[ua1 (ub3 h)];exact kA3 a b _ (ktO a b aE jm ak gW h) w
  .rw[ua0 (by simpa using h)];exact kA4 a b (ktP a b aE jm ak gW h) w
 .have aH:Oz.mao Oz.maJ a b=if decide (a*b≤Oz.mab) then N (a*b) else Z:=by unfold Oz.mao;rw[ua0 dC,ua0 dC,ua0 dC,ua0 dC,ua1 rfl,ou,m0];rfl
  rw[aH];by_cases aD:a=0
  .subst aD;rw[ua1 (by rw[ut9];decide)];refine krO 0 b _ (fun w=>?_) w;rw[ut9];exact mul_zero b ak w
  .by_cases h:a*b≤Oz.mab
   .rw[ua1 (ub3 h)];exact krO a b _ (kw4 a b oM jm ak h) w
   .rw[ua0 (by simpa using h)];exact kA5 a b (kw5 a b oM jm ak h) w
def kgK (h:P:=by
 have k0:=ui5 d8;have k1:=ui5 gV;have bS:=ui5 iA;go_wp2_with fail;refine uo9 kR kR ?_;(repeat (go_big_quiet_step (first|(go_at_call_of 113 (I U (bO:Int));exact qn.o _ _)|(go_at_call_of 113 (I U (cc:Int));exact d3.o _ _))));refine uu2 ?_;intro _ vL;obtain ⟨⟨q8,osq⟩,uO⟩:=vL;subst uO;have bj:=uk1 aF q8 osq;have bU:=bT bo bj;simp only;generalize Go.Sort.grow (redrawn aF q8) osq=a6 at*;clear bj k0 k1 bS d8 gV iA
 first
 |guard_hyp O5;have fJ:=(bU.o.cell (p:=⟨ap,_,Z⟩) dW).trans kY.o;have fN:=(bU.o.cell (p:=⟨ap,_,Z⟩) dW).trans yA.o;have gu:=bU;have kl:=fun m=>gu.o.cell (p:=⟨ap,m,Z⟩) dW;have aN:=(gu.o.cell (p:=⟨g,0,Z⟩) ef).trans hj.o;have bi:=(kl _).trans gw.o.1;have aW:=(kl _).trans gw.o.2.1;have bc:=(kl _).trans gw.o.2.2.1;have br:=(kl _).trans gw.o.2.2.2.1;have bL:=(kl _).trans gw.o.2.2.2.2;obtain ⟨f0,b2,cB,dS,eJ⟩:a6.frozen? ⟨ap,i*5,Z⟩=J∧a6.frozen? ⟨ap,i*5+1,Z⟩=J∧a6.frozen? ⟨ap,i*5+2,Z⟩=J∧a6.frozen? ⟨ap,i*5+3,Z⟩=J∧a6.frozen? ⟨ap,i*5+4,Z⟩=J:=(by obtain ⟨cs,aL,_⟩:=(dh.o.below gu.o).blk;exact zq3);have aO:=dh.o.ma2 gu.o dc.o (Oz.mk kaF [] 0 Bx 3) (D Z 0 0) (uo3 _ _ _ _);have cp:=hD aO.1;have b4:=hD aO.2;clear aO kl;go_wp2_with fail;go_still_tail 24,kR
  change wpList _ _ _ _ _ a6.drew;obtain ⟨aK,e3⟩:=xE a6.drew;rw[←e3];have cA:Hz (H w w aK):=hD (by rw[e3];exact bU.o.drew);clear e3 aN bi aW bc br bL f0 b2 cB dS eJ cp b4 fJ fN;have gu:=cA;have kl:=fun m=>gu.o.cell (p:=⟨ap,m,Z⟩) dW;have aN:=(gu.o.cell (p:=⟨g,0,Z⟩) ef).trans hj.o;have bi:=(kl _).trans gw.o.1;have aW:=(kl _).trans gw.o.2.1;have bc:=(kl _).trans gw.o.2.2.1;have br:=(kl _).trans gw.o.2.2.2.1;have bL:=(kl _).trans gw.o.2.2.2.2;obtain ⟨f0,b2,cB,dS,eJ⟩:aK.frozen? ⟨ap,i*5,Z⟩=J∧aK.frozen? ⟨ap,i*5+1,Z⟩=J∧aK.frozen? ⟨ap,i*5+2,Z⟩=J∧aK.frozen? ⟨ap,i*5+3,Z⟩=J∧aK.frozen? ⟨ap,i*5+4,Z⟩=J:=(by obtain ⟨cs,aL,_⟩:=(dh.o.below gu.o).blk;exact zq3);have aO:=dh.o.ma2 gu.o dc.o (Oz.mk kaF [] 0 Bx 3) (D Z 0 0) (uo3 _ _ _ _);have cp:=hD aO.1;have b4:=hD aO.2;clear aO kl;go_wp2_with fail;go_ret;unfold RepEnd;rw[cC.o];exact ⟨rfl,⟨_,cp.o⟩,b4.o⟩
 |go_wp2_with fail;go_ret;unfold RepEnd;rw[cC.o];exact ⟨rfl,bU.o⟩):=h
def kiz (h:P:=by have kl:=fun m=>gu.o.cell (p:=⟨ap,m,Z⟩) dW;have aN:=(gu.o.cell (p:=⟨g,0,Z⟩) ef).trans hj.o;have bi:=(kl _).trans gw.o.1;have aW:=(kl _).trans gw.o.2.1;have bc:=(kl _).trans gw.o.2.2.1;have br:=(kl _).trans gw.o.2.2.2.1;have bL:=(kl _).trans gw.o.2.2.2.2;first|guard_hyp O6;obtain ⟨f0,b2,cB,dS,eJ⟩:aF.frozen? ⟨ap,i*5,Z⟩=J∧aF.frozen? ⟨ap,i*5+1,Z⟩=J∧aF.frozen? ⟨ap,i*5+2,Z⟩=J∧aF.frozen? ⟨ap,i*5+3,Z⟩=J∧aF.frozen? ⟨ap,i*5+4,Z⟩=J:=(by obtain ⟨cs,aL,_⟩:=(dh.o.below gu.o).blk;exact zq3);have aO:=dh.o.ma2 gu.o dc.o (Oz.mk kac [] T.length [] 1) (D Z 0 0) (uo3 _ _ _ _);have cp:=hD aO.1;have b4:=hD aO.2;clear aO kl;go_wp2_with fail;go_ret;unfold RepEnd;rw[cC.o];exact ⟨rfl,⟨_,cp.o⟩,b4.o⟩|guard_hyp O7;obtain ⟨f0,b2,cB,dS,eJ⟩:aF.frozen? ⟨ap,i*5,Z⟩=J∧aF.frozen? ⟨ap,i*5+1,Z⟩=J∧aF.frozen? ⟨ap,i*5+2,Z⟩=J∧aF.frozen? ⟨ap,i*5+3,Z⟩=J∧aF.frozen? ⟨ap,i*5+4,Z⟩=J:=(by obtain ⟨cs,aL,_⟩:=(dh.o.below gu.o).blk;exact zq3);have aO:=dh.o.ma2 gu.o dc.o (Oz.mk kac [] (m+1) [] 1) (D Z 0 0) (uo3 _ _ _ _);have cp:=hD aO.1;have b4:=hD aO.2;clear aO kl;go_wp2_with fail;go_ret;unfold RepEnd;rw[cC.o];exact ⟨rfl,⟨_,cp.o⟩,b4.o⟩|obtain ⟨f0,b2,cB,dS,eJ⟩:aK.frozen? ⟨ap,i*5,Z⟩=J∧aK.frozen? ⟨ap,i*5+1,Z⟩=J∧aK.frozen? ⟨ap,i*5+2,Z⟩=J∧aK.frozen? ⟨ap,i*5+3,Z⟩=J∧aK.frozen? ⟨ap,i*5+4,Z⟩=J:=(by obtain ⟨cs,aL,_⟩:=(dh.o.below gu.o).blk;exact zq3);have aO:=dh.o.ma2 gu.o dc.o (Oz.mk kac [] m [] 1) (D Z 0 0) (uo3 _ _ _ _);have cp:=hD aO.1;have b4:=hD aO.2;clear aO kl;go_wp2_with fail;go_ret;unfold RepEnd;rw[cC.o];exact ⟨rfl,⟨_,cp.o⟩,b4.o⟩):=h
def km8 (h:P:=by have dK:=(gH al).1;have f5:=h.maz;have be:=h.ed.cell 0;simp only[gA,gB] at be;obtain ⟨v,au,⟨bu,bY,cP,c8,dj⟩,bf⟩:=h.at_ al;obtain ⟨A,c,rfl⟩:=kaA bf;obtain ⟨R,aH⟩:=xE (Oz.maM l i);rw[←aH];unfold Oz.maM at aH;rw[kal al] at aH;obtain ⟨n,ax⟩:=xE l.length;have dc:Hz (i<l.length):=hD dK;rw[←ax] at dK be;have dh:=hD h;first|guard_hyp Rn;have Rl:=();exact kma|exact kma):=h
def kma (h:P:=by have Rm:=();exact kmS):=h
def kiF (h:P:=by have Rn:=();exact km8):=h
def kfr (h:P:=by exact km8):=h
def kzM (base g ap cap i:Nat) (l:List St) (vs:List C) (aP:C) (s:St) (w:O) (h:EdX w base g ap cap l vs aP) (al:l[i]? =N s) (ba:s.op=Oz.maT) (az:s.args.length=2) (bO cc:Nat) (t0 bb:St) (ec:s.args[0]? =N (bO:Int)) (eG:s.args[1]? =N (cc:Int)) (cE:l[bO]? =N t0) (dy:l[cc]? =N bb) (gh:0≤t0.num) (e2:0≤bb.num):
 L prog 68 #[ab (N ⟨g,0,Z⟩),I U i] w (RepEnd base g ap cap l vs aP (Oz.maM l i) w):=by
 have zm:=();exact kfr
def kzN (base g ap cap i:Nat) (l:List St) (vs:List C) (aP:C) (s:St) (w:O) (h:EdX w base g ap cap l vs aP) (al:l[i]? =N s) (ba:s.op=Oz.maS) (az:s.args.length=2) (bO cc:Nat) (t0 bb:St) (ec:s.args[0]? =N (bO:Int)) (eG:s.args[1]? =N (cc:Int)) (cE:l[bO]? =N t0) (dy:l[cc]? =N bb) (gh:0≤t0.num) (e2:0≤bb.num):
 L prog 68 #[ab (N ⟨g,0,Z⟩),I U i] w (RepEnd base g ap cap l vs aP (Oz.maM l i) w):=by
 exact kfr
def kzU (base g ap cap i:Nat) (l:List St) (vs:List C) (aP:C) (s:St) (w:O) (h:EdX w base g ap cap l vs aP) (al:l[i]? =N s) (ba:s.op=Oz.maF) (az:s.args.length=2) (bO cc:Nat) (t0 bb:St) (ec:s.args[0]? =N (bO:Int)) (eG:s.args[1]? =N (cc:Int)) (cE:l[bO]? =N t0) (dy:l[cc]? =N bb) (gh:0≤t0.num) (e2:0≤bb.num):
 L prog 68 #[ab (N ⟨g,0,Z⟩),I U i] w (RepEnd base g ap cap l vs aP (Oz.maM l i) w):=by
 have zn:=();exact kfr
def kzJ (base g ap cap i:Nat) (l:List St) (vs:List C) (aP:C) (s:St) (w:O) (h:EdX w base g ap cap l vs aP) (al:l[i]? =N s) (ba:s.op=Oz.maY) (az:s.args.length=2) (bO cc:Nat) (t0 bb:St) (ec:s.args[0]? =N (bO:Int)) (eG:s.args[1]? =N (cc:Int)) (cE:l[bO]? =N t0) (dy:l[cc]? =N bb) (gh:0≤t0.num) (e2:0≤bb.num):
 L prog 68 #[ab (N ⟨g,0,Z⟩),I U i] w (RepEnd base g ap cap l vs aP (Oz.maM l i) w):=by
 have zo:=();exact kfr
def kzL (base g ap cap i:Nat) (l:List St) (vs:List C) (aP:C) (s:St) (w:O) (h:EdX w base g ap cap l vs aP) (al:l[i]? =N s) (ba:s.op=Oz.maJ) (az:s.args.length=2) (bO cc:Nat) (t0 bb:St) (ec:s.args[0]? =N (bO:Int)) (eG:s.args[1]? =N (cc:Int)) (cE:l[bO]? =N t0) (dy:l[cc]? =N bb) (gh:0≤t0.num) (e2:0≤bb.num):
 L prog 68 #[ab (N ⟨g,0,Z⟩),I U i] w (RepEnd base g ap cap l vs aP (Oz.maM l i) w):=by
 have zp:=();exact kfr
def kzP (base g ap cap i:Nat) (l:List St) (vs:List C) (aP:C) (s:St) (w:O) (h:EdX w base g ap cap l vs aP) (al:l[i]? =N s) (ba:s.op=Oz.mal) (az:s.args.length=1) (bO:Nat) (t0:St) (ec:s.args[0]? =N (bO:Int)) (cE:l[bO]? =N t0):
 L prog 68 #[ab (N ⟨g,0,Z⟩),I U i] w (RepEnd base g ap cap l vs aP (Oz.maM l i) w):=by
 have zq:=();exact kiF
def kzO (base g ap cap i:Nat) (l:List St) (vs:List C) (aP:C) (s:St) (w:O) (h:EdX w base g ap cap l vs aP) (al:l[i]? =N s) (ba:s.op=Oz.mbi) (az:s.args.length=1) (bO:Nat) (t0:St) (ec:s.args[0]? =N (bO:Int)) (cE:l[bO]? =N t0):
 L prog 68 #[ab (N ⟨g,0,Z⟩),I U i] w (RepEnd base g ap cap l vs aP (Oz.maM l i) w):=by
 exact kiF
def kzR (base g ap cap i:Nat) (l:List St) (vs:List C) (aP:C) (s:St) (w:O) (h:EdX w base g ap cap l vs aP) (al:l[i]? =N s) (ba:s.op=Oz.maO) (az:s.args.length=2) (bO cc:Nat) (t0 bb:St) (ec:s.args[0]? =N (bO:Int)) (eG:s.args[1]? =N (cc:Int)) (cE:l[bO]? =N t0) (dy:l[cc]? =N bb):
 L prog 68 #[ab (N ⟨g,0,Z⟩),I U i] w (RepEnd base g ap cap l vs aP (Oz.maM l i) w):=by
 have k6:=();exact kiF
def kfn (h:P:=by obtain ⟨bO,t0,ec,_,cE,_,_⟩:=kbi an al (k:=0) oM;obtain ⟨cc,bb,eG,_,dy,_,_⟩:=kbi an al (k:=1) oM;obtain ⟨fU,f0⟩:=kej an cE;obtain ⟨eO,b2⟩:=kej an dy;first|guard_hyp Ro;exact kzM base g ap cap i l vs aP s w h al aD dL bO cc t0 bb ec eG cE dy f0.num b2.num|guard_hyp Rp;exact kzN base g ap cap i l vs aP s w h al af dL bO cc t0 bb ec eG cE dy f0.num b2.num|guard_hyp Rq;exact kzU base g ap cap i l vs aP s w h al ao dL bO cc t0 bb ec eG cE dy f0.num b2.num|guard_hyp Rr;exact kzJ base g ap cap i l vs aP s w h al av dL bO cc t0 bb ec eG cE dy f0.num b2.num|exact kzL base g ap cap i l vs aP s w h al bk dL bO cc t0 bb ec eG cE dy f0.num b2.num):=h
def kzK (base g ap cap i:Nat) (l:List St) (vs:List C) (aP:C) (s:St) (w:O) (h:EdX w base g ap cap l vs aP) (al:l[i]? =N s) (aD:s.op≠Oz.maT) (af:s.op≠Oz.maS) (ao:s.op≠Oz.maF) (av:s.op≠Oz.maY) (bk:s.op≠Oz.maJ) (cb:s.op≠Oz.mal) (dE:s.op≠Oz.mbi) (fi:s.op≠Oz.maO):
 L prog 68 #[ab (N ⟨g,0,Z⟩),I U i] w (RepEnd base g ap cap l vs aP (Oz.maM l i) w):=by
 have dK:=(gH al).1;have be:=h.ed.cell 0;simp only[gA,gB] at be;obtain ⟨v,au,⟨bu,bY,cP,c8,dj⟩,bf⟩:=h.at_ al;obtain ⟨A,c,rfl⟩:=kaA bf;obtain ⟨R,aH⟩:=xE (Oz.maM l i);rw[←aH];unfold Oz.maM at aH;rw[kal al] at aH;dsimp only at aH;have cC:Hz (R=Z):=hD (by rw[aH,ua0 (by simp only[ul6];exact ⟨aD,af,ao,av,bk⟩),ua0 cb,ua0 dE,ua0 fi]);obtain ⟨n,ax⟩:=xE l.length;rw[←ax] at dK be;have cU:(i:Int)<(n:Int):=oM;have bE:=nN i;have bw:(s.op== [109,105,110])=J:=ua2.2 aD;have aL:(s.op== [109,97,120])=J:=ua2.2 af;have bJ:(s.op== [43])=J:=ua2.2 ao;have dn:(s.op== [45])=J:=ua2.2 av;have h6:(s.op== [42])=J:=ua2.2 bk;have BC:(s.op== [108,101,110])=J:=ua2.2 cb;have D2:(s.op== [108,105,110,101,115])=J:=ua2.2 dE;have Pf:(s.op== [43,43])=J:=ua2.2 fi;clear h al au bf ax aH aD af ao av bk cb dE fi;go_enter func68,ntmps68;go_wp2_with fail;go_ret;unfold RepEnd;rw[cC.o];exact ⟨rfl,kax _ _⟩
def kzS (base g ap cap i:Nat) (l:List St) (vs:List C) (aP:C) (s:St) (w:O) (h:EdX w base g ap cap l vs aP) (al:l[i]? =N s) (an:kaf l=0):
 L prog 68 #[ab (N ⟨g,0,Z⟩),I U i] w (RepEnd base g ap cap l vs aP (Oz.maM l i) w):=by
 by_cases aD:s.op=Oz.maT
 .have dL:=kaV an al 2 (by rw[aD];kernel_rfl);have Ro:=();exact kfn
 by_cases af:s.op=Oz.maS
 .have dL:=kaV an al 2 (by rw[af];kernel_rfl);have Rp:=();exact kfn
 by_cases ao:s.op=Oz.maF
 .have dL:=kaV an al 2 (by rw[ao];kernel_rfl);have Rq:=();exact kfn
 by_cases av:s.op=Oz.maY
 .have dL:=kaV an al 2 (by rw[av];kernel_rfl);have Rr:=();exact kfn
 by_cases bk:s.op=Oz.maJ
 .have dL:=kaV an al 2 (by rw[bk];kernel_rfl);exact kfn
 by_cases cb:s.op=Oz.mal
 .have dL:=kaV an al 1 (by rw[cb];kernel_rfl);obtain ⟨bO,t0,ec,_,cE,_,_⟩:=kbi an al (k:=0) oM;exact kzP base g ap cap i l vs aP s w h al cb dL bO t0 ec cE
 by_cases dE:s.op=Oz.mbi
 .have dL:=kaV an al 1 (by rw[dE];kernel_rfl);obtain ⟨bO,t0,ec,_,cE,_,_⟩:=kbi an al (k:=0) oM;exact kzO base g ap cap i l vs aP s w h al dE dL bO t0 ec cE
 by_cases fi:s.op=Oz.maO
 .have dL:=kaV an al 2 (by rw[fi];kernel_rfl);obtain ⟨bO,t0,ec,_,cE,_,_⟩:=kbi an al (k:=0) oM;obtain ⟨cc,bb,eG,_,dy,_,_⟩:=kbi an al (k:=1) oM;exact kzR base g ap cap i l vs aP s w h al fi dL bO cc t0 bb ec eG cE dy
 exact kzK base g ap cap i l vs aP s w h al aD af ao av bk cb dE fi
def km4 (h:P:=by go_wp2_with fail;refine (lR.o _ a7.o).mono ?_;rintro cG a6 ⟨rfl,bs⟩;have bo:=bT a7 bs;have co:=hD (dI.o.below bs dI.o.lt);clear bs a7 dI aN aM aZ bC b1 c5 ct bI;obtain ⟨⟨⟨aN,aM⟩,aZ,bC⟩,⟨b1,c5⟩,ct,bI⟩:=co.o.cells;go_wp2_with fail;first|guard_hyp Rs;refine (qd.o _ bo.o).mono ?_;rintro cG aK ⟨rfl,b3⟩;have bU:=bT bo b3;have cX:=hD (co.o.below b3 co.o.lt);clear b3 bo co aN aM aZ bC b1 c5 ct bI;obtain ⟨⟨⟨aN,aM⟩,aZ,bC⟩,⟨b1,c5⟩,ct,bI⟩:=cX.o.cells;go_wp2_with fail;(first|guard_hyp Ru;go_ret;exact ⟨rfl,bU.o⟩|guard_hyp Rv;refine (Ci.o _ bU.o).mono ?_;rintro cG bm ⟨rfl,bv⟩;have cA:=bT bU bv;have da:=hD (cX.o.below bv cX.o.lt);clear bv bU cX aN aM aZ bC b1 c5 ct bI;obtain ⟨⟨⟨aN,aM⟩,aZ,bC⟩,⟨b1,c5⟩,ct,bI⟩:=da.o.cells;go_wp2_with fail;go_ret;exact ⟨rfl,cA.o⟩|refine (Ci.o _ bU.o).mono ?_;rintro cG bm ⟨rfl,bv⟩;have cA:=bT bU bv;have da:=hD (cX.o.below bv cX.o.lt);clear bv bU cX aN aM aZ bC b1 c5 ct bI;obtain ⟨⟨⟨aN,aM⟩,aZ,bC⟩,⟨b1,c5⟩,ct,bI⟩:=da.o.cells;go_wp2_with fail;refine (E8.o _ cA.o).mono ?_;rintro cG du ⟨rfl,cQ⟩;have cN:=bT cA cQ;have dQ:=hD (da.o.below cQ da.o.lt);clear cQ cA da aN aM aZ bC b1 c5 ct bI;obtain ⟨⟨⟨aN,aM⟩,aZ,bC⟩,⟨b1,c5⟩,ct,bI⟩:=dQ.o.cells;go_wp2_with fail;go_ret;exact ⟨rfl,cN.o⟩)|go_ret;exact ⟨rfl,bo.o⟩):=h
def kib (h:P:=by have Rs:=();exact km4):=h
def kzE (r:Rx) (cs:List C) (w:O) (F:Nat→Prop) (au:RxV w F r cs) (hF:∀ i,F i→i<w.heap.size) (b5:r.fmd) (aB:r.mat) (cj:NoneAt w) (al:r.size≤1000000000):
 L prog 159 #[aa cs.toArray] w fun e w'=>e=ac (I U (if r.fits then 0 else 9))∧H w w w':=by
 obtain ⟨kind,fJ,fN,iy,jD,lo,hi,A,n,c,rfl⟩:=au.eight;have m0:∀ w',H w w w'→RxV w' F r [I .i64 kind,I Y fJ,I Y fN,I Y iy,I Y jD,I U lo,I U hi,D A n c]:=fun w' ak=>au.kept (Kept.of_below (F:=fun _=>False) ak) (fun _ _ _=>id) (fun i hi _=>hi);have j6:∀ w',H w w w'→∀ i,F i→i<w'.heap.size:=fun w' ak i hi=>ua7 (hF i hi) ak.size;obtain ⟨kQ,lR,qd,Ci,E8,lh,f7⟩:=hd7 (fun w' ak=>krb r.size r (nR) _ w' F (m0 w' ak) (j6 w' ak) b5 (cj.below ak cj.1) al) (fun w' ak=>kqD r.size r (nR) _ w' F (m0 w' ak) (j6 w' ak) al) (fun w' ak=>kre r.size r (nR) _ w' F (m0 w' ak) (j6 w' ak) al) (fun w' ak=>kq0 r.size r (nR) _ w' F (m0 w' ak) (j6 w' ak) ⟨aB,al⟩) (fun w' ak=>kqA r.size r (nR) _ w' F (m0 w' ak) (j6 w' ak) ⟨aB,al⟩) (show R8 (w.alloc (y #[I .i64 kind,I Y fJ,I Y fN,I Y iy,I Y jD,I U lo,I U hi,D A n c] 105)) w (I U kind) (I Y fJ) (I Y fN) (I Y iy) (I Y jD) (I U lo) (I U hi) (D A n c) from Blk.new w _ _) ((ub5 w w).alloc (nR) (y #[I .i64 kind,I Y fJ,I Y fN,I Y iy,I Y jD,I U lo,I U hi,D A n c] 105));obtain ⟨aq,aQ⟩:=xE (w.alloc (y #[I .i64 kind,I Y fJ,I Y fN,I Y iy,I Y jD,I U lo,I U hi,D A n c] 105));rw[←aQ] at lh f7;have cd:=hD aQ
 have iz:r.fits=(decide (r.size≤256)&&decide (r.depth≤32)&&decide (r.mbr≤64)&&decide (r.mbp≤4096)):=by
  unfold Rx.fits Rx.mbr Rx.mbp;congr 1
  .congr 1;exact ul2.2 oM
  .exact ul2.2 oM
 obtain ⟨z,bd⟩:=xE r.fits;rw[←bd] at iz ⊢;have Rt:=kpr r;have E9:=knH r;have qb:=khu _ r (nR);obtain ⟨s1,gZ⟩:=xE r.size;obtain ⟨aW,mR⟩:=xE r.depth;obtain ⟨eS,gr⟩:=xE r.mbr;obtain ⟨bE,jV⟩:=xE r.mbp;rw[←gZ] at lR iz al qb;rw[←mR] at qd iz qb;rw[←gr] at Ci iz Rt;rw[←jV] at E8 iz E9;clear au m0 hF j6 b5 aB cj aQ gZ mR gr jV bd;obtain ⟨⟨⟨aN,aM⟩,aZ,bC⟩,⟨b1,c5⟩,ct,bI⟩:=lh.o.cells;go_enter func159,ntmps159;go_upto_region 1 with (fail);rw[←cd.o];clear cd;go_wp2_with fail;refine (kQ.o _ f7.o).mono ?_;rintro cG aF ⟨rfl,cm⟩;have a7:=bT f7 cm;have dI:=hD (lh.o.below cm lh.o.lt);clear cm f7 lh aN aM aZ bC b1 c5 ct bI;obtain ⟨⟨⟨aN,aM⟩,aZ,bC⟩,⟨b1,c5⟩,ct,bI⟩:=dI.o.cells;by_cases k0:256<s1
 .have bd:z=J:=(by rw[iz];simp;omega);subst bd;clear iz;have bw:decide (256<(s1:Int))=K:=(by simp;omega);exact km4
 by_cases k1:32<aW
 .have bd:z=J:=(by rw[iz];simp;omega);subst bd;clear iz;have bw:decide (256<(s1:Int))=J:=(by simp;omega);have aL:decide (32<(aW:Int))=K:=(by simp;omega);have Ru:=();exact kib
 by_cases bS:64<eS
 .have bd:z=J:=(by rw[iz];simp;omega);subst bd;clear iz;have bw:decide (256<(s1:Int))=J:=(by simp;omega);have aL:decide (32<(aW:Int))=J:=(by simp;omega);have bJ:decide (64<(eS:Int))=K:=(by simp;omega);have Rv:=();exact kib
 by_cases fp:4096<bE
 .have bd:z=J:=(by rw[iz];simp;omega);subst bd;clear iz;have bw:decide (256<(s1:Int))=J:=(by simp;omega);have aL:decide (32<(aW:Int))=J:=(by simp;omega);have bJ:decide (64<(eS:Int))=J:=(by simp;omega);have dn:decide (4096<(bE:Int))=K:=(by simp;omega);exact kib
 have bd:z=K:=(by rw[iz];simp;omega);subst bd;clear iz;have bw:decide (256<(s1:Int))=J:=(by simp;omega);have aL:decide (32<(aW:Int))=J:=(by simp;omega);have bJ:decide (64<(eS:Int))=J:=(by simp;omega);have dn:decide (4096<(bE:Int))=J:=(by simp;omega);go_wp2_with fail;refine (lR.o _ a7.o).mono ?_;rintro cG a6 ⟨rfl,bs⟩;have bo:=bT a7 bs;have co:=hD (dI.o.below bs dI.o.lt);clear bs a7 dI aN aM aZ bC b1 c5 ct bI;obtain ⟨⟨⟨aN,aM⟩,aZ,bC⟩,⟨b1,c5⟩,ct,bI⟩:=co.o.cells;go_wp2_with fail;refine (qd.o _ bo.o).mono ?_;rintro cG aK ⟨rfl,b3⟩;have bU:=bT bo b3;have cX:=hD (co.o.below b3 co.o.lt);clear b3 bo co aN aM aZ bC b1 c5 ct bI;obtain ⟨⟨⟨aN,aM⟩,aZ,bC⟩,⟨b1,c5⟩,ct,bI⟩:=cX.o.cells;go_wp2_with fail;refine (Ci.o _ bU.o).mono ?_;rintro cG bm ⟨rfl,bv⟩;have cA:=bT bU bv;have da:=hD (cX.o.below bv cX.o.lt);clear bv bU cX aN aM aZ bC b1 c5 ct bI;obtain ⟨⟨⟨aN,aM⟩,aZ,bC⟩,⟨b1,c5⟩,ct,bI⟩:=da.o.cells;go_wp2_with fail;refine (E8.o _ cA.o).mono ?_;rintro cG du ⟨rfl,cQ⟩;have cN:=bT cA cQ;have dQ:=hD (da.o.below cQ da.o.lt);clear cQ cA da aN aM aZ bC b1 c5 ct bI;obtain ⟨⟨⟨aN,aM⟩,aZ,bC⟩,⟨b1,c5⟩,ct,bI⟩:=dQ.o.cells;go_wp2_with fail;go_ret;exact ⟨rfl,cN.o⟩
end Go.Proofs.YtamhdmkolfmmdaaGreatDoor
namespace Go.Proofs.YtamhdmkolfmmdaaGreatDoor
variable {P:Prop}
def Gr.om {α:Type} (p:α×Nat×Bool):Option (α×Nat):=if p.2.2=K then Z else N (p.1,p.2.1)
section
variable {α:Type} {x:α} {k:Nat} {b:Bool} {p:α×Nat×Bool}
theorem kdR (h:p.2.2=J):Gr.om p=N (p.1,p.2.1):=by unfold Gr.om;rw[h];rfl
theorem kfR (h:p.2.2=K):Gr.om p=Z:=by unfold Gr.om;exact ua1 h
end
section
variable {T:List UInt8}
theorem kdw {k:Nat} {b:UInt8} (ak:b≠0):Gr.nx T k=b↔T[k]? =N b:=⟨fun h=>kyV h ak,kcd⟩
theorem kqM {k:Nat} :(Gr.num T k K).2.2=K:=by unfold Gr.num;simp
theorem ky2 {k:Nat} (an:T[k]? =N 123):kby T k=if (Gr.bnd T (k+1)).2.2.2=K then Z else N (N (((Gr.bnd T (k+1)).1:Int),(Gr.bnd T (k+1)).2.1),(Gr.bnd T (k+1)).2.2.1):=by
 have az:k<T.length:=kaj an;have ax:=kqN (T:=T) (k:=k+1) oM;have eI:=keZ (T:=T) (k+1) J
 have aL : kby T k = match kaW T (k + 1) with
  | none => none
  | some (lo, k1) =>
   if T[k1]? = N 44 then
    (if k1 + 1 < T.length ∧ T[k1 + 1]? ≠ N 125 then match kaW T (k1 + 1) with
     | none => none
     | some (hi, bS) => if T[bS]? = some 125 ∧ lo ≤ hi then some (some ((lo : Int), (hi : Int)), bS + 1) else none
    else if T[k1 + 1]? = N 125 then N (N ((lo : Int), -1), k1 + 2) else Z)
   else if T[k1]? = N 125 then N (N ((lo : Int), (lo : Int)), k1 + 1) else Z := by
  unfold kby
  rw [an, ua0 (by decide), ua0 (by decide), ua0 (by decide), ua1 rfl]
  rfl
 rw[aL,ax];unfold Gr.bnd
 have bg:∀ q,(Gr.num T q (Gr.num T (k+1) J).2.2).2.2=K∨(Gr.num T (k+1) J).2.2=J:=fun q=>by
  cases h:(Gr.num T (k+1) J).2.2
  .exact .inr rfl
  .exact .inl kqM
 generalize aO:Gr.num T (k+1) J=p at*;obtain ⟨lo,k1,m⟩:=p;dsimp only at*
 cases m with
 |true=>
  rw[ua1 rfl];dsimp only;by_cases nX:Gr.nx T k1=44
  .rw[ua1 nX];by_cases ko:Gr.nx T (k1+1)=125
   .rw[ua1 ko];try rfl
   .rw[ua0 ko,ua1 (by simp[kqM])]
  .rw[ua0 nX];try rfl
 |false=>
  rw[ua0 dC];dsimp only;by_cases nX:T[k1]? =N 44
  .have ew:k1<T.length:=kaj nX;rw[ua1 nX,ua1 (kcd nX)];by_cases ko:T[k1+1]? =N 125
   .rw[ua0 (fun h=>h.2 ko),ua1 ko,ua1 (kcd ko)];try rfl
   .rw[ua0 (fun h=>ko ((kdw dC).1 h))];have fT:=kqN (T:=T) (k:=k1+1) oM;by_cases af:k1+1<T.length
    .rw[ua1 ⟨af,ko⟩,fT];generalize Gr.num T (k1+1) J=il;obtain ⟨hi,bS,iy⟩:=il;dsimp only
     cases iy with
     |true=>rfl
     |false=>
      rw[ua0 dC];dsimp only;by_cases av:T[bS]? =N 125∧lo≤hi
      .rw[ua1 av,kcd av.1];have:decide (hi<lo)=J:=ua5 oM;rw[this];try rfl
      .rw[ua0 av,ua1];by_cases bk:hi<lo
       .rw[ub3 bk];try rfl
       .have:¬Gr.nx T bS=125:=fun h=>av ⟨(kdw dC).1 h,oM⟩;simp[this]
    .rw[ua0 (fun h=>af h.1),ua0 ko]
     have zr:(Gr.num T (k1+1) J).2.2=K:=by
      have:kaW T (k1+1)=Z:=(by unfold kaW;rw[kpW (uc6.2 oM)];exact ua1 (.inl rfl));rw[this] at fT
      cases h:(Gr.num T (k1+1) J).2.2 with
      |true=>rfl
      |false=>rw[h] at fT;cases fT
     rw[zr];try rfl
  .rw[ua0 nX,ua0 (fun h=>nX ((kdw dC).1 h))];dsimp only;by_cases ko:T[k1]? =N 125
   .rw[ua1 ko,kcd ko];try rfl
   .rw[ua0 ko,ua1];have:¬Gr.nx T k1=125:=fun h=>ko ((kdw dC).1 h);simp[this]
theorem kqB (f:Nat) (r:Rx) (k:Nat):Gr.ma1 T f r k K=(r,k,K):=by
 cases f with
 |zero=>rfl
 |succ f=>rw[Gr.ma1];exact ua1 rfl
theorem kqW:∀(f g:Nat) (r:Rx) (k:Nat),k≤T.length→T.length<k+f→T.length<k+g→kbH T f r k=Gr.om (Gr.ma1 T g r k J)
 |0,_,_,_,aw,b5,_=>by omega
 |_+1,0,_,_,aw,_,hg=>by omega
 |f+1,g+1,r,k,aw,b5,hg=>by
  have step:∀ lo hi k',(k<k')→k'≤T.length→kby T k=N (N (lo,hi),k')→kbH T (f+1) r k=Gr.om (Gr.ma1 T g (Rx.rep lo hi r) k' J):=fun lo hi k' af ao h=>by rw[kbH,h];exact kqW f g _ _ ao oM oM
  rw[Gr.ma1,ua0 dC];by_cases af:T[k]? =N 42
  .have:=kaj af;rw[ua1 (kcd af)];exact step _ _ _ oM oM (by unfold kby;exact ua1 af)
  rw[ua0 (fun h=>af ((kdw dC).1 h))];by_cases ao:T[k]? =N 43
  .have:=kaj ao;rw[ua1 (kcd ao)];exact step _ _ _ oM oM (by unfold kby;rw[ua0 af];exact ua1 ao)
  rw[ua0 (fun h=>ao ((kdw dC).1 h))];by_cases av:T[k]? =N 63
  .have:=kaj av;rw[ua1 (kcd av)];exact step _ _ _ oM oM (by unfold kby;rw[ua0 af,ua0 ao];exact ua1 av)
  rw[ua0 (fun h=>av ((kdw dC).1 h))];by_cases bk:T[k]? =N 123
  .have az:=kaj bk;rw[ua1 (kcd bk)];have e:=ky2 bk;have ak:=kkm (T:=T) (k:=k+1) oM;have bf:=kkl (T:=T) (k:=k+1) oM;generalize Gr.bnd T (k+1)=q at*;obtain ⟨lo,hi,k',m⟩:=q;dsimp only at*
   cases m with
   |true=>rw[kqB,kbH,e,ua1 rfl];rfl
   |false=>rw[ua0 dC] at e;exact step _ _ _ oM (bf rfl) e
  rw[ua0 (fun h=>bk ((kdw dC).1 h))];rw[kbH];have e:kby T k=N (Z,k):=(by unfold kby;rw[ua0 af,ua0 ao,ua0 av,ua0 bk]);rw[e];rfl
theorem krK (j i:Nat):kaG T (j+i)=(kaG (T.drop j) i).map (fun p=>(p.1,j+p.2)):=by
 unfold kaG;rw[ud0]
 cases T[j+i]? with
 |none=>rfl
 |some b=>
  dsimp only
  cases ka6 b with
  |none=>rfl
  |some d=>rfl
theorem kAt (j i:Nat):kaO T (j+i)=(kaO (T.drop j) i).map (fun p=>(p.1,j+p.2)):=by
 unfold kaO;rw[ud0]
 cases T[j+i]? with
 |none=>rfl
 |some b=>
  dsimp only;split
  .rfl
  split
  .rfl
  split
  .rfl
  split
  .rw[show j+i+1=j+(i+1) by omega,krK]
   cases kaG (T.drop j) (i+1) with
   |none=>rfl
   |some p=>
    obtain ⟨h,k1⟩:=p;simp only[ue5];rw[krK]
    cases kaG (T.drop j) k1 with
    |none=>rfl
    |some p=>rfl
  split
  .rfl
  .rfl
theorem kAy {k:Nat} (h:T[k]? =N 92):kaU (T.drop k)=(kaO T (k+1)).map (fun p=>(p.1,p.2-k)):=by
 have az:=kaj h;have e:T.drop k=92::T.drop (k+1):=(by rw[ue7 az];congr 1;rw[ua3 az] at h;exact Option.some.inj h);rw[e,kaU,ua0 dC,ua0 dC];have ao:=kAt (T:=T) (k+1) 0;rw[uh4] at ao;rw[ao]
 cases kaO (T.drop (k+1)) 0 with
 |none=>rfl
 |some p=>simp only[ue5];exact ud4 N (Prod.ext rfl (by show p.2+1=k+1+p.2-k;omega))
theorem kAs {k:Nat} {x:UInt8} {u:Nat} (h:kaO T k=N (x,u)):k≤u:=by have:=khr h;omega
theorem ky1 {k:Nat} :(match kcA T (k+1) with
 |none=>none
 |some (S,k')=>some (Rx.set S,k'))=Gr.om (Gr.cls T k):=by
 unfold kcA Gr.cls;dsimp only
 cases ka7 T (T.length+1) (if T[k+1]? =N 94 then k+2 else k+1) with
 |none=>rfl
 |some e=>
  dsimp only
  cases lsP (e-1-(if T[k+1]? =N 94 then k+2 else k+1)+1) ((T.drop (if T[k+1]? =N 94 then k+2 else k+1)).take (e-1-(if T[k+1]? =N 94 then k+2 else k+1))) kad with
  |none=>rfl
  |some S=>rfl
variable {E:Nat→Rx×Nat×Bool} {mK:Nat→Option (Rx×Nat)} {d:Nat}
theorem kyR (ce:∀ k,k≤T.length→mK k=Gr.om (E k)) {k:Nat} (aw:k<T.length):kcv T mK k=Gr.om (Gr.trm T E k):=by
 obtain ⟨b,ak⟩:=xG T aw;unfold kcv Gr.trm;rw[ak];dsimp only;by_cases hs:b=92
 .subst hs;rw[ua1 rfl,ua0 dC,ua0 dC,ua0 dC,ua1 rfl,kAy ak]
  cases aG:kaO T (k+1) with
  |none=>rfl
  |some p=>obtain ⟨x,u⟩:=p;have:=kAs aG;simp only[ue5];rw[kdR rfl];exact ud4 N (Prod.ext rfl (by show u=k+(u-k);omega))
 rw[ua0 hs];by_cases kG:b=46
 .rw[ua1 kG,ua1 kG];rfl
 rw[ua0 kG,ua0 kG];by_cases kn:b=91
 .have it:¬b=40:=(by rw[kn];decide);rw[ua1 kn,ua0 it,ua1 kn];exact ky1
 rw[ua0 kn,ua0 kn];by_cases it:b=40
 .rw[ua1 it,ua1 it,ce (k+1) oM];generalize E (k+1)=q;obtain ⟨r,k',m⟩:=q
  cases m with
  |true=>rfl
  |false=>
   rw[kdR rfl];dsimp only;by_cases nw:T[k']? =N 41
   .rw[ua1 nw,kcd nw];rfl
   .rw[ua0 nw];have:¬Gr.nx T k'=41:=fun h=>nw ((kdw dC).1 h);exact (kfR (by simp[this])).symm
 rw[ua0 it,ua0 it,ua0 hs];split <;> rfl
def khw (T:List UInt8) (mK:Nat→Option (Rx×Nat)) (k:Nat):Option (Rx×Nat):=match kcv T mK k with
 |none=>none
 |some (r,k1)=>kbH T (T.length+1) r k1
theorem kts {mK:Nat→Option (Rx×Nat)} {f k:Nat} {l:List Rx} (al:¬kbu T k=K):kbQ T mK (f+1) l k=(khw T mK k).bind (fun p=>kbQ T mK f (l++[p.1]) p.2):=by
 rw[kbQ,ua0 al];unfold khw
 cases kcv T mK k with
 |none=>rfl
 |some p=>
  dsimp only
  cases kbH T (T.length+1) p.1 p.2 with
  |none=>rfl
  |some q=>rfl
theorem kyW (hd:2≤d) (hq:Gr.Ok T d E) (ce:∀ k,k≤T.length→mK k=Gr.om (E k)) {k:Nat} (aw:k<T.length):khw T mK k=Gr.om (Gr.cnt T E k):=by
 unfold khw;have af:=kki hd hq aw;rw[kyR ce aw];unfold Gr.cnt;generalize Gr.trm T E k=q at*;obtain ⟨r,k1,m⟩:=q
 cases m with
 |true=>rw[kfR rfl,kqB];rfl
 |false=>rw[kdR rfl];have:=(af.2.2 rfl).2;dsimp only at*;exact kqW _ _ _ _ this oM oM
theorem kyT (f:Nat) (l:List Rx) (k:Nat):Gr.mbf T E f l k K=(l,k,K):=by
 cases f with
 |zero=>rfl
 |succ f=>rw[Gr.mbf];exact ua1 (by simp)
theorem ktQ {k:Nat} (h:kbu T k=J):k<T.length:=by unfold kbu at h;simp only[ul7,un5] at h;omega
theorem kqL (hd:2≤d) (hq:Gr.Ok T d E) (ce:∀ k,k≤T.length→mK k=Gr.om (E k)):∀(f g:Nat) (l:List Rx) (k:Nat),k≤T.length→T.length<k+f→T.length<k+g→kbQ T mK f l k=Gr.om (Gr.mbf T E g l k J)
 |0,_,_,_,aw,b5,_=>by omega
 |_+1,0,_,_,aw,_,hg=>by omega
 |f+1,g+1,l,k,aw,b5,hg=>by
  by_cases al:kbu T k=K
  .rw[kbQ,Gr.mbf,uq7,ua1 al,ua1 al];rfl
  have az:=ktQ (Bool.eq_false_iff.2 al);have an:=kkj hd hq az;have e:=kyW hd hq ce az;rw[kts al,Gr.mbf,uq7,ua0 al,e];generalize Gr.cnt T E k=q at*;obtain ⟨r,k1,m⟩:=q
  cases m with
  |true=>rw[kfR rfl,kyT];rfl
  |false=>rw[kdR rfl];have ao:=an.2.2 rfl;dsimp only at*;exact kqL hd hq ce f g _ _ ao.2 oM oM
theorem kqJ (hd:2≤d) (hq:Gr.Ok T d E) (ce:∀ k,k≤T.length→mK k=Gr.om (E k)) {k:Nat} (aw:k≤T.length):kbL T mK k=Gr.om (Gr.sqn T E k):=by unfold kbL Gr.sqn;rw[kqL hd hq ce (T.length+1) (T.length+2) [] k aw oM oM];generalize Gr.mbf T E (T.length+2) [] k J=q;obtain ⟨l,k1,m⟩:=q;cases m <;> rfl
theorem kqX (f:Nat) (l:List Rx) (k:Nat):Gr.mbh T E f l k K=(l,k,K):=by
 cases f with
 |zero=>rfl
 |succ f=>rw[Gr.mbh];exact ua0 (fun h=>by cases h.2)
theorem kqZ (hd:2≤d) (hq:Gr.Ok T d E) (ce:∀ k,k≤T.length→mK k=Gr.om (E k)):∀(f g:Nat) (l:List Rx) (k:Nat),k≤T.length→T.length<k+f→T.length<k+g→kcf T mK f l k=Gr.om (Gr.mbh T E g l k J)
 |0,_,_,_,aw,b5,_=>by omega
 |_+1,0,_,_,aw,_,hg=>by omega
 |f+1,g+1,l,k,aw,b5,hg=>by
  rw[kcf,Gr.mbh];by_cases al:T[k]? =N 124
  .rw[ua1 al,ua1 ⟨al,rfl⟩];have az:=kaj al;have an:=keY hd hq (k:=k+1) oM;rw[kqJ hd hq ce (k:=k+1) oM];generalize Gr.sqn T E (k+1)=q at*;obtain ⟨r,k1,m⟩:=q
   cases m with
   |true=>rw[kfR rfl,kqX];rfl
   |false=>rw[kdR rfl];have ao:=an.2.2 rfl;dsimp only at*;exact kqZ hd hq ce f g _ _ ao oM oM
  .rw[ua0 al,ua0 (fun h=>al h.1)];rfl
theorem kqV:∀(n k:Nat),k≤T.length→kbG T n k=Gr.om (Gr.exN T n k)
 |0,_,_=>rfl
 |n+1,k,aw=>by
  have hq:=kf5 (T:=T) n;have ce:=kqV n;have an:=keY oM hq aw;rw[kbG,kqJ oM hq ce aw];show _=Gr.om (Gr.alt T (Gr.exN T n) k);unfold Gr.alt;generalize Gr.sqn T (Gr.exN T n) k=q at*;obtain ⟨r,k1,m⟩:=q
  cases m with
  |true=>rw[kfR rfl,kqX];rfl
  |false=>rw[kdR rfl];have ao:=an.2.2 rfl;dsimp only at*;rw[kqZ oM hq ce (T.length+1) (T.length+2) _ _ ao oM oM];generalize Gr.mbh T (Gr.exN T n) (T.length+2) [r] k1 J=q;obtain ⟨l,bS,m⟩:=q;cases m <;> rfl
end
end Go.Proofs.YtamhdmkolfmmdaaGreatDoor
namespace Go.Proofs.YtamhdmkolfmmdaaGreatDoor
open Go.RowKit
variable {P:Prop}
def kls (h:P:=by
 go_wp2_with fail;go_roundg f
 case measure=>omega
 case rel=>exact ⟨k+1,bG,oM,rfl,by rw[←l9.o,gR];rfl,rfl⟩):=h
def knj (h:P:=by have pq:=hD (show kbV T=4 by unfold kbV;rw[ua0 (by rw[k7.o];decide),aO]);have nF:=hD (show ka4 T=Z by unfold ka4;rw[ua0 (by rw[k7.o];decide),aO]);clear aO tF k7;go_upto_region 12 with (fail);clear aN aM aZ bE c2 kY qB h7;obtain ⟨⟨⟨aN,aM⟩,aZ,bC⟩,⟨b1,c5⟩,ct,bI⟩:=cX.o.cells;obtain ⟨⟨⟨z0,ca⟩,cI,z3⟩,⟨z4,z5⟩,lN,lO⟩:=cX.o.free;have f4:=hD (cX.o.all (I U 0) (I Y 0) (I Y 0) (I Y 0) (I Y 0) (I U 0) (I U 0) (D Z 0 0));have ho:=hD (kcM bU.o (uf1 w) (I U 0) (I Y 0) (I Y 0) (I Y 0) (I Y 0) (I U 0) (I U 0) (D Z 0 0));have Rw:=();exact kdJ):=h
def kne (h:P:=by obtain ⟨⟨⟨aN,aM⟩,aZ,bC⟩,⟨b1,c5⟩,ct,bI⟩:=dI.o.cells;obtain ⟨⟨⟨z0,ca⟩,cI,z3⟩,⟨z4,z5⟩,lN,lO⟩:=dI.o.free;have f4:=hD (dI.o.all (I U 0) (I Y 0) (I Y 0) (I Y 0) (I Y 0) (I U 0) (I U 0) (D Z 0 0));have ho:=hD (kcM a7.o (uf1 w) (I U 0) (I Y 0) (I Y 0) (I Y 0) (I Y 0) (I U 0) (I U 0) (D Z 0 0));exact kdJ):=h
def yq6 (h:P:=by
 (first|guard_hyp Cj|have pq:=hD (show kbV T=9 by unfold kbV;exact ua1 ak);have nF:=hD (show ka4 T=Z by unfold ka4;exact ua1 ak));have dN:=bZ T;have dI:=hD (R8.mk0 w w rfl);have a7:=hD ((ub5 w w).alloc (nR) (y #[I .i64 0,I Y 0,I Y 0,I Y 0,I Y 0,I U 0,I U 0,D Z 0 0] 105));obtain ⟨aq,aQ⟩:=xE (w.alloc (y #[I .i64 0,I Y 0,I Y 0,I Y 0,I Y 0,I U 0,I U 0,D Z 0 0] 105));rw[←aQ] at dI a7;have fy:=wS aQ;have cd:=hD aQ;obtain ⟨cnt,wZ⟩:=xE (Lib.countByte T 40);have ia:cnt≤T.length:=(by rw[wZ];exact List.count_le_length);have uH:=hD wZ;clear aQ;(first|guard_hyp Cj;have JR:=ak|skip);unfold kbY at ak;(first|guard_hyp Cj;rw[ul7,←wZ] at ak;have af:=uh9 ak.1;have ao:=uh9 ak.2;have bb:decide (262144<(T.length:Int))=J:=ua5 oM;have db:decide (1024<(cnt:Int))=J:=ua5 oM;clear ak wZ;have Ji:=hD cj;have kO:=cj.1;clear cj;obtain ⟨r,k,b,am⟩:∃ r k b,Gr.exN T (T.length+1) 0=(r,k,b):=⟨_,_,_,rfl⟩;have w0:=kqV (T:=T) (T.length+1) 0 (ud1 _);have eI:=kf5 (T:=T) (T.length+1) 0 (ud1 _);rw[am] at w0 eI;dsimp only at eI;obtain ⟨-,gp, -⟩:=eI;have ex:=hD (show GS T (aq.alloc (y #[Q ⟨T.toArray⟩,I U 0,V J] 217)) (w.heap.size+1) 0 J by have:=Blk.new aq 217 #[Q ⟨T.toArray⟩,I U 0,V J];rw[fy] at this;exact this);have co:=hD (dI.o.alloc (y #[Q ⟨T.toArray⟩,I U 0,V J] 217));have bo:=hD (a7.o.alloc oM (y #[Q ⟨T.toArray⟩,I U 0,V J] 217));obtain ⟨aF,bW⟩:=xE (aq.alloc (y #[Q ⟨T.toArray⟩,I U 0,V J] 217));rw[←bW] at ex co bo;have lu:aF.heap.size=w.heap.size+2:=(by rw[bW];simp;omega);have e1:=hD bW;have de:=hD (krc oM (T.length+1) 0 aF ex.o (ud1 _) oM oM);rw[am] at de;have tF:=hD w0;have k7:=hD JR;clear bW am w0 JR|rw[←wZ] at ak;clear wZ);go_enter func123,ntmps123;go_upto_region 2 with (fail);rw[←cd.o];clear cd;go_upto_block 0 with (fail);go_cut [4] (fun m wc=>m=I U cnt∧aq=wc)
 case first=>
  go_wp2_with fail;go_loopg [4,5] (T.length+1) (fun f m i wr=>∃ k:Nat,k≤T.length∧T.length<k+f∧i=I U k∧m=I U (Lib.countByte (T.take k) 40)∧aq=wr)
  case atStart=>exact ⟨0,ud1 _,oM,rfl,by rw[um1];rfl,rfl⟩
  case round=>
   obtain ⟨k,aw,fo,rfl,rfl,rfl⟩:=hrel;obtain ⟨f,rfl⟩:=xS gk;by_cases bG:k<T.length
   .obtain ⟨b,ak⟩:=xG T bG;have g4:=kaX (P:=prog) underlying9 ak;have gR:=kAY (c:=40) ak;obtain ⟨p,aO⟩:=xE (Lib.countByte (T.take k) 40);obtain ⟨q,bj⟩:=xE (Lib.countByte (T.take (k+1)) 40);rw[←aO,←bj] at gR;rw[←aO];have qs:p≤T.length:=(by rw[aO];exact uc9 List.count_le_length (by simp;omega));have l9:=hD bj;clear aO bj ak;obtain ⟨Ey,Ez⟩:=u8b b;by_cases it:b=40
    .have Ry:((b.toNat:Int)==40)=K:=(by rw[it];rfl);rw[ua1 it] at gR;exact kls
    .have Ry:((b.toNat:Int)==40)=J:=kba (c:=40) it;rw[ua0 it] at gR;exact kls
   .obtain rfl:k=T.length:=oM;go_wp2_with fail;go_meet
    case rel=>exact ⟨by rw[uf2,←uH.o],rfl⟩
 case rest=>
  obtain ⟨rfl,rfl⟩:=hcut
  first
  |guard_hyp Cj;clear uH dI a7;go_upto_region 10 with (fail);rw[←e1.o];clear e1;go_wp2_with fail;refine de.o.mono ?_;rintro cG a6 ⟨cs,rfl,au,v7,fd⟩;dsimp only at au v7;obtain ⟨kd,a0,aY,bh,a3,lo,hi,A,n,c,rfl⟩:=au.eight;have rf:aF.heap.size≤a6.heap.size:=fd.size;have cX:=hD ((co.o.kept fd (fun e=>by have ek:w.heap.size=w.heap.size+1:=e;omega)).alloc (y #[I .i64 kd,I Y a0,I Y aY,I Y bh,I Y a3,I U lo,I U hi,D A n c] 105));have bU:=hD ((fd.below bo.o oM (fun i e=>by have ek:i=w.heap.size+1:=e;omega)).alloc oM (y #[I .i64 kd,I Y a0,I Y aY,I Y bh,I Y a3,I U lo,I U hi,D A n c] 105));have kY:=hD (v7.alloc (y #[I .i64 kd,I Y a0,I Y aY,I Y bh,I Y a3,I U lo,I U hi,D A n c] 105));have qB:=hD (show R8 (a6.alloc (y #[I .i64 kd,I Y a0,I Y aY,I Y bh,I Y a3,I U lo,I U hi,D A n c] 105)) a6 (I U kd) (I Y a0) (I Y aY) (I Y bh) (I Y a3) (I U lo) (I U hi) (D A n c) from Blk.new a6 _ _);have iO:RxV (a6.alloc (y #[I .i64 kd,I Y a0,I Y aY,I Y bh,I Y a3,I U lo,I U hi,D A n c] 105)) (fun i=>aF.heap.size≤i∧i<a6.heap.size) r [I .i64 kd,I Y a0,I Y aY,I Y bh,I Y a3,I U lo,I U hi,D A n c]:=au.kept ((Kept.refl (fun _=>False) a6).alloc (y #[I .i64 kd,I Y a0,I Y aY,I Y bh,I Y a3,I U lo,I U hi,D A n c] 105)) (fun _ _ _=>id) (fun i dD az=>⟨by have:=dD.1;omega,az⟩);have h7:=hD iO;obtain ⟨aK,e3⟩:=xE (a6.alloc (y #[I .i64 kd,I Y a0,I Y aY,I Y bh,I Y a3,I U lo,I U hi,D A n c] 105));rw[←e3] at cX bU kY qB h7;have wH:=wS e3;have k3:=hD e3;obtain ⟨B,b0⟩:=xE a6.heap.size;rw[←b0] at qB h7;have tl:=hD b0;have ZY:B<aK.heap.size:=oM;clear au iO v7 fd e3 b0 de ex co bo;go_upto_region 11 with (fail);rw[←k3.o,←tl.o];clear k3 tl;obtain ⟨aN,aM,aZ,bE,c2⟩:=kY.o.cells
   cases b with
   |true=>have aO:kbw T=Z:=(by unfold kbw;rw[tF.o];rfl);exact knj
   |false=>
    by_cases Nj:k=T.length
    .subst Nj;have aO:kbw T=N r:=(by unfold kbw;rw[tF.o];exact ua1 rfl);have o9:=kkD (T:=T) (T.length+1) 0 _ _ (ud1 _) (tF.o.trans (kdR rfl));have mY:=khq (T:=T) (T.length+1) 0 _ _ (ud1 _) (tF.o.trans (kdR rfl));dsimp only at o9 mY;have iX:=hD (kzE r _ aK _ h7.o (fun i dD=>by have:=dD.2;omega) o9.1 mY (Ji.o.below bU.o kO) (by have:=o9.2;omega));have zt:=hD mY;clear o9 mY;have aL:((T.length:Int) != (T.length:Int))=J:=bne_self_eq_false _;obtain ⟨⟨⟨be,b8⟩,cn,c0⟩,⟨c3,jA⟩,jc,mT⟩:=qB.o.cells
     cases iu:r.fits with
     |true=>have pq:=hD (show kbV T=0 by unfold kbV;rw[ua0 (by rw[k7.o];decide),aO];dsimp only;rw[iu];rfl);have nF:=hD (show ka4 T=N r by unfold ka4;rw[ua0 (by rw[k7.o];decide),aO];dsimp only;rw[iu];rfl);rw[iu,ua1 rfl] at iX;clear aO tF k7 iu;go_wp2_with fail;refine iX.o.mono ?_;rintro cG bm ⟨rfl,cQ⟩;have dQ:=hD (cX.o.below cQ cX.o.lt);have cN:=bT bU cQ;have Rz:=hD (qB.o.below cQ qB.o.lt);have o2:=hD (h7.o.kept (G:=fun i=>aF.heap.size≤i∧i<B) (Kept.of_below (F:=fun _=>False) cQ) (fun _ _ _=>id) (fun i dD _=>dD));have ZZ:=cQ.size;clear cQ iX cX bU qB h7 kY aN aM aZ bE c2 be b8 cn c0 c3 jA jc mT;obtain ⟨⟨⟨be,b8⟩,cn,c0⟩,⟨c3,jA⟩,jc,mT⟩:=Rz.o.cells;have pa:=kas (Kept.refl (fun i=>i=w.heap.size) bm) (g:=w.heap.size) (.inl rfl) (I U kd) (I Y a0) (I Y aY) (I Y bh) (I Y a3) (I U lo) (I U hi) (D A n c);have pI:=hD (o2.o.kept (G:=rng w (mae bm w (I U kd) (I Y a0) (I Y aY) (I Y bh) (I Y a3) (I U lo) (I U hi) (D A n c)).heap.size) pa (fun i dD _ e=>by have ek:i=w.heap.size:=e;have:=dD.1;omega) (fun i dD az=>⟨by have:=dD.1;omega,ua7 az pa.size⟩));clear pa;obtain ⟨⟨⟨aN,aM⟩,aZ,bC⟩,⟨b1,c5⟩,ct,bI⟩:=dQ.o.cells;obtain ⟨⟨⟨z0,ca⟩,cI,z3⟩,⟨z4,z5⟩,lN,lO⟩:=dQ.o.free;have f4:=hD (dQ.o.all (I U kd) (I Y a0) (I Y aY) (I Y bh) (I Y a3) (I U lo) (I U hi) (D A n c));have ho:=hD (kcM cN.o (uf1 w) (I U kd) (I Y a0) (I Y aY) (I Y bh) (I Y a3) (I U lo) (I U hi) (D A n c));have RA:=();exact kdJ
     |false=>have pq:=hD (show kbV T=9 by unfold kbV;rw[ua0 (by rw[k7.o];decide),aO];dsimp only;rw[iu];rfl);have nF:=hD (show ka4 T=Z by unfold ka4;rw[ua0 (by rw[k7.o];decide),aO];dsimp only;rw[iu];rfl);rw[iu,ua0 dC] at iX;clear aO tF k7 iu;go_wp2_with fail;refine iX.o.mono ?_;rintro cG bm ⟨rfl,cQ⟩;have dQ:=hD (cX.o.below cQ cX.o.lt);have cN:=bT bU cQ;clear cQ iX cX bU qB h7 kY aN aM aZ bE c2 be b8 cn c0 c3 jA jc mT;obtain ⟨⟨⟨aN,aM⟩,aZ,bC⟩,⟨b1,c5⟩,ct,bI⟩:=dQ.o.cells;obtain ⟨⟨⟨z0,ca⟩,cI,z3⟩,⟨z4,z5⟩,lN,lO⟩:=dQ.o.free;have f4:=hD (dQ.o.all (I U 0) (I Y 0) (I Y 0) (I Y 0) (I Y 0) (I U 0) (I U 0) (D Z 0 0));have ho:=hD (kcM cN.o (uf1 w) (I U 0) (I Y 0) (I Y 0) (I Y 0) (I Y 0) (I U 0) (I U 0) (D Z 0 0));exact kdJ
    .have aL:((k:Int) != (T.length:Int))=K:=(by simp;omega);have aO:kbw T=Z:=(by unfold kbw;rw[tF.o];exact ua0 Nj);exact knj
  |clear uH;by_cases af:262144<T.length
   .clear ak;have bb:decide (262144<(T.length:Int))=K:=ub3 oM;exact kne
   .rw[ua5 af,uk9] at ak;have ao:=ug4 ak;clear ak;have bb:decide (262144<(T.length:Int))=J:=ua5 oM;have db:decide (1024<(cnt:Int))=K:=ub3 oM;exact kne):=h
def kbV (T:List UInt8):Int:=if kbY T then 9 else match kbw T with
 |none=>4
 |some r=>if r.fits then 0 else 9
def kk6 (T:List UInt8) (w:O) (e:Ending) (w':O):Prop:=
 (∃ cs,e=ac (ag #[aa cs.toArray,I U (kbV T)])∧kff w w' (ka4 T) cs)∧H w w w'
def kAY {T:List UInt8} {k:Nat} {b c:UInt8} (h:T[k]? =N b):Lib.countByte (T.take (k+1)) c=Lib.countByte (T.take k) c+if b=c then 1 else 0:=by unfold Lib.countByte;rw[ue0,h,List.count_append];simp[List.count_cons]
def kza (T:List UInt8) (w:O) (dr:T.length≤4611686018427387904) (ak:kbY T=K):L prog 123 #[Q ⟨T.toArray⟩] w (kk6 T w):=by exact yq6
def ky8 (T:List UInt8) (w:O) (cj:NoneAt w) (ak:kbY T=J):L prog 123 #[Q ⟨T.toArray⟩] w (kk6 T w):=by have Cj:=();exact yq6
theorem kzb (T:List UInt8) (w:O) (dr:T.length≤4611686018427387904) (cj:NoneAt w):L prog 123 #[Q ⟨T.toArray⟩] w (kk6 T w):=by
 cases ak:kbY T with
 |true=>exact kza T w dr ak
 |false=>exact ky8 T w cj ak
end Go.Proofs.YtamhdmkolfmmdaaGreatDoor
