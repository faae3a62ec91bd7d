/- Part ag of the proof. -/
import Derived.Test.YtamhdmkolfmmdaaGreatDoorwac
import Derived.Test.YtamhdmkolfmmdaaGreatDoorwae
import Derived.Test.YtamhdmkolfmmdaaGreatDoorwaf
set_option linter.all false
set_option maxHeartbeats 16000000
set_option maxRecDepth 100000
open Go.Proofs.Tryz
open Go.Value renaming int→I,slice→D,bool→V,string→Q,pointer→ab,agg→aa,tuple→ag,nilIface→aj
open Go.IntKind renaming i64→U,u64→Y,u8→ai
open Go.Obj renaming cells→y
open Go.Ending renaming returned→ac
open Option renaming none→Z,some→N
open Bool renaming true→K,false→J
open Go renaming World→O,Value→C,Calls→L,TypeId→ah,Addr→ae
open Go.RowKit renaming Below→H
namespace Go.Proofs.YtamhdmkolfmmdaaGreatDoor
open Go.RowKit
variable {P:Prop}
structure EdK (w:O) (base ap k:Nat) (l:List St) (vs:List C):Prop where
 len:vs.length=k
 cell:∀(i:Nat) (v:C),vs[i]? =N v→w.cell? ⟨ap,i*5+1,Z⟩=N v
 own:∀(i:Nat) (s:St) (v:C),l[i]? =N s→vs[i]? =N v→w.ownsRow base 3 1 v s.args.length (s.args.map (I U))
 dis:∀(i j:Nat) (v cH:C),i≠j→vs[i]? =N v→vs[j]? =N cH→v.ownBlock=Z∨v.ownBlock≠cH.ownBlock
def EdK.zero (w:O) (base ap:Nat) (l:List St):EdK w base ap 0 l []:=⟨rfl,(fun i v h=>by cases h),(fun i s v _ h=>by cases h),(fun i j v cH _ h _=>by cases h)⟩
def EdK.step {w aq:O} {base g ap cap k:Nat} {l:List St} {vs:List C} {aP:C} {s:St} (aG:EdAt w g ap cap l aP) (h:EdK w base ap k l vs) (aw:k<l.length) (al:l[k]? =N s) (b0:base≤w.heap.size) (ak:H w w aq) (dd:Option ae) (cS:Nat) (bf:aq.ownsRow w 3 1 (D dd s.args.length cS) s.args.length (s.args.map (I U))):
 EdK (aq.setCell ⟨ap,k*5+1,Z⟩ (D dd s.args.length cS)) base ap (k+1) l (vs++[D dd s.args.length cS]):=by
 have dW:=aG.maR;obtain ⟨cs,aL,bJ,dn⟩:=(aG.below ak).blk;have eI:=aG.le;have dO:=aL.mac (k*5+1) (D dd s.args.length cS);have rT:∀ b,b≠ap→(aq.setCell ⟨ap,k*5+1,Z⟩ (D dd s.args.length cS)).heap[b]? =aq.heap[b]? :=fun b sg=>ud7 aq ⟨ap,k*5+1,Z⟩ _ b sg
 have lS:∀ i v,(vs++[D dd s.args.length cS])[i]? =N v→(i<k∧vs[i]? =N v)∨(i=k∧v=D dd s.args.length cS):=fun i v au=>by
  by_cases n5:i<k
  .rw[ui1 (by rw[h.len];exact n5)] at au;exact .inl ⟨n5,au⟩
  .rw[uf4 (by rw[h.len];omega),h.len] at au;have:i-k=0:=(by have:=(gH au).1;simp at this;omega);rw[this,gB] at au;injection au with au;exact .inr ⟨oM,au.symm⟩
 have yg:∀(i:Nat) (s:St) (v:C),l[i]? =N s→vs[i]? =N v→∀ q,v.ownBlock=N q→q<w.heap.size∧q≠ap:=fun i s v al au q bj=>by refine ⟨kdr (h.own i s v al au) q bj,fun e=>?_⟩;obtain ⟨Cs,b2,_⟩:=aG.blk;exact ka5 (h.own i s v al au) b2 dC (by rw[bj,e])
 refine ⟨by rw[ua6,h.len];rfl,fun i v au=>?_,fun i t v aB au=>?_,fun i j v cH jf au g0=>?_⟩
 .rw[dO.cell];rcases lS i v au with ⟨n5,g0⟩|⟨rfl,rfl⟩
  .rw[uj6 oM,←aL.cell,ak.cell (p:=⟨ap,i*5+1,Z⟩) dW];exact h.cell i v g0
  .rw[uj5 oM]
 .rcases lS i v au with ⟨n5,g0⟩|⟨rfl,rfl⟩
  .refine kcx (kaI (h.own i t v aB g0) ak) (fun b j9=>rT b (yg i t v aB g0 b j9).2)
  .obtain rfl:t=s:=(by rw[al] at aB;injection aB with aB;exact aB.symm);refine kcx (bf.mono b0) (fun b j9=>rT b (fun e=>?_));exact ka5 bf aL dC (by rw[j9,e])
 .have J5:∀(i:Nat) (v:C),i<k→vs[i]? =N v→v.ownBlock=Z∨v.ownBlock≠(D dd s.args.length cS).ownBlock:=fun i v n5 au=>by
   cases hvo:v.ownBlock with
   |none=>exact .inl rfl
   |some q=>refine .inr (fun e=>?_);obtain ⟨t,aB⟩:∃ t,l[i]? =N t:=⟨_,ua3 oM⟩;have af:=(yg i t v aB au q hvo).1;have ao:=kbE bf e.symm;omega
  rcases lS i v au with ⟨n5,af⟩|⟨rfl,rfl⟩
  .rcases lS j cH g0 with ⟨iS,ao⟩|⟨rfl,rfl⟩
   .exact h.dis i j v cH jf af ao
   .exact J5 i v n5 af
  .rcases lS j cH g0 with ⟨iS,ao⟩|⟨av,_⟩
   .rcases J5 j cH iS ao with aD|aD
    .cases hvo:(D dd s.args.length cS).ownBlock with
     |none=>exact .inl rfl
     |some q=>exact .inr (by rw[aD];intro e;cases e)
    .exact .inr (fun e=>aD e.symm)
   .omega
def EdK.edX {w:O} {base g ap cap:Nat} {l:List St} {vs:List C} {aP:C} (aG:EdAt w g ap cap l aP) (h:EdK w base ap l.length l vs) (hg:base≤g) (hgs:base≤ap):EdX w base g ap cap l vs aP:=
 ⟨aG.ed,aG.blk,h.len,fun i s v al au=>by obtain ⟨c6,c,be,b8,cn,c0,c3,_⟩:=aG.st i s al;have:=h.cell i v au;rw[b8] at this;exact ⟨be,b8.trans this,cn,c0,c3⟩,h.own,h.dis,aG.le,aG.cap,hg,hgs⟩
def krM (base g ap cap:Nat) (l:List St) (vs:List C) (aP:C) (w:O) (h:EdX w base g ap cap l vs aP) (am:∀ s∈l,s.args.length≤3∧∀ a∈s.args,0≤a∧a<(l.length:Int)):
 L prog 41 #[ab (N ⟨g,0,Z⟩)] w fun e w'=>e=ac (ag #[])∧∃ bz,EdX w' base g ap cap l vs (D (N ⟨bz,0,Z⟩) l.length l.length)∧Blk w' bz 3 (kau (kag l))∧FrX base w w':=by
 refine (kAZ g ap cap l aP w h.ma5 am).mono ?_;rintro e w' ⟨rfl,aG,aI,hg⟩;have hgs:w'.heap[ap]? =w.heap[ap]? :=hg.block ap h.maR (fun e=>h.ne (by injection e with e;exact e.symm));refine ⟨rfl,w.heap.size,⟨aG.ed,aG.blk,h.len,fun i s v al au=>(h.cells i s v al au).same hgs,fun i s v al au=>?_,h.dis,h.le,h.cap,h.hg,h.hgs⟩,aI,FrX.grown hg h.maz h.hg h.ed dC⟩;refine kcx (h.own i s v al au) (fun b ak=>hg.block b (kdr (h.own i s v al au) b ak) (fun e=>?_));injection e with e;exact (h.apart al au ak).1 e
def kC5 (w:O) (g ap cap:Nat) (l:List St) (f:Nat) (i:C) (wr:O):Prop:=∃(k:Nat) (vs:List C),i=I U k∧k≤l.length∧l.length-k<f∧Hz (EdAt wr g ap cap l (D Z 0 0))∧Hz (EdK wr w ap k l vs)∧Hz (H w w wr)
def kp1 (A:Option ae) (c:Nat) (l:List St) (w:O) (aO:PlAt w (fun i=>i<w.heap.size) A l) (az:0<l.length) (ax:l.length≤100000) (am:∀ s∈l,s.args.length≤3∧∀ a∈s.args,0≤a∧a<(l.length:Int)):
 L prog 37 #[aa #[D A l.length c]] w fun e w'=>∃ g ap cap bz vs,e=ac (ab (N ⟨g,0,Z⟩))∧EdX w' w g ap cap l vs (D (N ⟨bz,0,Z⟩) l.length l.length)∧Blk w' bz 3 (kau (kag l))∧H w w w':=by
 obtain ⟨he,uT⟩:=xE (w.alloc (y #[D A l.length c] 26));have rC:=bA uT;obtain ⟨bV,dx,cg⟩:=aO.below rC;obtain ⟨b,o,rfl,_,_,_⟩:=dx.form az;obtain ⟨a8,gv,f7,R0,a1⟩:=hd5 (kBD b o l.length c bV he ax dx.reads (ki0 cg)) cg rC uT am;clear aO dx cg rC uT am;go_enter func37,ntmps37;go_wp2_with fail;rw[←R0.o];refine a8.o.mono ?_;rintro e aq ⟨dX,rfl,qA,cm⟩;obtain ⟨ap,cap,rfl,hgs,dW,J6⟩:=kAF gv.o az ax cm qA;have a7:=bT f7 cm;have ml:=hD (J6 (D Z 0 0));have cJ:=a7.o.size;have ds:=f7.o.size;have bo:=hD (a7.o.alloc cJ (y #[D (N ⟨ap,0,Z⟩) l.length cap,D Z 0 0] 85));clear qA cm J6 a8;go_wp2_with fail;go_loopg [4,15] (l.length+1) (fun f _ i wr=>kC5 w aq ap cap l f i wr)
 case atStart=>exact ⟨0,[],rfl,oM,oM,ml,hD (EdK.zero _ _ _ _),bo⟩
 case round=>
  clear ml bo;obtain ⟨k,vs,rfl,aw,fo,bq,ei,aV⟩:=hrel;obtain ⟨f,rfl⟩:=xS gk;by_cases bG:k<l.length
  .obtain ⟨s,al⟩:∃ s,l[k]? =N s:=⟨l[k],ua3 bG⟩;obtain ⟨c6,cs,be,b8,cn,c0,c3,gl⟩:=bq.o.st k s al;have d8:=bq.o.ed.cell 0;simp only[gA,gB] at d8;have dL:=(a1.o s (ua4 al)).1;have qi:=hD gl.reads;have b7:=hD al;have ef:=bq.o.ed.lt;have mc:=bq.o.maR;have oQ:=aV.o.size;have cU:(k:Int)<(l.length:Int):=oM;have bE:=nN k;clear al gl be cn c0 c3;go_wp2_with fail;go_region_with (first|(go_at_call 64;refine (kBE c6 cs s.args wr.drew oM qi.o.drew).mono ?_;rintro e du ⟨dd,cS,rfl,hr,eu⟩;have dH:H wr wr du:=(ub5 _ wr).drew.trans eu;have fU:=(dH.cell (p:=⟨aq,0,Z⟩) ef).trans d8;have eO:=(dH.cell (p:=⟨ap,k*5+1,Z⟩) mc).trans b8;have R1:du.frozen? ⟨ap,k*5+1,Z⟩=J:=by obtain ⟨Z7,D2,_⟩:=(bq.o.below dH).blk;exact D2.frozen _))
   all_goals
    have R2:=hD (bq.o.arg b7.o dH dd cS hr);have iC:=hD (ei.o.step bq.o bG b7.o oQ dH dd cS hr);have f1:=hD ((aV.o.trans (dH.mono oQ)).setCell (p:=⟨ap,k*5+1,Z⟩) (by show w.heap.size≤ap;omega) (D dd s.args.length cS));clear hr eu dH fU eO R1;go_wp2_with fail;go_roundg f
    case measure=>omega
    case rel=>exact ⟨k+1,_,by go_num,oM,oM,R2,iC,f1⟩
  .have iq:k=l.length:=oM;subst iq;have cU:¬((l.length:Int)<(l.length:Int)):=oM;have de:=hD (ei.o.edX bq.o oM oM);have fv:=hD (krM w aq.heap.size ap cap l vs _ wr de.o a1.o);go_wp2_with fail;refine fv.o.mono ?_;rintro e dl ⟨rfl,bz,ss,MK,oz⟩;have qm:=hD ss;have R3:=hD MK;have f2:Hz (H w w dl):=hD (aV.o.trans oz.bel);clear ss MK oz;go_wp2_with fail;go_ret;exact ⟨_,ap,cap,bz,vs,rfl,qm.o,R3.o,f2.o⟩
theorem kkz (f:Nat→Option (List St)):∀ n:Nat,∃ k,k≤n∧(∀ j,j<k→f j=Z)∧(k=n∨∃ l',k<n∧f k=N l')
 |0=>⟨0,oM,fun j aS=>by omega, .inl rfl⟩
 |n+1=>by
  obtain ⟨k,aw,aD,af⟩:=kkz f n;rcases af with rfl|⟨l',iq,g2⟩
  .cases b5:f k with
   |none=>exact ⟨k+1,oM,fun j aS=>by
    by_cases e:j=k
    .rw[e];exact b5
    .exact aD j oM, .inl rfl⟩
   |some l'=>exact ⟨k,oM,aD, .inr ⟨l',oM,b5⟩⟩
  .exact ⟨k,oM,aD, .inr ⟨l',oM,g2⟩⟩
def kdd (F base g ap bz cap:Nat) (l:List St) (vs:List C) (Dp:List St→Nat→Option (List St)) (w:O) (h:EdX w base g ap cap l vs (D (N ⟨bz,0,Z⟩) l.length l.length)) (aI:Blk w bz 3 (kau (kag l)))
 (Dm:∀(x:C) (w:O),(callFunc F #[ab (N ⟨g,0,Z⟩),x]).run prog w= .ok (.enter F #[ab (N ⟨g,0,Z⟩),x]) w)
 (hF:∀(i:Nat) (s:St) (w:O),EdX w base g ap cap l vs (D (N ⟨bz,0,Z⟩) l.length l.length)→Blk w bz 3 (kau (kag l))→l[i]? =N s→L prog F #[ab (N ⟨g,0,Z⟩),I U i] w (kaH base g (D (N ⟨bz,0,Z⟩) l.length l.length) (Dp l i) w)):
 L prog 67 #[ab (N ⟨g,0,Z⟩), .func (.func F) #[ab (N ⟨g,0,Z⟩)] #[]] w (kaH base g (D (N ⟨bz,0,Z⟩) l.length l.length) (Oz.maw Dp l) w):=by
 obtain ⟨k,aw,aD,af⟩:=kkz (Dp l) l.length;have jj:=aI.lt;have f5:=h.maz;refine (kz2 F g ap l.length cap k (fun w'=>H w w w') (fun w'=>∃ l',Dp l k=N l'∧(∃ e5 fE qE,EdX w' base g e5 fE l' qE (D (N ⟨bz,0,Z⟩) l.length l.length))∧FrX base w w') h.cap aw Dm (fun w' ak=>?_) (fun i w' hi ak=>?_) (fun w' iq ak=>?_) w (ub5 _ _)).mono ?_
 .have:=(h.below ak).ed.cell 0;simpa using this
 .obtain ⟨s,al⟩:∃ s,l[i]? =N s:=⟨_,ua3 oM⟩;refine (hF i s w' (h.below ak) (aI.below ak jj) al).mono ?_;intro e aF aG;rw[aD i hi] at aG;exact ⟨aG.1,ak.trans (aG.2.mono ak.size)⟩
 .obtain ⟨s,al⟩:=xG l iq;refine (hF k s w' (h.below ak) (aI.below ak jj) al).mono ?_;intro e aF aG;rcases af with af|⟨l',_,g2⟩
  .omega
  .rw[g2] at aG;exact ⟨aG.1,l',g2,aG.2.1,((FrX.refl base w).below ak f5).trans aG.2.2⟩
 .rintro e w' (⟨iq,rfl,l',g2,aG,b5⟩|⟨iq,rfl,ak⟩)
  .rw[krt iq aD g2];exact ⟨rfl,aG,b5⟩
  .rw[kru (fun j aS=>aD j oM)];exact ⟨rfl,ak⟩
def kcP (h:P:=by (first|guard_hyp Kb;have b7:=hD (kdd 71 base g ap bz cap l vs Oz.maZ w h aI (fun x w=>by kernel_rfl) (fun i s w h aI al=>(kBb base g ap cap i l vs _ s w h al (fun ba=>by rw[kaV an al 2 (by rw[ba];kernel_rfl)];exact uf1 2)).mono fun _ _ h=>h.ru))|guard_hyp J7;have _:=aI;have b7:=hD (kuQ base g ap cap l vs _ w h (kck an))|guard_hyp Kf;have b7:=hD (kdd 76 base g ap bz cap l vs Oz.maC w h aI (fun x w=>by kernel_rfl) (fun i s w h aI al=>kxY base g ap bz cap i l vs s w h aI al an))|guard_hyp Ke;have b7:=hD (kdd 75 base g ap bz cap l vs Oz.maD w h aI (fun x w=>by kernel_rfl) (fun i s w h aI al=>kxS base g ap bz cap i l vs s w h aI al an))|guard_hyp J8;have b7:=hD (kdd 68 base g ap bz cap l vs Oz.maM w h aI (fun x w=>by kernel_rfl) (fun i s w h aI al=>(kzS base g ap cap i l vs _ s w h al an).mono fun _ _ h=>h.ru))|guard_hyp J9;have b7:=hD (kdd 69 base g ap bz cap l vs Oz.maj w h aI (fun x w=>by kernel_rfl) (fun i s w h aI al=>(kwJ base g ap cap i l vs _ s w h al an).mono fun _ _ h=>h.ru))|guard_hyp Kd;have b7:=hD (kdd 74 base g ap bz cap l vs Oz.maP w h aI (fun x w=>by kernel_rfl) (fun i s w h aI al=>(kx5 base g ap bz cap i l vs s w h aI al an).mono fun _ _ h=>h.ru))|guard_hyp Ka;have b7:=hD (kdd 70 base g ap bz cap l vs Oz.maB w h aI (fun x w=>by kernel_rfl) (fun i s w h aI al=>(kwR base g ap bz cap i l vs s w h aI al an).mono fun _ _ h=>h.ru))|guard_hyp Kc;have b7:=hD (kdd 72 base g ap bz cap l vs Oz.maK w h aI (fun x w=>by kernel_rfl) (fun i s w h aI al=>(kxr base g ap bz cap i l vs s w h aI al an).mono fun _ _ h=>h.ru))|guard_hyp Kg;have b7:=hD (kdd 77 base g ap bz cap l vs Oz.ma0 w h aI (fun x w=>by kernel_rfl) (fun i s w h aI al=>(ks2 base g ap bz cap i l vs s w h aI al (kck an)).mono fun _ _ h=>h.ru))|have b7:=hD (kdd 73 base g ap bz cap l vs Oz.mav w h aI (fun x w=>by kernel_rfl) (fun i s w h aI al=>(kz5 base g ap bz cap i l vs s w h aI al an).mono fun _ _ h=>h.ru)));have AW:∀(mI:Fn) (first cap:Array C) (w:O),(Instr.makeFunc mI first cap).run prog w= .ok (.func mI first cap) w:=fun _ _ _ _=>rfl;(first|guard_hyp Kb;obtain ⟨r,am⟩:=xE (Oz.mam 4 l);have m2:r=Oz.maw Oz.maZ l:=am|guard_hyp J7;obtain ⟨r,am⟩:=xE (Oz.mam 0 l);have m2:r=Oz.maw Oz.maH l:=am|guard_hyp Kf;obtain ⟨r,am⟩:=xE (Oz.mam 9 l);have m2:r=Oz.maw Oz.maC l:=am|guard_hyp Ke;obtain ⟨r,am⟩:=xE (Oz.mam 8 l);have m2:r=Oz.maw Oz.maD l:=am|guard_hyp J8;obtain ⟨r,am⟩:=xE (Oz.mam 1 l);have m2:r=Oz.maw Oz.maM l:=am|guard_hyp J9;obtain ⟨r,am⟩:=xE (Oz.mam 2 l);have m2:r=Oz.maw Oz.maj l:=am|guard_hyp Kd;obtain ⟨r,am⟩:=xE (Oz.mam 7 l);have m2:r=Oz.maw Oz.maP l:=am|guard_hyp Ka;obtain ⟨r,am⟩:=xE (Oz.mam 3 l);have m2:r=Oz.maw Oz.maB l:=am|guard_hyp Kc;obtain ⟨r,am⟩:=xE (Oz.mam 5 l);have m2:r=Oz.maw Oz.maK l:=am|guard_hyp Kg;obtain ⟨r,am⟩:=xE (Oz.mam 10 l);have m2:r=Oz.maw Oz.ma0 l:=am|obtain ⟨r,am⟩:=xE (Oz.mam 6 l);have m2:r=Oz.maw Oz.mav l:=am);rw[←m2] at b7;rw[←am];clear h aI an am m2;go_enter func40,ntmps40;go_wp2_with fail;refine b7.o.mono ?_;rintro e aq ⟨rfl,af⟩;have kQ:=hD af;obtain ⟨z,bd⟩:=xE r.isSome;have cf:=hD bd;rw[←bd];clear af b7 bd;go_wp2_with fail;go_ret;exact ⟨ud4 (fun z=>ac (V z)) cf.o,kQ.o⟩):=h
def koZ {g:Nat→Option (List St)} {n:Nat} (h:∀ k,k<n→g k=Z):(List.range n).findSome? g=Z:=by rw[up4];exact fun k aw=>h k (uk3.1 aw)
theorem koY {g:Nat→Option (List St)} {l':List St} {k:Nat} (aD:∀ j,j<k→g j=Z) (h:g k=N l'):∀ n,k<n→(List.range n).findSome? g=N l'
 |0,ax=>by omega
 |n+1,ax=>by
  rw[uu0,List.findSome?_append];by_cases iq:k<n
  .rw[koY aD h n iq];rfl
  .have iq:k=n:=oM;subst iq;rw[koZ aD];simp[h]
section
variable {base g ap bz cap:Nat} {l:List St} {vs:List C} {w:O} (h:EdX w base g ap cap l vs (D (N ⟨bz,0,Z⟩) l.length l.length)) (aI:Blk w bz 3 (kau (kag l))) (an:kaf l=0)
include h aI an in
theorem kCt:L prog 40 #[ab (N ⟨g,0,Z⟩),Q ⟨#[115,104,97,114,101]⟩] w (kaH base g (D (N ⟨bz,0,Z⟩) l.length l.length) (Oz.mam 0 l) w):=by have J7:=();exact kcP
include h aI an in
theorem kCs:L prog 40 #[ab (N ⟨g,0,Z⟩),Q ⟨#[102,111,108,100]⟩] w (kaH base g (D (N ⟨bz,0,Z⟩) l.length l.length) (Oz.mam 1 l) w):=by have J8:=();exact kcP
include h aI an in
theorem kCq:L prog 40 #[ab (N ⟨g,0,Z⟩),Q ⟨#[110,101,117,116,114,97,108]⟩] w (kaH base g (D (N ⟨bz,0,Z⟩) l.length l.length) (Oz.mam 2 l) w):=by have J9:=();exact kcP
include h aI an in
theorem kCp:L prog 40 #[ab (N ⟨g,0,Z⟩),Q ⟨#[110,101,103,97,116,101]⟩] w (kaH base g (D (N ⟨bz,0,Z⟩) l.length l.length) (Oz.mam 3 l) w):=by have Ka:=();exact kcP
include h aI an in
theorem kCo:L prog 40 #[ab (N ⟨g,0,Z⟩),Q ⟨#[99,111,109,109,111,110]⟩] w (kaH base g (D (N ⟨bz,0,Z⟩) l.length l.length) (Oz.mam 4 l) w):=by have Kb:=();exact kcP
include h aI an in
theorem kCn:L prog 40 #[ab (N ⟨g,0,Z⟩),Q ⟨#[109,97,116,99,104,101,115]⟩] w (kaH base g (D (N ⟨bz,0,Z⟩) l.length l.length) (Oz.mam 5 l) w):=by have Kc:=();exact kcP
include h aI an in
theorem kCm:L prog 40 #[ab (N ⟨g,0,Z⟩),Q ⟨#[102,105,114,115,116,102,105,110,100]⟩] w (kaH base g (D (N ⟨bz,0,Z⟩) l.length l.length) (Oz.mam 6 l) w):=by exact kcP
include h aI an in
theorem kCl:L prog 40 #[ab (N ⟨g,0,Z⟩),Q ⟨#[108,101,110,99,117,116]⟩] w (kaH base g (D (N ⟨bz,0,Z⟩) l.length l.length) (Oz.mam 7 l) w):=by have Kd:=();exact kcP
include h aI an in
theorem kCk:L prog 40 #[ab (N ⟨g,0,Z⟩),Q ⟨#[108,101,110,115,117,109]⟩] w (kaH base g (D (N ⟨bz,0,Z⟩) l.length l.length) (Oz.mam 8 l) w):=by have Ke:=();exact kcP
include h aI an in
theorem kCj:L prog 40 #[ab (N ⟨g,0,Z⟩),Q ⟨#[108,101,110,114,101,112]⟩] w (kaH base g (D (N ⟨bz,0,Z⟩) l.length l.length) (Oz.mam 9 l) w):=by have Kf:=();exact kcP
include h aI an in
theorem kCr:L prog 40 #[ab (N ⟨g,0,Z⟩),Q ⟨#[117,110,117,115,101,100]⟩] w (kaH base g (D (N ⟨bz,0,Z⟩) l.length l.length) (Oz.mam 10 l) w):=by have Kg:=();exact kcP
include h aI an in
theorem kk0 (k:Nat) (s:List UInt8) (al:namesR[k]? =N s):L prog 40 #[ab (N ⟨g,0,Z⟩),Q ⟨s.toArray⟩] w (kaH base g (D (N ⟨bz,0,Z⟩) l.length l.length) (Oz.mam k l) w):=by
 have aw:=(gH al).1;have aw:k<11:=aw;have gR:k=0∨k=1∨k=2∨k=3∨k=4∨k=5∨k=6∨k=7∨k=8∨k=9∨k=10:=oM;rcases gR with rfl|rfl|rfl|rfl|rfl|rfl|rfl|rfl|rfl|rfl|rfl
 .injection al with al;subst al;exact kCt h aI an
 .injection al with al;subst al;exact kCs h aI an
 .injection al with al;subst al;exact kCq h aI an
 .injection al with al;subst al;exact kCp h aI an
 .injection al with al;subst al;exact kCo h aI an
 .injection al with al;subst al;exact kCn h aI an
 .injection al with al;subst al;exact kCm h aI an
 .injection al with al;subst al;exact kCl h aI an
 .injection al with al;subst al;exact kCk h aI an
 .injection al with al;subst al;exact kCj h aI an
 .injection al with al;subst al;exact kCr h aI an
include h aI an in
theorem kvo (xO c:Nat) (ax:Blk w xO 9 kcY):L prog 39 #[D (N ⟨xO,0,Z⟩) 11 c, .func (.func 40) #[ab (N ⟨g,0,Z⟩)] #[]] w (kaH base g (D (N ⟨bz,0,Z⟩) l.length l.length) (Oz.mba l) w):=by
 obtain ⟨k,aw,aD,af⟩:=kkz (fun k=>Oz.mam k l) 11;have jj:=aI.lt;have kO:=ax.lt;have f5:=h.maz;refine (kA2 40 (ab (N ⟨g,0,Z⟩)) (N ⟨xO,0,Z⟩) c k namesR (fun w'=>H w w w') (fun w'=>∃ l',Oz.mam k l=N l'∧(∃ e5 fE qE,EdX w' base g e5 fE l' qE (D (N ⟨bz,0,Z⟩) l.length l.length))∧FrX base w w') dC aw (fun x w=>by kernel_rfl) (fun w' i s ak al=>⟨xO,0,rfl,by rw[ud3,(ax.below ak kO).cell];exact kp2 al⟩) (fun i s w' hi al ak=>?_) (fun s w' al ak=>?_) w (ub5 _ _)).mono ?_
 .refine (kk0 (h.below ak) (aI.below ak jj) an i s al).mono ?_;intro e aF aG;have R4:Oz.mam i l=Z:=aD i hi;rw[R4] at aG;exact ⟨aG.1,ak.trans (aG.2.mono ak.size)⟩
 .refine (kk0 (h.below ak) (aI.below ak jj) an k s al).mono ?_;intro e aF aG;have Et:k<11:=(gH al).1;rcases af with af|⟨l',_,g2⟩
  .omega
  .have g2:Oz.mam k l=N l':=g2;rw[g2] at aG;exact ⟨aG.1,l',g2,aG.2.1,((FrX.refl base w).below ak f5).trans aG.2.2⟩
 .rintro e w' (⟨iq,rfl,l',g2,aG,b5⟩|⟨iq,rfl,ak⟩)
  .have:Oz.mba l=N l':=koY aD g2 11 iq;rw[this];exact ⟨rfl,aG,b5⟩
  .have iq:k=11:=iq;have:Oz.mba l=Z:=koZ (fun j aS=>aD j oM);rw[this];exact ⟨rfl,ak⟩
end
def kdC:List St→List C→List C
 |s::l,v::vs=>[Q ⟨s.op.toArray⟩,v,I U s.num,Q ⟨s.text.toArray⟩,I U s.ty]++kdC l vs
 |_,_=>[]
theorem krH:∀(l:List St) (vs:List C),vs.length=l.length→(kdC l vs).length=l.length*5
 |[],vs,h=>by cases vs <;> rfl
 |s::l,[],h=>by simp at h
 |s::l,v::vs,h=>by have bQ:=krH l vs (by simpa using h);unfold kdC;rw[ua6,bQ];simp only[uc8,uj7];omega
theorem krI:∀(l:List St) (vs:List C) (j:Nat) (u:C),(kdC l vs)[j]? =N u→∃(i r:Nat) (s:St) (v:C),j=i*5+r∧r<5∧l[i]? =N s∧vs[i]? =N v∧ [Q ⟨s.op.toArray⟩,v,I U s.num,Q ⟨s.text.toArray⟩,I U s.ty][r]? =N u
 |[],vs,j,u,h=>by cases vs <;> simp[kdC] at h
 |s::l,[],j,u,h=>by simp[kdC] at h
 |s::l,v::vs,j,u,h=>by
  unfold kdC at h;by_cases aS:j<5
  .rw[ui1 (by simpa using aS)] at h;exact ⟨0,j,s,v,oM,aS,rfl,rfl,h⟩
  .rw[uf4 (by simp;omega)] at h;obtain ⟨i,r,s',cH,e,am,af,ao,av⟩:=krI l vs _ u h;simp only[uc8,uj7] at e;exact ⟨i+1,r,s',cH,oM,am,af,ao,av⟩
theorem krG {w:O} {F:Nat→Prop} :∀(l:List St) (vs:List C),vs.length=l.length→(∀(i:Nat) (s:St) (v:C),l[i]? =N s→vs[i]? =N v→∃ A c,v=D A s.args.length c∧RdF w F 1 A s.args.length (s.args.map (I U)))→StVs w F l (kdC l vs)
 |[],vs,h,_=>by cases vs <;> rfl
 |s::l,[],h,_=>by simp at h
 |s::l,v::vs,h,au=>by obtain ⟨A,c,rfl,am⟩:=au 0 s v rfl rfl;exact ⟨_,_,rfl,⟨A,c,rfl,am⟩,krG l vs (by simpa using h) (fun i s v af ao=>au (i+1) s v af ao)⟩
def EdX.mci {w:O} {base g ap cap:Nat} {l:List St} {vs:List C} {aP:C} (h:EdX w base g ap cap l vs aP):PlAt w (fun i=>base≤i∧i<w.heap.size) (N ⟨ap,0,Z⟩) l:=by
 have dW:=h.maR;refine ⟨kdC l vs,⟨krH l vs h.len,fun _=>⟨ap,0,rfl,⟨h.hgs,dW⟩,dW,fun j u aS=>?_⟩⟩,krG l vs h.len (fun i s v al au=>?_)⟩
 .obtain ⟨i,r,s,v,rfl,am,al,au,aI⟩:=krI l vs j u aS;obtain ⟨be,b8,cn,c0,c3⟩:=h.cells i s v al au;rw[ud3];have an:r=0∨r=1∨r=2∨r=3∨r=4:=oM;rcases an with rfl|rfl|rfl|rfl|rfl
  .exact be.trans aI
  .exact b8.trans aI
  .exact cn.trans aI
  .exact c0.trans aI
  .exact c3.trans aI
 .have bf:=h.own i s v al au;obtain ⟨A,c,rfl⟩:=kaA bf;refine ⟨A,c,rfl,by simp,fun ax=>?_⟩;obtain ⟨q,cS,ql,_,io,fu,an⟩:=kb3 bf ax;injection ql with d4;subst d4;exact ⟨q,0,rfl,⟨io,fu⟩,fu,fun j u aS=>by rw[ud3];exact an j u aS⟩
def kpI {l:List St} (an:kaf l=0) (aB:∀ s∈l,s.text.length≤9223372036854775807):kfi l:=
 ⟨by have:=(check_fit.1 an).2.1;omega,fun s al=>⟨by have:=(kdv an s al).1;omega,aB s al⟩⟩
def doR (k:Nat) (l:List St):List St:=(Oz.mam k l).getD l
theorem kAM {k:Nat} {l:List St} (an:kaf l=0):kaf (doR k l)=0:=by
 unfold doR
 cases h:Oz.mam k l with
 |none=>exact an
 |some l'=>exact (ksf an h).check
def kCW (w:O) (l':List St) (b:Bool) (e:Ending) (w':O):Prop:=H w w w'∧∃ ap cap,e=ac (ag #[aa #[D (N ⟨ap,0,Z⟩) l'.length cap],V b,aj])∧PlAt w' (fun i=>w.heap.size≤i∧i<w'.heap.size) (N ⟨ap,0,Z⟩) l'
def ktR (A:Option ae) (c:Nat) (l:List St) (k:Nat) (name:List UInt8) (w:O) (aO:PlAt w (fun i=>i<w.heap.size) A l) (an:kaf l=0) (bg:kfi l) (aw:namesR[k]? =N name):
 L prog 34 #[aa #[D A l.length c],Q ⟨name.toArray⟩] w (kCW w (doR k l) (Oz.mam k l).isSome):=by
 obtain ⟨r,am⟩:=xE (Oz.mam k l);rw[←am];have kc:=hD am;clear am;obtain ⟨gU,kB⟩:=xE ((w.alloc (y #[D A l.length c] 26)).alloc (y #[D Z 0 0] 26));have e0:H w w gU:=(by rw[kB];exact (kax w _).alloc (by simp) _);have vf:=hD (show Blk gU w 26 #[D A l.length c] by rw[kB];exact (Blk.new _ _ _).alloc _);have tJ:=hD (show Blk gU (w.heap.size+1) 26 #[D Z 0 0] by rw[kB];have:=Blk.new (w.alloc (y #[D A l.length c] 26)) 26 #[D Z 0 0];simpa using this);have sd:=hD (aO.below e0);have lU:=khQ A c l gU sd.o bg;rw[an] at lU;obtain ⟨iX,nj,vg,vh⟩:=hd4 (show L prog 11 #[aa #[D A l.length c]] gU fun e w'=>e=ac aj∧H gU gU w' from lU) e0 kB aw;have R5:Hz (kj2 name=K):=hD ((kyj name).2 (ua4 aw));have a8:=hD an;have hQ:=hD bg;obtain ⟨n,ax⟩:=xE l.length;have bF:=hD ax;rw[←ax] at vf iX vg;rw[←ax];clear aO e0 lU kB an bg aw ax;go_enter func34,ntmps34;go_wp2_with fail;rw[←vg.o];refine iX.o.mono ?_;rintro e aq ⟨rfl,cm⟩;have zG:=nj.o.size;have a7:=hD (nj.o.trans (cm.mono zG));have cJ:=a7.o.size;obtain ⟨dI,mn,nK⟩:=hd3 (tJ.o.below cm tJ.o.lt) (vf.o.below cm vf.o.lt) (sd.o.below cm);clear cm iX;go_wp2_with fail;refine (koX _).mono ?_;rintro e aF ⟨rfl,fT,bs⟩;have bo:=hD (a7.o.trans (bs.mono cJ));have eW:=bo.o.size;obtain ⟨co,kt,mS⟩:=hd3 (dI.o.below bs dI.o.lt) (mn.o.below bs mn.o.lt) (nK.o.below bs);have fv:=hD (Tryz.slices_Contains_string aq 0 11 11 namesB ⟨name.toArray⟩ aF dC dC (fun j aS=>by have aS:j<11:=aS;rw[ud3,fT.cell];have an:j=0∨j=1∨j=2∨j=3∨j=4∨j=5∨j=6∨j=7∨j=8∨j=9∨j=10:=oM;rcases an with rfl|rfl|rfl|rfl|rfl|rfl|rfl|rfl|rfl|rfl|rfl <;> rfl));have Kh:=dI.o.lt;clear bs fT;go_wp2_with fail;refine fv.o.mono ?_;rintro e a6 ⟨rfl,rfl⟩;have cn:=kt.o.cell 0;simp only[gA,gB] at cn;change _;have jE:Lib.containsS (namesB.take 11) ⟨name.toArray⟩=K:=R5.o;rw[jE];have ch:=kp1 A c l a6 mS.o (check_fit.1 a8.o).1 hQ.o.1 (kdv a8.o);rw[←bF.o] at ch;have uE:=hD ch;clear jE fv ch;go_wp2_with fail;refine uE.o.mono ?_;rintro e aK ⟨g,ap,cap,bz,vs,rfl,rs,ML,bv⟩;have cA:=hD (bo.o.trans (bv.mono eW));have da:=hD (co.o.below bv co.o.lt);have R6:=co.o.lt;rw[bF.o] at rs;have se:=hD (kk0 rs ML a8.o k name vh.o);have oc:=hD rs;rw[←kc.o] at se;clear rs ML bv uE cn;go_wp2_with fail;refine se.o.mono ?_;intro e bm cb;have r8:=cA.o.size
 cases r with
 |none=>have cb:e=ac (V J)∧H aK aK bm:=cb;obtain ⟨rfl,cQ⟩:=cb;have cN:=hD (cA.o.trans (cQ.mono r8));have hu:=hD (oc.o.below cQ);have mj:=da.o.below cQ da.o.lt;have r0:=mj.cell 0;have d5:=mj.frozen 0;have be:=hu.o.ed.cell 0;simp only[gA,gB] at r0 be;rw[←bF.o] at be;have lz:Hz (doR k l=l):=hD (by unfold doR;rw[←kc.o];rfl);have jS:Hz (PlAt (bm.setCell ⟨w.heap.size+1,0,Z⟩ (D (N ⟨ap,0,Z⟩) n cap)) (fun i=>w.heap.size≤i∧i<(bm.setCell ⟨w.heap.size+1,0,Z⟩ (D (N ⟨ap,0,Z⟩) n cap)).heap.size) (N ⟨ap,0,Z⟩) l):=hD (hu.o.mci.keep (fun i hi _=>ud7 bm ⟨w.heap.size+1,0,Z⟩ _ i (by have:=hi.1;show i≠w.heap.size+1;omega)) (by simp) (fun i hi _=>by have:=hi.1;have:=hi.2;simp;omega));have qD:=hD (cN.o.setCell (p:=⟨w.heap.size+1,0,Z⟩) (by show w.heap.size≤w.heap.size+1;omega) (D (N ⟨ap,0,Z⟩) n cap));clear cQ mj se;go_wp2_with fail;refine ub2 (v:=ag #[aa #[D (N ⟨ap,0,Z⟩) n cap],V J,aj]) (by simp[results,results34,go_sem,r0]) rfl ?_;exact ⟨qD.o,ap,cap,by rw[lz.o,←bF.o];rfl,by rw[lz.o];exact jS.o⟩
 |some l'=>have cb:e=ac (V K)∧(∃ e5 fE qE,EdX bm a6 g e5 fE l' qE (D (N ⟨bz,0,Z⟩) l.length l.length))∧FrX a6 aK bm:=cb;obtain ⟨rfl,⟨e5,fE,qE,hX⟩,i6⟩:=cb;have hu:=hD hX;have cN:=hD (cA.o.trans (i6.bel.mono eW));have mj:=da.o.below i6.bel R6;have r0:=mj.cell 0;have d5:=mj.frozen 0;have be:=hX.ed.cell 0;simp only[gA,gB] at r0 be;have lz:Hz (doR k l=l'):=hD (by unfold doR;rw[←kc.o];rfl);obtain ⟨m,bg⟩:=xE l'.length;rw[←bg] at be;have ro:=hD bg;have jS:Hz (PlAt (bm.setCell ⟨w.heap.size+1,0,Z⟩ (D (N ⟨e5,0,Z⟩) m fE)) (fun i=>w.heap.size≤i∧i<(bm.setCell ⟨w.heap.size+1,0,Z⟩ (D (N ⟨e5,0,Z⟩) m fE)).heap.size) (N ⟨e5,0,Z⟩) l'):=hD (hu.o.mci.keep (fun i hi _=>ud7 bm ⟨w.heap.size+1,0,Z⟩ _ i (by have:=hi.1;show i≠w.heap.size+1;omega)) (by simp) (fun i hi _=>by have:=hi.1;have:=hi.2;simp;omega));have qD:=hD (cN.o.setCell (p:=⟨w.heap.size+1,0,Z⟩) (by show w.heap.size≤w.heap.size+1;omega) (D (N ⟨e5,0,Z⟩) m fE));clear hX i6 mj se bg;go_wp2_with fail;refine ub2 (v:=ag #[aa #[D (N ⟨e5,0,Z⟩) m fE],V K,aj]) (by simp[results,results34,go_sem,r0]) rfl ?_;exact ⟨qD.o,e5,fE,by rw[lz.o,←ro.o];rfl,by rw[lz.o];exact jS.o⟩
theorem kjL {l:List St} (h:Oz.mba l=Z):∀ n,Oz.ofN n l=l
 |0=>rfl
 |n+1=>by unfold Oz.ofN;rw[h]
theorem kwe {l:List St} (an:kaf l=0):∀(n m:Nat),kaq l≤n→kaq l≤m→Oz.ofN n l=Oz.ofN m l:=by
 intro n
 induction n generalizing l with
 |zero=>
  intro m ax _;have af:=(check_fit.1 an).1
  have:0<kaq l:=by
   cases l with
   |nil=>simp at af
   |cons s l=>rw[kgd];have:=kgc s.op;have:=kev l;omega
  omega
 |succ n bQ=>
  intro m ax bg
  cases aE:Oz.mba l with
  |none=>rw[kjL aE,kjL aE]
  |some l'=>have d:=kgl an aE;have:=d.cost;have:=kev l';obtain ⟨w8,rfl⟩:∃ w8,m=w8+1:=⟨m-1,oM⟩;show (match Oz.mba l with|none=>l|some l'=>Oz.ofN n l')=(match Oz.mba l with|none=>l|some l'=>Oz.ofN w8 l');rw[aE];exact bQ d.check w8 oM oM
def ofR (l:List St):List St:=Oz.ofN (kaq l).toNat l
def kpO {l:List St} (h:Oz.mba l=Z):ofR l=l:=kjL h _
def kpP {l l':List St} (an:kaf l=0) (h:Oz.mba l=N l'):ofR l=ofR l':=by have d:=kgl an h;have af:=d.cost;have ao:=kev l';unfold ofR;obtain ⟨n,ax⟩:∃ n,(kaq l).toNat=n+1:=⟨(kaq l).toNat-1,oM⟩;rw[ax];show (match Oz.mba l with|none=>l|some l'=>Oz.ofN n l')=_;rw[h];exact kwe d.check n _ oM oM
theorem kwd {l:List St} (an:kaf l=0):kaf (ofR l)=0∧kaq (ofR l)≤kaq l∧kbx (ofR l)=kbx l∧Oz.mba (ofR l)=Z:=by
 obtain ⟨n,ax⟩:=xE ((kaq l).toNat)
 induction n using Nat.strongRecOn generalizing l with
 |ind n bQ=>
  cases aE:Oz.mba l with
  |none=>rw[kpO aE];exact ⟨an,ug9 _,rfl,aE⟩
  |some l'=>have d:=kgl an aE;have af:=d.cost;have ao:=kev l';rw[kpP an aE];obtain ⟨g1,eN,gV,iA⟩:=bQ (kaq l').toNat oM d.check rfl;exact ⟨g1,oM,gV.trans d.last,iA⟩
def OfX (w:O) (l':List St) (e:Ending) (w':O):Prop:=H w w w'∧∃ ap cap,e=ac (ag #[aa #[D (N ⟨ap,0,Z⟩) l'.length cap],aj])∧PlAt w' (fun i=>w.heap.size≤i∧i<w'.heap.size) (N ⟨ap,0,Z⟩) l'
def OgX (he:O) (base g xO:Nat) (l:List St) (f:Nat) (wr:O):Prop:=∃(nk:List St) (ap cap bz:Nat) (vs:List C),kaq nk<f∧Hz (kaf nk=0)∧Hz (ofR nk=ofR l)∧Hz (EdX wr base g ap cap nk vs (D (N ⟨bz,0,Z⟩) nk.length nk.length))∧Hz (Blk wr bz 3 (kau (kag nk)))∧Hz (FrX base he wr)∧Hz (Blk wr xO 9 kcY)
def kpM (A:Option ae) (c:Nat) (l:List St) (w:O) (aO:PlAt w (fun i=>i<w.heap.size) A l) (an:kaf l=0) (bg:kfi l):
 L prog 10 #[aa #[D A l.length c]] w (OfX w (ofR l)):=by
 obtain ⟨gU,kB⟩:=xE ((w.alloc (y #[D A l.length c] 26)).alloc (y #[D Z 0 0] 26));have e0:H w w gU:=(by rw[kB];exact (kax w _).alloc (by simp) _);have vf:=hD (show Blk gU w 26 #[D A l.length c] by rw[kB];exact (Blk.new _ _ _).alloc _);have tJ:=hD (show Blk gU (w.heap.size+1) 26 #[D Z 0 0] by rw[kB];have:=Blk.new (w.alloc (y #[D A l.length c] 26)) 26 #[D Z 0 0];simpa using this);have sd:=hD (aO.below e0);have lU:=khQ A c l gU sd.o bg;rw[an] at lU;obtain ⟨iX,nj,vg,a8,hQ⟩:=hd5 (show L prog 11 #[aa #[D A l.length c]] gU fun e w'=>e=ac aj∧H gU gU w' from lU) e0 kB an bg;obtain ⟨n,ax⟩:=xE l.length;have bF:=hD ax;rw[←ax] at vf iX vg;rw[←ax];clear aO e0 lU kB an bg ax;go_enter func10,ntmps10;go_wp2_with fail;rw[←vg.o];refine iX.o.mono ?_;rintro e aq ⟨rfl,cm⟩;have zG:=nj.o.size;have a7:=hD (nj.o.trans (cm.mono zG));have cJ:=a7.o.size;have dI:=hD (tJ.o.below cm tJ.o.lt);have mn:=hD (vf.o.below cm vf.o.lt);have b8:=mn.o.cell 0;simp only[gA,gB] at b8;have ch:=kp1 A c l aq (sd.o.below cm) (check_fit.1 a8.o).1 hQ.o.1 (kdv a8.o);rw[←bF.o] at ch;have uE:=hD ch;clear cm iX ch;go_wp2_with fail;refine uE.o.mono ?_;rintro e aF ⟨g,ap,cap,bz,vs,rfl,ir,g5,bs⟩;have bo:=hD (a7.o.trans (bs.mono cJ));have eW:=bo.o.size;rw[bF.o] at ir;obtain ⟨hx,Ki,co⟩:=hd3 ir g5 (dI.o.below bs dI.o.lt);have Kh:=dI.o.lt;clear ir g5 bs uE b8;go_wp2_with fail;refine (koX _).mono ?_;rintro e a6 ⟨rfl,mx,b3⟩;obtain ⟨bU,eL,Kj,cX,nY,n8⟩:=hd6 (bo.o.trans (b3.mono eW)) (hx.o.below b3) (Ki.o.below b3 Ki.o.lt) (co.o.below b3 co.o.lt) mx (ug9 (kaq l));have AW:∀(mI:Fn) (first cap:Array C) (w:O),(Instr.makeFunc mI first cap).run prog w= .ok (.func mI first cap) w:=fun _ _ _ _=>rfl;obtain ⟨B,b0⟩:=xE ((kaq l).toNat);have ev:=hD b0;clear mx b3 b0;go_wp2_with fail;go_loopg [] (B+1) (fun f wr=>OgX a6 aq g aF l f wr)
 case atStart=>exact ⟨l,ap,cap,bz,vs,by have:=ev.o;omega,a8,hD rfl,eL,Kj,hD (FrX.refl _ _),nY⟩
 case round=>
  clear eL Kj nY;obtain ⟨nk,e5,fE,R7,qE,b5,pJ,o1,bq,hy,zH,w9⟩:=hrel;have gf:0≤kaq nk:=kev nk;obtain ⟨f,rfl⟩:=xS gk;have fQ:=hD (kvo bq.o hy.o pJ.o aF 11 w9.o);obtain ⟨r,am⟩:=xE (Oz.mba nk);rw[←am] at fQ;have kc:=hD am;have xa:=hD b5;clear am b5 gf;go_wp2_with fail;refine fQ.o.mono ?_;intro e aK bk
  cases r with
  |none=>have bk:e=ac (V J)∧H wr wr aK:=bk;obtain ⟨rfl,bv⟩:=bk;have oc:=hD (bq.o.below bv);have l1:=hD (zH.o.below bv bq.o.maz);have h1:=cX.o.below l1.o.bel Kh;have r0:=h1.cell 0;have d5:=h1.frozen 0;have be:=oc.o.ed.cell 0;simp only[gA,gB] at r0 be;have lz:Hz (ofR l=nk):=hD (by rw[←o1.o];exact kpO kc.o.symm);obtain ⟨m,bg⟩:=xE nk.length;rw[←bg] at be;have ro:=hD bg;have cA:=hD (bU.o.trans (l1.o.bel.mono cJ));have jS:Hz (PlAt (aK.setCell ⟨w.heap.size+1,0,Z⟩ (D (N ⟨e5,0,Z⟩) m fE)) (fun i=>w.heap.size≤i∧i<(aK.setCell ⟨w.heap.size+1,0,Z⟩ (D (N ⟨e5,0,Z⟩) m fE)).heap.size) (N ⟨e5,0,Z⟩) nk):=hD (oc.o.mci.keep (fun i hi _=>ud7 aK ⟨w.heap.size+1,0,Z⟩ _ i (by have:=hi.1;show i≠w.heap.size+1;omega)) (by simp) (fun i hi _=>by have:=hi.1;have:=hi.2;simp;omega));have qD:=hD (cA.o.setCell (p:=⟨w.heap.size+1,0,Z⟩) (by show w.heap.size≤w.heap.size+1;omega) (D (N ⟨e5,0,Z⟩) m fE));clear bv h1 fQ bg;go_wp2_with fail;refine ub2 (v:=ag #[aa #[D (N ⟨e5,0,Z⟩) m fE],aj]) (by simp[results,results10,go_sem,r0]) rfl ?_;exact ⟨qD.o,e5,fE,by rw[lz.o,←ro.o],by rw[lz.o];exact jS.o⟩
  |some l'=>
   have bk:e=ac (V K)∧(∃ Cu Cv ip,EdX aK aq g Cu Cv l' ip (D (N ⟨R7,0,Z⟩) nk.length nk.length))∧FrX aq wr aK:=bk;obtain ⟨rfl,⟨Cu,Cv,ip,rs⟩,Fq⟩:=bk;have hd:=kgl pJ.o kc.o.symm;obtain ⟨cW,fv,l1,R9⟩:=hd4 hd (krM aq g Cu Cv l' ip _ aK rs (kdv hd.check)) (zH.o.trans Fq) (Fq.str _ _ w9.o);clear rs Fq fQ hd;go_wp2_with fail;refine fv.o.mono ?_;rintro e bm ⟨rfl,XR,hX,MM,i6⟩;obtain ⟨hu,Sa,pA,Sb⟩:=hd4 hX MM (l1.o.trans i6) (i6.str _ _ R9.o);have j8:Hz (ofR l'=ofR l):=hD (by rw[←o1.o];exact (kpP pJ.o kc.o.symm).symm);have ks:=hD cW.o.check;clear hX MM i6 fv;go_wp2_with fail;go_roundg f
   case measure=>omega
   case rel=>exact ⟨l',Cu,Cv,XR,ip,by have:=cW.o.cost;have:=xa.o;omega,ks,j8,hu,Sa,pA,Sb⟩
def khT (h:P:=by simp only[uf5,uk8] at e;unfold Ev.at1;rw[e]):=h
def kuV {l:List St} {j:Nat} {t:St} (aB:l[j]? =N t):l.set j t=l:=by
 apply uh3;intro q;rw[List.getElem?_set];split
 .rename_i h;subst h;rw[aB,ua1 (gH aB).1]
 .rfl
section
variable (X:Ev.Cx)
theorem kcs {s:St} (h:s.args.length=1) (d:List Ev.Va):Ev.at1 X s d=Ev.app X s [d.getD (Oz.arg s 0).toNat (.num 0)]:=by have e:=ud4 (List.map (fun a:Int=>d.getD a.toNat (.num 0))) (kCf h);exact khT
theorem kcN {s:St} (h:s.args.length=2) (d:List Ev.Va):Ev.at1 X s d=Ev.app X s [d.getD (Oz.arg s 0).toNat (.num 0),d.getD (Oz.arg s 1).toNat (.num 0)]:=by have e:=ud4 (List.map (fun a:Int=>d.getD a.toNat (.num 0))) (ksc h);exact khT
theorem kCb {s:St} (h:s.args.length=3) (d:List Ev.Va):Ev.at1 X s d=Ev.app X s [d.getD (Oz.arg s 0).toNat (.num 0),d.getD (Oz.arg s 1).toNat (.num 0),d.getD (Oz.arg s 2).toNat (.num 0)]:=by have e:=ud4 (List.map (fun a:Int=>d.getD a.toNat (.num 0))) (kCe h);exact khT
theorem kaJ {s:St} {op:List UInt8} (h:s.op=op) (A:List Ev.Va):Ev.app X s A=Ev.app X ⟨op,[],s.num,s.text,0⟩ A:=by subst h;rfl
theorem kCa {s t:St} (af:s.op=t.op) (ao:s.num=t.num) (av:s.text=t.text) (bk:s.args=t.args) (d:List Ev.Va):Ev.at1 X s d=Ev.at1 X t d:=by unfold Ev.at1 Ev.app;rw[af,ao,av,bk]
theorem kfL {l:List St} {i:Nat} {s:St} (al:l[i]? =N s) {x:St} (h:∀ cw,VAt X l i cw→Agree (Ev.at1 X s cw) (Ev.at1 X x cw)):Agree (Ev.run X l) (Ev.run X (l.set i x)):=by have dK:=(gH al).1;have Fr:=kg2 al;have af:=kuX X (pre:=l.take i) (post:=l.drop (i+1)) (s:=s) (x:=x) fun d hd=>h d hd;rw[←Fr] at af;rw[um9,ua1 dK];exact af
theorem kBc {l l':List St} (an:kaf l=0) {i:Nat} {s:St} (al:l[i]? =N s) (am:Oz.maZ l i=N l'):Agree (Ev.run X l) (Ev.run X l'):=by
 unfold Oz.maZ at am;dsimp only at am;rw[kal al] at am;obtain ⟨⟨ba,aG⟩,am⟩:=kdU am;injection am with am;subst am;have f:=kaC an al (o:=⟨[3,3],1,J,J⟩) (by rw[ba];kernel_rfl);have az:s.args.length=2:=f.len;refine kfL X al fun cw hD=>?_;rw[kcN X az,kcs X (s:=Oz.mk Oz.mal [Oz.arg s 0] 0 [] 1) rfl,kaJ X ba,kaJ X (s:=Oz.mk Oz.mal [Oz.arg s 0] 0 [] 1) (op:=Oz.mal) rfl,←aG];refine .inr (.inr ?_);show Ev.mah (Ev.mbw (cw.getD (Oz.arg s 0).toNat (.num 0)).t (cw.getD (Oz.arg s 0).toNat (.num 0)).t)=Ev.mah (cw.getD (Oz.arg s 0).toNat (.num 0)).t.length;congr 1;generalize (cw.getD (Oz.arg s 0).toNat (.num 0)).t=t
 induction t with
 |nil=>rfl
 |cons b t bQ=>rw[Ev.mbw,ua1 rfl,bQ,uc8];omega
variable (hF:CxOk X)
include hF
section
variable {l l':List St} (an:kaf l=0) {i:Nat} {s:St} (al:l[i]? =N s)
include an al
theorem khf {j:Nat} (b9:j<i) (am:Oz.mad l i j=N l') (h:∀ cw,VAt X l i cw→Ev.at1 X s cw= .ok (cw.getD j (.num 0))∨Ev.at1 X s cw= .error Z):Agree (Ev.run X l) (Ev.run X l'):=by
 have dK:=(gH al).1;obtain ⟨t,aB⟩:∃ t,l[j]? =N t:=⟨_,ua3 oM⟩;refine kod X hF an (x:=t) (same:=True) al aB b9 (by rw[kuV aB];exact am) (.inl trivial) fun d _=>?_;refine ⟨fun c af=> .inl af,fun v au=> .inr ⟨v,au,fun _=>rfl,fun cw hD aS=>?_⟩⟩;rcases h cw hD with af|af
 .rw[aS] at af;exact .inl af
 .exact .inr af
theorem kuR (am:Oz.maH l i=N l'):Agree (Ev.run X l) (Ev.run X l'):=by
 have dK:=(gH al).1;rw[←kuS an al] at am;unfold Rf.mcb at am
 cases b5:(List.range i).find? fun j:Nat=>Rf.mbJ (Oz.at_ l (j:Int)) (Oz.at_ l (i:Int)) with
 |none=>rw[b5] at am;cases am
 |some j=>rw[b5] at am;have b9:j<i:=uk3.1 (List.mem_of_find?_eq_some b5);have aG:=List.find?_some b5;obtain ⟨t,aB⟩:∃ t,l[j]? =N t:=⟨_,ua3 oM⟩;dsimp only at am aG;rw[ko7 (okB an) dK b9] at am;rw[kal aB,kal al] at aG;unfold Rf.mbJ at aG;obtain ⟨af,ao,av,bk⟩:=ug4 aG;refine khf X hF an al b9 am fun cw hD=> .inl ?_;rw[kCa X af.symm ao.symm av.symm bk.symm];exact kcT X an hD b9 aB
theorem ks3 (am:Oz.ma0 l i=N l'):Agree (Ev.run X l) (Ev.run X l'):=by
 have dK:=(gH al).1;unfold Oz.ma0 at am;split at am
 .cases am
 rename_i dY;injection am with am;subst am;simp only[ul6] at dY;obtain ⟨az,aI,h8⟩:=dY;have dw:(l.take i).length=i:=(by rw[ub8,uf7 oM]);have Fr:=kg2 al
 have af := kAH X (pre := l.take i) (post := l.drop (i + 1)) (s := s) (fun aD => by
   have := ud4 List.length aD
   rw [ud9, uj7] at this
   omega) (fun k t aB a aE => by
   rw [ud0] at aB
   rw [dw]
   exact ⟨(kcr an t (ua4 aB) a aE).1, fun aG => knT (kcr an) aI aB (aG ▸ aE)⟩) (fun d hd => by
   rw [kal al] at h8
   exact koO X hF (by cases h : Oz.ma9 s with | true => rfl | false => exact absurd h h8) (kfS an (ua4 al)) (kfz X hF (l := l) (i := i) hd))
 rw[←Fr,dw] at af;exact af
end
end
def kyk {v:Ev.Va} (h:kbe v=1):v= .num v.n:=by cases v <;> first|rfl|(simp[kbe] at h)
def kj3 {v:Ev.Va} (h:kbe v=2):v= .tru v.b:=by cases v <;> first|rfl|(simp[kbe] at h)
def kql {v:Ev.Va} (h:kbe v=3):v= .txt v.t:=by cases v <;> first|rfl|(simp[kbe] at h)
def kqm {v:Ev.Va} (h:kbe v=4):v= .sps v.l:=by cases v <;> first|rfl|(simp[kbe] at h)
def kek {v:Ev.Va} {X:Ev.Cx} (hg:kaD X v) (aw:kbe v=1):Ev.mah v.n= .ok v:=by rw[kcH (ke0 hg)];exact ud4 _ (kyk aw).symm
def kiU {v:Ev.Va} {X:Ev.Cx} (hg:kaD X v) (aw:kbe v=3):Ev.maG X v.t= .ok v:=by unfold Ev.maG;rw[ua1 (kc0 hg)];exact ud4 _ (kql aw).symm
def kpm {n:Int} (h: -Oz.mab≤n∧n≤Oz.mab):Ev.maQ n 1=Ev.mah n∧Ev.maQ 1 n=Ev.mah n:=by
 unfold Ev.maQ;have bg:max n (-n)≤Oz.mab:=oM;refine ⟨?_,?_⟩
 .rw[Int.mul_one,ua0];rintro ⟨af,_,ao⟩;have av:max (1:Int) (-1)=1:=dC;rw[av] at ao;have bk:0<max n (-n):=oM;have cb:=Int.mul_ediv_self_le (x:=Oz.mab) (k:=max n (-n)) oM;have dE:1≤Oz.mab / max n (-n):=ur2 bk oM;omega
 .rw[Int.one_mul,ua0];rintro ⟨_,af,ao⟩;have av:max (1:Int) (-1)=1:=dC;rw[av,Int.ediv_one] at ao;omega
def kvr {v:Ev.Va} {X:Ev.Cx} (hF:CxOk X) (hg:kaD X v) (aw:kbe v=3):Ev.mby X v.t 1= .ok v:=by
 have ax:=hF.n;have aB:=kc0 hg;unfold Ev.mby;rw[ua0 oM,ua0,ua0 oM]
 .refine ud4 _ ?_;rw[kql aw];show Ev.Va.txt (if v.t.length=0 then [] else Ev.ma6 v.t 1)= .txt v.t;refine ud4 _ ?_;split
  .rename_i h;exact (ui6 h).symm
  .show v.t++[]=v.t;exact ug2 _
 .rintro ⟨af,ao⟩;have dE:1≤Oz.mab / (v.t.length:Int):=ur2 oM oM;omega
def kAV {v:Ev.Va} {X:Ev.Cx} (hF:CxOk X) (hg:kaD X v) (aw:kbe v=3):Ev.cutV X v.t 0 v.t.length= .ok v:=by have ax:=hF.n;have aB:=kc0 hg;unfold Ev.cutV Ev.inV;rw[ua1 (by rw[ue8];omega)];have:(v.t.drop (0:Int).toNat).take (v.t.length:Int).toNat=v.t:=(by rw[ub7];exact uf2);rw[this];exact kiU hg aw
section
variable (X:Ev.Cx) {l:List St} (an:kaf l=0) {i:Nat} {s:St} (al:l[i]? =N s)
include an al
theorem kes {o:OpI} (f:Fine l i s o) {k:Nat} (aw:k<s.args.length) {n:Int} (h:Oz.isR l (Oz.arg s k) n=K) {cw:List Ev.Va} (hD:VAt X l i cw):cw.getD (Oz.arg s k).toNat (.num 0)= .num n:=by obtain ⟨j,t,e,b9,aB,rr,aE⟩:=ka1 an al f aw;unfold Oz.isR at h;rw[e,rr,ue8] at h;have af:=kcT X an hD b9 aB;unfold Ev.at1 at af;rw[kaJ X h.1] at af;rw[e,ub7,←h.2];exact (kfU af).1
theorem krB {o:OpI} (f:Fine l i s o) {k:Nat} (aw:k<s.args.length) (h:Oz.mbE l (Oz.arg s k)=K) {cw:List Ev.Va} (hD:VAt X l i cw):cw.getD (Oz.arg s k).toNat (.num 0)= .txt []:=by obtain ⟨j,t,e,b9,aB,rr,aE⟩:=ka1 an al f aw;unfold Oz.mbE at h;rw[e,rr,ue8] at h;have af:=kcT X an hD b9 aB;unfold Ev.at1 at af;rw[kaJ X h.1] at af;rw[e,ub7,←h.2];exact (kiV (X:=X) af).1
end
section
variable (X:Ev.Cx) (hF:CxOk X)
include hF
section
variable {l l':List St} (an:kaf l=0) {i:Nat} {s:St} (al:l[i]? =N s)
include an al
theorem kfc {o:OpI} (f:Fine l i s o) (kg:ka9 s.op=J) {k:Nat} (aw:k<s.args.length) {cw:List Ev.Va} (hD:VAt X l i cw):kaD X (cw.getD (Oz.arg s k).toNat (.num 0))∧o.args[k]? =N (kbe (cw.getD (Oz.arg s k).toNat (.num 0))):=by obtain ⟨j,t,e,b9,aB,_,aE⟩:=ka1 an al f aw;obtain ⟨af,ao⟩:=knQ X hF an hD b9 aB;rw[e,ub7];refine ⟨af,?_⟩;rw[ao,kdY an al f kg aE,kcu aB]
theorem kcq {op:List UInt8} {o:OpI} {ie lE:Int} (ba:s.op=op) (bf:opR op=N o) (kg:ka9 op=J) (Nc:o.args=[ie,lE]) (k:Nat) (aw:k<2) (am:Oz.mad l i (Oz.arg s k).toNat=N l')
 (h:∀ cw,VAt X l i cw→∀ a b,cw.getD (Oz.arg s 0).toNat (.num 0)=a→cw.getD (Oz.arg s 1).toNat (.num 0)=b→kaD X a→kaD X b→kbe a=ie→kbe b=lE→Ev.app X ⟨op,[],s.num,s.text,0⟩ [a,b]= .ok (if k=0 then a else b)):Agree (Ev.run X l) (Ev.run X l'):=by
 have f:=kaC an al (by rw[ba];exact bf);have az:s.args.length=2:=(by rw[f.len,Nc];rfl);obtain ⟨j,t,e,b9,aB,_,aE⟩:=ka1 an al f (k:=k) oM;rw[e,ub7] at am;refine khf X hF an al b9 am fun cw hD=> .inl ?_;obtain ⟨d8,k0⟩:=kfc X hF an al f (by rw[ba];exact kg) (k:=0) oM hD;obtain ⟨g1,k1⟩:=kfc X hF an al f (by rw[ba];exact kg) (k:=1) oM hD;rw[Nc] at k0 k1;injection k0 with k0;injection k1 with k1;rw[kcN X az,kaJ X ba,h cw hD _ _ rfl rfl d8 g1 k0.symm k1.symm];have tr:k=0∨k=1:=oM;rcases tr with tr|tr
 .subst tr;rw[ua1 rfl,e,ub7]
 .subst tr;rw[ua0 dC,e,ub7]
theorem kwL (am:Oz.maj l i=N l'):Agree (Ev.run X l) (Ev.run X l'):=by
 unfold Oz.maj at am;rw[kal al] at am;dsimp only at am;by_cases aD:s.op=Oz.maF
 .rw[ua1 aD] at am;have f:=kaC an al (o:=⟨[1,1],1,J,J⟩) (by rw[aD];show (_:Option OpI)=_;kernel_rfl);have az:s.args.length=2:=f.len;rcases keh am with am|am
  .obtain ⟨bd,am⟩:=kaT am;refine kcq X hF an al aD (o:=⟨[1,1],1,J,J⟩) kS dC rfl 0 oM am fun cw hD a b fY eT gD jt ie lE=>?_;rw[kes X an al f oM bd hD] at eT;rw[←eT];show Ev.mah (a.n+0)= .ok a;rw[Int.add_zero];exact kek gD ie
  .obtain ⟨bd,am⟩:=kaT am;refine kcq X hF an al aD (o:=⟨[1,1],1,J,J⟩) kS dC rfl 1 oM am fun cw hD a b fY eT gD jt ie lE=>?_;rw[kes X an al f oM bd hD] at fY;rw[←fY];show Ev.mah (0+b.n)= .ok b;rw[ut2];exact kek jt lE
 rw[ua0 aD] at am;by_cases af:s.op=Oz.maY
 .rw[ua1 af] at am;have f:=kaC an al (o:=⟨[1,1],1,J,J⟩) (by rw[af];show (_:Option OpI)=_;kernel_rfl);have az:s.args.length=2:=f.len;obtain ⟨bd,am⟩:=kaT am;refine kcq X hF an al af (o:=⟨[1,1],1,J,J⟩) kS dC rfl 0 oM am fun cw hD a b fY eT gD jt ie lE=>?_;rw[kes X an al f oM bd hD] at eT;rw[←eT];show Ev.mah (a.n-0)= .ok a;rw[Int.sub_zero];exact kek gD ie
 rw[ua0 af] at am;by_cases ao:s.op=Oz.maJ
 .rw[ua1 ao] at am;have f:=kaC an al (o:=⟨[1,1],1,J,J⟩) (by rw[ao];show (_:Option OpI)=_;kernel_rfl);have az:s.args.length=2:=f.len;rcases keh am with am|am
  .obtain ⟨bd,am⟩:=kaT am;refine kcq X hF an al ao (o:=⟨[1,1],1,J,J⟩) kS dC rfl 0 oM am fun cw hD a b fY eT gD jt ie lE=>?_;rw[kes X an al f oM bd hD] at eT;rw[←eT];show Ev.maQ a.n 1= .ok a;rw[(kpm (ke0 gD)).1];exact kek gD ie
  .obtain ⟨bd,am⟩:=kaT am;refine kcq X hF an al ao (o:=⟨[1,1],1,J,J⟩) kS dC rfl 1 oM am fun cw hD a b fY eT gD jt ie lE=>?_;rw[kes X an al f oM bd hD] at fY;rw[←fY];show Ev.maQ 1 b.n= .ok b;rw[(kpm (ke0 jt)).2];exact kek jt lE
 rw[ua0 ao] at am;by_cases av:s.op=Oz.maT∨s.op=Oz.maS∨s.op=Oz.mbC∨s.op=Oz.oOr∨s.op=Oz.mbF∨s.op=Oz.maI
 .rw[ua1 av] at am;obtain ⟨aG,am⟩:=kdU am;rcases av with h|h|h|h|h|h
  .refine kcq X hF an al h (o:=⟨[1,1],1,J,J⟩) kS dC rfl 0 oM am fun cw hD a b fY eT gD jt ie lE=>?_;rw[←aG,fY] at eT;rw[←eT];show Ev.mah (min a.n a.n)= .ok a;rw[Int.min_self];exact kek gD ie
  .refine kcq X hF an al h (o:=⟨[1,1],1,J,J⟩) kS dC rfl 0 oM am fun cw hD a b fY eT gD jt ie lE=>?_;rw[←aG,fY] at eT;rw[←eT];show Ev.mah (max a.n a.n)= .ok a;rw[Int.max_self];exact kek gD ie
  .refine kcq X hF an al h (o:=⟨[2,2],2,J,J⟩) kS dC rfl 0 oM am fun cw hD a b fY eT gD jt ie lE=>?_;rw[←aG,fY] at eT;rw[←eT];show Except.ok (Ev.Va.tru (a.b&&a.b))= .ok a;rw[Bool.and_self];exact ud4 _ (kj3 ie).symm
  .refine kcq X hF an al h (o:=⟨[2,2],2,J,J⟩) kS dC rfl 0 oM am fun cw hD a b fY eT gD jt ie lE=>?_;rw[←aG,fY] at eT;rw[←eT];show Except.ok (Ev.Va.tru (a.b||a.b))= .ok a;rw[Bool.or_self];exact ud4 _ (kj3 ie).symm
  .refine kcq X hF an al h (o:=⟨[4,4],4,J,J⟩) kS dC rfl 0 oM am fun cw hD a b fY eT gD jt ie lE=>?_;rw[←aG,fY] at eT;rw[←eT];show Ev.ma8 (Ev.mbx a.l a.l)= .ok a;rw[ks5 (ke1 gD).1];unfold Ev.ma8;rw[ua0 (by have:=(ke1 gD).2;omega)];exact ud4 _ (kqm ie).symm
  .refine kcq X hF an al h (o:=⟨[4,4],4,J,J⟩) kS dC rfl 0 oM am fun cw hD a b fY eT gD jt ie lE=>?_;rw[←aG,fY] at eT;rw[←eT];show Except.ok (Ev.Va.sps (Ev.mbc Oz.maI a.l a.l 0))= .ok a;rw[ksJ];exact ud4 _ (kqm ie).symm
 rw[ua0 av] at am;by_cases bk:s.op=Oz.maO
 .rw[ua1 bk] at am;have f:=kaC an al (o:=⟨[3,3],3,J,J⟩) (by rw[bk];show (_:Option OpI)=_;kernel_rfl);have az:s.args.length=2:=f.len;rcases keh am with am|am
  .obtain ⟨bd,am⟩:=kaT am;refine kcq X hF an al bk (o:=⟨[3,3],3,J,J⟩) kS dC rfl 0 oM am fun cw hD a b fY eT gD jt ie lE=>?_;rw[krB X an al f oM bd hD] at eT;rw[←eT];show Ev.maG X (a.t++[])= .ok a;rw[ug2];exact kiU gD ie
  .obtain ⟨bd,am⟩:=kaT am;refine kcq X hF an al bk (o:=⟨[3,3],3,J,J⟩) kS dC rfl 1 oM am fun cw hD a b fY eT gD jt ie lE=>?_;rw[krB X an al f oM bd hD] at fY;rw[←fY];show Ev.maG X ([]++b.t)= .ok b;rw[uj4];exact kiU jt lE
 rw[ua0 bk] at am;by_cases cb:s.op=Oz.maU
 .rw[ua1 cb] at am;have f:=kaC an al (o:=⟨[3,1],3,J,J⟩) (by rw[cb];show (_:Option OpI)=_;kernel_rfl);have az:s.args.length=2:=f.len;obtain ⟨bd,am⟩:=kaT am;refine kcq X hF an al cb (o:=⟨[3,1],3,J,J⟩) kS dC rfl 0 oM am fun cw hD a b fY eT gD jt ie lE=>?_;rw[kes X an al f oM bd hD] at eT;rw[←eT];exact kvr hF gD ie
 rw[ua0 cb] at am;by_cases dE:s.op=Oz.ma4
 .rw[ua1 dE] at am;have f:=kaC an al (o:=⟨[3,1,1],3,J,J⟩) (by rw[dE];show (_:Option OpI)=_;kernel_rfl);have az:s.args.length=3:=f.len;obtain ⟨bd,am⟩:=kaT am;rw[uj0,uj0,ue8,ue8] at bd;obtain ⟨bd,dz,uS⟩:=bd;obtain ⟨j,t,e,b9,aB,_,aE⟩:=ka1 an al f (k:=0) oM;obtain ⟨m,u,em,Bn,aI,Sc,_⟩:=ka1 an al f (k:=2) oM;rw[em,Sc] at dz uS;rw[e,ub7] at am;refine khf X hF an al b9 am fun cw hD=> .inl ?_;obtain ⟨d8,k0⟩:=kfc X hF an al f (by rw[dE];decide) (k:=0) oM hD;injection k0 with k0;have au:=kcT X an hD Bn aI;have f9:=kaC an aI (o:=⟨[3],1,J,J⟩) (by rw[dz];show (_:Option OpI)=_;kernel_rfl);have Sd:u.args.length=1:=f9.len;rw[kcs X Sd,kaJ X dz,uS] at au;have eU:Ev.mah (cw.getD (Oz.arg s 0).toNat (.num 0)).t.length= .ok (cw.getD m (.num 0)):=au;rw[kCb X az,kaJ X dE,kes X an al f oM bd hD,em,ub7,(kfU eU).1];rw[e,ub7] at d8 k0 ⊢;exact kAV hF d8 k0.symm
 rw[ua0 dE] at am;by_cases fi:s.op=Oz.maL
 .exact knE
 rw[ua0 fi] at am;cases am
end
end
def kvE {a b:Int} (aE:0≤a) (ak:0≤b) (h:a*b≤Oz.mab):Ev.maQ a b=Ev.mah (a*b):=by unfold Ev.maQ;rw[ua0];rintro ⟨af,ao,av⟩;rw[show max a (-a)=a by omega,show max b (-b)=b by omega] at av;have bk:b≤Oz.mab / a:=ur2 oM (by rw[uo5];exact h);omega
section
variable (X:Ev.Cx)
section
variable {l l':List St} (an:kaf l=0) {i:Nat} {s:St} (al:l[i]? =N s)
include an al
theorem kpU {o:OpI} (f:Fine l i s o) {k:Nat} (aw:k<s.args.length) {n:Int} (h:Oz.mbG l (Oz.arg s k)=N n) {cw:List Ev.Va} (hD:VAt X l i cw):cw.getD (Oz.arg s k).toNat (.num 0)= .num n∧0≤n∧n≤Oz.mab:=by
 obtain ⟨j,t,e,b9,aB,rr,aE⟩:=ka1 an al f aw;unfold Oz.mbG at h;rw[e,rr] at h;split at h
 .rename_i ao;injection h with h;have af:=kcT X an hD b9 aB;unfold Ev.at1 at af;rw[kaJ X ao.1] at af;rw[e,ub7,←h];exact ⟨(kfU af).1,kfS an (ua4 aB),ao.2⟩
 .cases h
theorem kg0 {o:OpI} (f:Fine l i s o) {k:Nat} (aw:k<s.args.length) (h:Oz.mbX l (Oz.arg s k)=K) {cw:List Ev.Va} (hD:VAt X l i cw):cw.getD (Oz.arg s k).toNat (.num 0)= .txt (Oz.at_ l (Oz.arg s k)).text:=by obtain ⟨j,t,e,b9,aB,rr,aE⟩:=ka1 an al f aw;unfold Oz.mbX at h;rw[e,rr,ue8] at h;have af:=kcT X an hD b9 aB;unfold Ev.at1 at af;rw[kaJ X h.1] at af;rw[e,ub7,rr];exact (kiV (X:=X) af).1
theorem kgk (op:List UInt8) (ba:s.op=op) (bf:opR op=N ⟨[1,1],1,J,J⟩)
 (Yj:∀ a b n:Int,0≤a→a≤Oz.mab→0≤b→b≤Oz.mab→Oz.mao op a b=N n→Ev.app X ⟨op,[],s.num,s.text,0⟩ [.num a, .num b]=Ev.mah n)
 (am:(match Oz.mbG l (Oz.arg s 0),Oz.mbG l (Oz.arg s 1) with
 |some a,some b=>(Oz.mao s.op a b).map fun n=>l.set i (Oz.mk kac [] n [] 1)
 |_,_=>Z)=N l'):Agree (Ev.run X l) (Ev.run X l'):=by
 have f:=kaC an al (by rw[ba];exact bf);have az:s.args.length=2:=f.len
 cases aE:Oz.mbG l (Oz.arg s 0) with
 |none=>rw[aE] at am;cases am
 |some a=>
  cases ak:Oz.mbG l (Oz.arg s 1) with
  |none=>rw[aE,ak] at am;cases am
  |some b=>
   rw[aE,ak] at am;dsimp only at am
   cases ax:Oz.mao s.op a b with
   |none=>rw[ax] at am;cases am
   |some n=>rw[ax] at am;injection am with am;subst am;refine kfL X al fun cw hD=> .inr (.inr ?_);obtain ⟨Se,a0,aY⟩:=kpU X an al f oM aE hD;obtain ⟨kf,dt,cL⟩:=kpU X an al f oM ak hD;rw[kcN X az,Se,kf,kaJ X ba,Yj a b n a0 aY dt cL (ba ▸ ax)];try rfl
theorem kzT (am:Oz.maM l i=N l'):Agree (Ev.run X l) (Ev.run X l'):=by
 unfold Oz.maM at am;rw[kal al] at am;dsimp only at am;by_cases aD:s.op=Oz.maT∨s.op=Oz.maS∨s.op=Oz.maF∨s.op=Oz.maY∨s.op=Oz.maJ
 .rw[ua1 aD] at am;rcases aD with h|h|h|h|h
  .refine kgk X an al _ h kS (fun a b n _ _ _ _ ax=>?_) am;have ax:N (min a b)=N n:=ax;injection ax with ax;subst ax;rfl
  .refine kgk X an al _ h kS (fun a b n _ _ _ _ ax=>?_) am;have ax:N (max a b)=N n:=ax;injection ax with ax;subst ax;rfl
  .refine kgk X an al _ h kS (fun a b n _ _ _ _ ax=>?_) am;have ax:(if Oz.valid a&&Oz.valid b&&decide (a+b≤Oz.mab) then N (a+b) else Z)=N n:=ax;split at ax
   .injection ax with ax;subst ax;rfl
   .cases ax
  .refine kgk X an al _ h kS (fun a b n _ _ _ _ ax=>?_) am;have ax:(if Oz.valid a&&Oz.valid b&&decide (b≤a) then N (a-b) else Z)=N n:=ax;split at ax
   .injection ax with ax;subst ax;rfl
   .cases ax
  .refine kgk X an al _ h kS (fun a b n aE _ ak _ ax=>?_) am;have ax:(if Oz.valid a&&Oz.valid b&&decide (a*b≤Oz.mab) then N (a*b) else Z)=N n:=ax;split at ax
   .rename_i au;injection ax with ax;subst ax;rw[uj0,ue8] at au;exact kvE aE ak au.2
   .cases ax
 rw[ua0 aD] at am;by_cases af:s.op=Oz.mal
 .rw[ua1 af] at am;have f:=kaC an al (o:=⟨[3],1,J,J⟩) (by rw[af];show (_:Option OpI)=_;kernel_rfl);have az:s.args.length=1:=f.len;obtain ⟨bd,am⟩:=kaT am;injection am with am;subst am;refine kfL X al fun cw hD=> .inr (.inr ?_);rw[kcs X az,kaJ X af,kg0 X an al f oM bd hD];rfl
 rw[ua0 af] at am;by_cases ao:s.op=Oz.mbi
 .rw[ua1 ao] at am;have f:=kaC an al (o:=⟨[3],1,J,J⟩) (by rw[ao];show (_:Option OpI)=_;kernel_rfl);have az:s.args.length=1:=f.len;obtain ⟨bd,am⟩:=kaT am;injection am with am;subst am;refine kfL X al fun cw hD=> .inr (.inr ?_);rw[kcs X az,kaJ X ao,kg0 X an al f oM bd hD];show Ev.mah (Ev.maE 0 0 (Oz.at_ l (Oz.arg s 0)).text).length=Ev.mah _;rw[kjg];rfl
 rw[ua0 ao] at am;by_cases av:s.op=Oz.maO
 .rw[ua1 av] at am;have f:=kaC an al (o:=⟨[3,3],3,J,J⟩) (by rw[av];show (_:Option OpI)=_;kernel_rfl);have az:s.args.length=2:=f.len;obtain ⟨bd,am⟩:=kaT am;rw[uj0,uj0] at bd;injection am with am;subst am;refine kfL X al fun cw hD=> .inr (.inr ?_);rw[kcN X az,kaJ X av,kg0 X an al f oM bd.1.1 hD,kg0 X an al f oM bd.1.2 hD];rfl
 rw[ua0 av] at am;cases am
end
end
def kle (h:P:=by rw[dk];exact ⟨(kcr an aC (ua4 bp) a aE).1,fun aG=>dY _ _ oM bp (aG ▸ aE)⟩):=h
def kfd {s:St} {k:Nat} {j:Nat} (h:s.args[k]? =N (j:Int)):(Oz.arg s k).toNat=j:=by unfold Oz.arg;rw[ub6,h];exact ub7 j
section
variable (X:Ev.Cx) (hF:CxOk X)
include hF
section
variable {l l':List St} (an:kaf l=0) {i j:Nat} {s t:St} (al:l[i]? =N s) (aB:l[j]? =N t) (b9:j<i) (aS:s.args[0]? =N (j:Int)) (aI:(kag l).getD j 0=1)
include an al aB b9 aS aI
theorem kpH {x:St} (g:Ev.Va→Ev.Re Ev.Va) (am:Oz.mad (l.set j x) i j=N l')
 (af:∀ d,Ev.at1 X x d=(Ev.at1 X t d).bind g) (ao:∀ v,kaD X v→∃ w,g v= .ok w) (av:∀ cw,VAt X l i cw→Ev.at1 X s cw=g (cw.getD j (.num 0))):Agree (Ev.run X l) (Ev.run X l'):=by
 refine kod X hF an (x:=x) (same:=False) al aB b9 am (.inr fun q aC bj bp=>kei (kcr an) aI al (ua4 aS) bj bp) fun d hd=>?_;refine ⟨fun c aG=> .inl (by rw[af,aG];rfl),fun v au=>?_⟩;obtain ⟨w,fn⟩:=ao v (kgi X hF (kfz X hF hd) v au).1;exact .inr ⟨w,by rw[af,au];exact fn,fun b5=>b5.elim,fun cw hD aG=> .inl (by rw[av cw hD,aG];exact fn)⟩
theorem kq3 {x:St} (aA:∀ a∈x.args,0≤a∧a<(i:Int)∧a≠(j:Int))
 (af:∀ d,VAt X l j d→∀ c,Ev.at1 X t d= .error (N c)→Oz.maN l j i=K∧∀ e,Ev.at1 X (Oz.mapA (fRm j) x) (d++e)= .error (N c))
 (ao:∀ cw,VAt X l i cw→Agree (Ev.at1 X s cw) (Ev.at1 X x cw)):Agree (Ev.run X l) (Ev.run X (Oz.mai (l.set i x) j)):=by
 have dK:=(gH al).1;obtain ⟨gr,en⟩:=kg1 al aB b9;have dk:(l.take j).length=j:=(by rw[ub8,uf7 oM]);have jl:((l.take i).drop (j+1)).length=i-(j+1):=(by rw[ud9,ub8,uf7 oM]);have dY:∀(q:Nat) (aC:St),q≠i→l[q]? =N aC→(j:Int)∉aC.args:=fun q aC bj bp=>kei (kcr an) aI al (ua4 aS) bj bp
 have bg:kgo (l.take j).length ((l.take i).drop (j+1)):=by
  intro k aC bp a aE;rw[ud0,uc4] at bp;split at bp
  .exact kle
  .cases bp
 have Sf:kgo (l.take j).length (l.drop (i+1)):=(by intro k aC bp a aE;rw[ud0] at bp;exact kle);have mq:l.set i x=l.take j++t::((l.take i).drop (j+1)++x::l.drop (i+1)):=(by rw[um9,ua1 dK];have av:=ud4 (fun z=>z++x::l.drop (i+1)) gr;rw[av,uc2];rfl);have Sg:Oz.mai (l.set i x) j=l.take j++(((l.take i).drop (j+1)).map (Oz.mapA (fRm j))++Oz.mapA (fRm j) x::(l.drop (i+1)).map (Oz.mapA (fRm j))):=by unfold Oz.mai;rw[mq,un9 dk,show l.take j++t::((l.take i).drop (j+1)++x::l.drop (i+1))=(l.take j++[t])++((l.take i).drop (j+1)++x::l.drop (i+1)) by rw[uc2];rfl,ul8 (by rw[ua6,uc3,dk]),uj3,uf5];rfl
 have h:=kyb X (pre:=l.take j) (mid:=(l.take i).drop (j+1)) (post:=l.drop (i+1)) (t:=t) (s:=s) (x:=Oz.mapA (fRm j) x) bg Sf fun d hd=>by
  have ky:d.length=j:=(by rw[kcF X _ _ _ hd,dk]);have hg:=kfz X hF (l:=l) (i:=j) hd;rw[dk];refine ⟨fun c aG=>?_,fun v au e aG hA=>?_⟩
  .obtain ⟨av,bk⟩:=af d hd c aG;refine ⟨kjd X hF _ _ (fun aC bp=>?_) hg,fun e _=> .inl (bk e)⟩;obtain ⟨z,bd,rfl⟩:=uh8.1 bp;unfold Oz.maN at av;have ax:0≤z.num:=kfS an (uk4 (up3 bd));exact ⟨un1.1 av z bd,ax⟩
  .have hD:VAt X l i (d++[v]++e):=(by exact klU);rw[ksa X (f:=fRm j) (s:=x) (d:=d++[v]++e) (d':=d++e) fun a aE=>?_]
   .exact ao _ hD
   .obtain ⟨a0,aY,bh⟩:=aA a aE;unfold fRm;by_cases bG:(j:Int)<a
    .rw[ua1 bG,kbW oM,kbW (by simp only[ua6,uc3];omega)];exact khU
    .rw[ua0 bG,kbF oM,uc2,kbF oM]
 rw[←en,dk] at h;rw[Sg];exact h
end
section
variable {l l':List St} (an:kaf l=0) {i:Nat} {s:St} (al:l[i]? =N s)
include an al
theorem kxs (am:Oz.maK l i=N l'):Agree (Ev.run X l) (Ev.run X l'):=by have Sh:=();exact kmn
theorem kx6 (am:Oz.maP l i=N l'):Agree (Ev.run X l) (Ev.run X l'):=by exact kmm
theorem kz6 (am:Oz.mav l i=N l'):Agree (Ev.run X l) (Ev.run X l'):=by have vi:=();exact kmt
end
end
end Go.Proofs.YtamhdmkolfmmdaaGreatDoor
