/- Part ak of the proof. -/
import Derived.Test.YtamhdmkolfmmdaaGreatDoorwai
set_option linter.all false
set_option maxHeartbeats 16000000
set_option maxRecDepth 100000
open Go.Proofs.Tryz
open Go.Value renaming int→I,slice→D,bool→V,string→Q,pointer→ab,agg→aa,tuple→ag,nilIface→aj
open Go.IntKind renaming i64→U,u64→Y,u8→ai
open Go.Obj renaming cells→y
open Go.Ending renaming returned→ac
open Option renaming none→Z,some→N
open Bool renaming true→K,false→J
open Go renaming World→O,Value→C,Calls→L,TypeId→ah,Addr→ae
open Go.RowKit renaming Below→H
namespace Go.Proofs.YtamhdmkolfmmdaaGreatDoor
open Go.RowKit
variable {P:Prop}
def kh8 (h:P:=by go_wp2_with fail;refine p1.o.mono ?_;rintro cG aK ⟨rfl,bv⟩;have cA:=bT a7 bv;have ih:=hD (dv.o.below bv dv.o.lt);obtain ⟨z0,ca,cI,z3,z4,k0,k1,bS,fp,gy⟩:=kak ih.o;have cW:=hD (kb1 ih.o (I U 0) (I U 0) (V J) (Q ⟨#[]⟩) (D Z 0 0));first|guard_hyp T7;have di:=hD (kdB (F:=F) (F0:=fun _=>False) (r:= .error (N 1)) (x:=ag #[aa #[I .i64 0,I U 0,V J,Q ⟨#[]⟩,D Z 0 0],I U 1,V K]) cA.o ⟨dC,rfl⟩ (fun _ h=>h.elim) (I U 0) (I U 0) (V J) (Q ⟨#[]⟩) (D Z 0 0));rw[←bK] at di;clear bv p1 bK s0 s1;go_wp2_with fail;obtain ⟨bi,aW,bc,br,bL, -⟩:=kak cW.o;refine ub2 (v:=ag #[aa #[I .i64 0,I U 0,V J,Q ⟨#[]⟩,D Z 0 0],I U 1,V K]) (by simp[results,results131,go_sem,bi,aW,bc,br,bL]) rfl ?_;exact di.o|guard_hyp T8;have di:=hD (kdB (F:=F) (F0:=fun _=>False) (r:= .error (N 2)) (x:=ag #[aa #[I .i64 0,I U 0,V J,Q ⟨#[]⟩,D Z 0 0],I U 2,V K]) cA.o ⟨dC,rfl⟩ (fun _ h=>h.elim) (I U 0) (I U 0) (V J) (Q ⟨#[]⟩) (D Z 0 0));rw[←bK] at di;clear bv p1 bK s0 s1;go_wp2_with fail;obtain ⟨bi,aW,bc,br,bL, -⟩:=kak cW.o;refine ub2 (v:=ag #[aa #[I .i64 0,I U 0,V J,Q ⟨#[]⟩,D Z 0 0],I U 2,V K]) (by simp[results,results131,go_sem,bi,aW,bc,br,bL]) rfl ?_;exact di.o|have di:=hD (kdB (F:=F) (F0:=fun _=>False) (r:= .error Z) (x:=ag #[aa #[I .i64 0,I U 0,V J,Q ⟨#[]⟩,D Z 0 0],I U 0,V J]) cA.o ⟨_,_,_,_,_,_,_,rfl⟩ (fun _ h=>h.elim) (I U 0) (I U 0) (V J) (Q ⟨#[]⟩) (D Z 0 0));rw[←bK] at di;clear bv p1 bK s0 s1;go_wp2_with fail;obtain ⟨bi,aW,bc,br,bL, -⟩:=kak cW.o;refine ub2 (v:=ag #[aa #[I .i64 0,I U 0,V J,Q ⟨#[]⟩,D Z 0 0],I U 0,V J]) (by simp[results,results131,go_sem,bi,aW,bc,br,bL]) rfl ?_;exact di.o):=h
def yq2 (h:P:=by have T4:=();exact kcR):=h
def kiC (h:P:=by have T5:=();exact kcR):=h
def kmq (h:P:=by have T6:=();exact kcR):=h
theorem kjq (t:List UInt8):∀(k:Nat),(Ev.ma6 t k).length=k*t.length
 |0=>by rw[Ev.ma6,un4];rfl
 |k+1=>by rw[Ev.ma6,ua6,kjq t k,Nat.succ_mul];omega
theorem ko9 (t:List UInt8):∀(k:Nat),Ev.ma6 t k++t=Ev.ma6 t (k+1)
 |0=>by rw[Ev.ma6,Ev.ma6,Ev.ma6];simp
 |k+1=>by rw[Ev.ma6,uc2,ko9 t k];rfl
def kB0 (a b:List UInt8):(⟨a.toArray⟩:ByteArray)++⟨b.toArray⟩=⟨(a++b).toArray⟩:=by apply ByteArray.ext;simp
def krN (P:Program) (a b:List UInt8) (h:a.length+b.length≤9223372036854775807) (W:O):(Op.stringOp .add ⟨a.toArray⟩ ⟨b.toArray⟩).run P W= .ok (Q ⟨(a++b).toArray⟩) W:=by rw[run_string_add_sum W _ _ (by show a.toArray.size+b.toArray.size≤_;simpa using h)];exact ud4 (fun x=>Result.ok (Q x) W) (kB0 a b)
def ki4 (t:List UInt8) (i m:Nat) (h:i+m≤t.length) (w:O):(Instr.slice 9 (Q ⟨t.toArray⟩) (N (I U (i:Int))) (N (I U ((i:Int)+(m:Int)))) Z).run prog w= .ok (Q ⟨((t.drop i).take m).toArray⟩) w:=by have:=ki5 t i (i+m) oM h w;rw[show i+m-i=m by omega,show ((i+m:Nat):Int)=(i:Int)+(m:Int) by omega] at this;exact this
theorem kjk:∀(t:List UInt8) (i f n:Int),0≤f→f≤i→i+t.length≤n→∀ x∈Ev.maE i f t,0≤x.1∧0≤x.2∧x.1+x.2≤n
 |[],i,f,n,aD,af,ao,x,aA=>by rw[Ev.maE] at aA;rw[ug5.1 aA];simp only[uj7] at ao;dsimp only;omega
 |b::r,i,f,n,aD,af,ao,x,aA=>by
  rw[uc8] at ao;rw[Ev.maE] at aA;by_cases ak:b=10
  .rw[ua1 ak] at aA;rcases uc7.1 aA with av|av
   .rw[av];dsimp only;omega
   .exact kjk r (i+1) (i+1) n oM oM oM x av
  .rw[ua0 ak] at aA;exact kjk r (i+1) f n aD oM oM x aA
def kvl {t:List UInt8} {x:Int×Int} (h:x∈Ev.maX t):0≤x.1∧0≤x.2∧x.1+x.2≤t.length:=kjk t 0 0 t.length (ug9 _) (ug9 _) oM x h
theorem kjj:∀(t:List UInt8) (i f:Int),(Ev.maE i f t).length≤t.length+1
 |[],i,f=>by rw[Ev.maE];exact nR
 |b::r,i,f=>by
  rw[Ev.maE,uc8];have af:=kjj r (i+1) (i+1);have ao:=kjj r (i+1) f;split
  .rw[uc8];omega
  .omega
def ko0 (t:List UInt8):(Ev.maX t).length≤t.length+1:=kjj t 0 0
def kqx {f n l:Int} (h:Ev.inV f n l=K):0≤f∧0≤n∧f+n≤l∧l≤1152921504606846976:=by unfold Ev.inV Oz.mab at h;rw[ue8] at h;omega
def kxk (g bt bP:Nat) (cj:2≤bt) (t0 bb:List UInt8) (env:List (List UInt8×List UInt8)) (Fi:Ev.Fi) (w:O) (F:Nat→Prop) (hg:g<w.heap.size) (aD:w.cell? ⟨g,3,Z⟩=N (Q ⟨t0.toArray⟩)) (af:w.cell? ⟨g,8,Z⟩=N (Q ⟨bb.toArray⟩)) (cE:t0.length≤3000) (dy:bb.length≤3000):
 L prog 131 #[Q ⟨#[43,43]⟩,D (N ⟨g,0,Z⟩) bt bP] w (kao w F (Ev.maG (X57 env Fi) (t0++bb))):=by
 exact kmq
def kxj (g bt bP:Nat) (cj:3≤bt) (t0:List UInt8) (bD dP:Int) (env:List (List UInt8×List UInt8)) (Fi:Ev.Fi) (w:O) (F:Nat→Prop) (hg:g<w.heap.size) (aD:w.cell? ⟨g,3,Z⟩=N (Q ⟨t0.toArray⟩)) (af:w.cell? ⟨g,6,Z⟩=N (I U bD)) (ao:w.cell? ⟨g,11,Z⟩=N (I U dP)) (cE:t0.length≤3000):
 L prog 131 #[Q ⟨#[99,117,116]⟩,D (N ⟨g,0,Z⟩) bt bP] w (kao w F (Ev.cutV (X57 env Fi) t0 bD dP)):=by
 have ns:=();exact yq2
def kxc (g bt bP:Nat) (cj:2≤bt) (t0:List UInt8) (bD:Int) (env:List (List UInt8×List UInt8)) (Fi:Ev.Fi) (w:O) (F:Nat→Prop) (hg:g<w.heap.size) (aD:w.cell? ⟨g,3,Z⟩=N (Q ⟨t0.toArray⟩)) (af:w.cell? ⟨g,6,Z⟩=N (I U bD)) (cE:t0.length≤3000):
 L prog 131 #[Q ⟨#[114,101,112]⟩,D (N ⟨g,0,Z⟩) bt bP] w (kao w F (Ev.mby (X57 env Fi) t0 bD)):=by
 obtain ⟨aq,aQ⟩:=xE (w.alloc (y #[I .i64 0,I U 0,V J,Q ⟨#[]⟩,D Z 0 0] 40));have j0:=bM aQ;have c4:=bA aQ;have fy:=wS aQ;obtain ⟨dv,a7,cd⟩:=hd3 j0 c4 aQ;clear j0 c4 aQ;have b7:Hz (∀ W,H w w W→W.cell? ⟨g,3,Z⟩=N (Q ⟨t0.toArray⟩)∧W.cell? ⟨g,6,Z⟩=N (I U bD)):=hD (fun W ak=>⟨(ak.cell (p:=⟨g,3,Z⟩) hg).trans aD,(ak.cell (p:=⟨g,6,Z⟩) hg).trans af⟩);have gh:(0:Int)<(bt:Int):=oM;have hw:0<bt:=oM;have e2:(1:Int)<(bt:Int):=oM;have oL:1<bt:=oM;have jb:w.heap.size<aq.heap.size:=oM;have xt:=bZ t0;obtain ⟨es,bK⟩:=xE (Ev.mby (X57 env Fi) t0 bD);rw[←bK];unfold Ev.mby at bK;have p1:=hD (kw6 t0.length bD oM oM aq);unfold khl at p1;clear aD af cj;go_enter func131,ntmps131;go_upto_region 1 with (fail);rw[←cd.o];clear cd;obtain ⟨s0,s1⟩:=b7.o aq a7.o;by_cases jw:bD<0
 .rw[ua1 jw] at p1 bK;have T7:=();exact kh8
 .rw[ua0 jw] at p1 bK;by_cases pu:0<t0.length∧Oz.mab / t0.length<bD
  .rw[ua1 pu] at bK;rw[ua1 ⟨(by have:=pu.1;omega),pu.2⟩] at p1;have T8:=();exact kh8
  .rw[ua0 pu] at bK;rw[ua0 (fun h=>pu ⟨by have:=h.1;omega,h.2⟩)] at p1;obtain ⟨P,cZ⟩:=xE ((t0.length:Int)*bD);rw[←cZ] at p1 bK;have d6:((X57 env Fi).n:Int)=3000:=rfl;have vZ:(X57 env Fi).c=Z:=rfl;rw[d6,vZ] at bK;by_cases gs:(3000:Int)<P
   .rw[ua1 gs] at bK;have aL:decide ((3000:Int)<P)=K:=ub3 gs;exact kh8
   .rw[ua0 gs] at bK;have aL:decide ((3000:Int)<P)=J:=ua5 gs;obtain ⟨m,rfl⟩:∃ m:Nat,bD=(m:Int):=⟨bD.toNat,oM⟩;obtain ⟨cY,iD⟩:=xE (t0.length*m);have LX:P=(cY:Int):=(by rw[cZ,iD,ur9]);rw[ub7] at bK;obtain ⟨pE,qu⟩:=xE ((if t0.length=0 then [] else Ev.ma6 t0 m));rw[←qu] at bK
    have eE:pE.length≤3000:=by
     rw[qu];split
     .exact ud1 _
     .rw[kjq,ut4,←iD];omega
    have LY:es=Ev.maG (X57 env Fi) pE:=(by rw[bK];unfold Ev.maG;rw[ua1 (show pE.length≤(X57 env Fi).n from eE)]);obtain ⟨fz,LZ,L0,l9⟩:=hd4 LY qu LX iD;clear bK LY cZ qu LX pu d6 vZ iD;go_wp2_with fail;refine p1.o.mono ?_;rintro cG aK ⟨rfl,bv⟩;have cA:=bT a7 bv;have ih:=hD (dv.o.below bv dv.o.lt);have Ad:w.heap.size<aK.heap.size:=(by have:=bv.size;omega);clear bv p1 s0 s1;go_upto_block 1 with (fail);go_cut [11] (fun v wc=>v=Q ⟨pE.toArray⟩∧aK=wc)
    case first=>
     go_wp2_with fail;go_loopg [11] (m+2) (fun f v wr=>∃(j:Nat),v=Q ⟨(Ev.ma6 t0 j).toArray⟩∧j≤m∧m<j+f∧(t0.length=0→j=0)∧aK=wr)
     case atStart=>exact ⟨0,rfl,ud1 _,oM,fun _=>rfl,rfl⟩
     case round=>
      obtain ⟨j,rfl,aS,qY,ec,rfl⟩:=hrel;obtain ⟨f,rfl⟩:=xS gk;have az:=kjq t0 j;have Ai:=L0.o;have bj:=l9.o;have G8:(ByteArray.mk (Ev.ma6 t0 j).toArray).size=j*t0.length:=(by rw[←az];simp[ByteArray.size]);by_cases bG:j*t0.length<cY
      .have Ii:j<m:=by
        rcases ug1 j m with h|h
        .exact h
        .have:=up6 t0.length h;rw[ut4 j,bj] at bG;omega
       have hm:0<t0.length:=by
        rcases ul5 t0.length with h|h
        .rw[h,Nat.mul_zero] at bG;rw[h,un4] at bj;omega
        .exact h
       have qe:j*t0.length≤3000:=oM;obtain ⟨L1,wv⟩:=xE (j*t0.length);rw[←wv] at G8 az bG qe;have By:=krN prog (Ev.ma6 t0 j) t0 oM;rw[ko9] at By;have cU:(L1:Int)<P:=oM;clear Ai bj az wv;go_wp2_with fail;go_roundg f
       case measure=>omega
       case rel=>exact ⟨j+1,rfl,oM,oM,fun h=>by omega,rfl⟩
      .have eI:=up6 t0.length aS;have C3:j*t0.length=t0.length*m:=by rw[ut4 j] at bG ⊢;rw[bj] at bG;omega
       have G9:Ev.ma6 t0 j=pE:=by
        rw[LZ.o];split
        .rename_i aD;rw[ec aD];rfl
        .rename_i aD;have:j=m:=(by rw[ut4] at C3;exact Nat.eq_of_mul_eq_mul_left oM C3);rw[this]
       have cU:¬((j*t0.length:Nat):Int)<P:=(by rw[C3,←bj,Ai];omega);have T9:(ByteArray.mk pE.toArray).size=j*t0.length:=(by rw[←G9];exact G8);obtain ⟨L1,wv⟩:=xE (j*t0.length);rw[←wv] at T9 cU;rw[G9];clear Ai bj az eI C3 G9 G8 bG wv;go_wp2_with fail;go_meet
       case rel=>exact ⟨rfl,rfl⟩
    case rest=>obtain ⟨rfl,rfl⟩:=hcut;have a8:=hD (kd8 pE env Fi (fun _=>False) aK oM);rw[←fz.o] at a8;clear fz LZ L0 eE;have Ua:=();exact kd3
def kxg (g bt bP:Nat) (cj:2≤bt) (t0:List UInt8) (bD:Int) (env:List (List UInt8×List UInt8)) (Fi:Ev.Fi) (w:O) (F:Nat→Prop) (hg:g<w.heap.size) (aD:w.cell? ⟨g,3,Z⟩=N (Q ⟨t0.toArray⟩)) (af:w.cell? ⟨g,6,Z⟩=N (I U bD)) (cE:t0.length≤3000):
 L prog 131 #[Q ⟨#[108,105,110,101]⟩,D (N ⟨g,0,Z⟩) bt bP] w (kao w F (Ev.more (X57 env Fi) Ev.mbQ [.txt t0, .num bD])):=by
 have nt:=();exact kiC
def kxd (g bt bP:Nat) (cj:3≤bt) (t0:List UInt8) (dA:Option ae) (bx:List (Int×Int)) (aM:Nat) (dP:Int) (G:Nat→Prop) (env:List (List UInt8×List UInt8)) (Fi:Ev.Fi) (w:O) (F:Nat→Prop) (hg:g<w.heap.size) (aD:w.cell? ⟨g,3,Z⟩=N (Q ⟨t0.toArray⟩)) (af:w.cell? ⟨g,9,Z⟩=N (D dA bx.length aM)) (ao:w.cell? ⟨g,11,Z⟩=N (I U dP)) (nA:SpV w G dA bx) (cE:t0.length≤3000) (ew:bx.length≤100000):
 L prog 131 #[Q ⟨#[112,105,99,107]⟩,D (N ⟨g,0,Z⟩) bt bP] w (kao w F (Ev.more (X57 env Fi) Ev.mbO [.txt t0, .sps bx, .num dP])):=by
 have la:=();exact yq2
def kin (h:P:=by have Ub:=();exact kcR):=h
def kua (A:Option ae) (n c j:Nat) (aS:j≤c) (W:O):(Instr.slice 38 (D A n c) Z (N (I U (j:Int))) Z).run prog W= .ok (.slice (if c=0 then A else A.map (·.add (0*2))) j c) W:=by rw[run_slice_h W 38 A n c kkG .i64 j oM oM,ki6];rfl
theorem kt0 {w:O} {G:Nat→Prop} {A:Option ae} {l:List (Int×Int)} (h:SpV w G A l) (c j:Nat):SpV w G (if c=0 then A else A.map (·.add (0*2))) (l.take j):=by
 cases l with
 |nil=>rw[List.take_nil];exact SpV.nil _ _ _
 |cons x l=>
  obtain ⟨b,o,rfl,af⟩:=h.2 (by simp)
  have:(if c=0 then N (⟨b,o,Z⟩:ae) else (N (⟨b,o,Z⟩:ae)).map (·.add (0*2)))=N ⟨b,o,Z⟩:=by
   split
   .rfl
   .rw[ue5,kb8,un4,uh4]
  rw[this];exact h.take j
def kxm {l l':List (Int×Int)} {k:Nat} {x:Int×Int} (aA:l[k]? =N x):(l.take (k+1)).filter (fun x=>decide (x∉l'))=(l.take k).filter (fun x=>decide (x∉l'))++if x∈l' then [] else [x]:=by rw[ue0,aA,List.filter_append];congr 1;by_cases h:x∈l' <;> simp[h]
def kxb (g bt bP:Nat) (cj:1≤bt) (t0:List UInt8) (w:O) (F:Nat→Prop) (hg:g<w.heap.size) (aD:w.cell? ⟨g,3,Z⟩=N (Q ⟨t0.toArray⟩)) (cE:t0.length≤3000):
 L prog 131 #[Q ⟨#[114,111,119,115]⟩,D (N ⟨g,0,Z⟩) bt bP] w (kao w F (Ev.ma8 (Ev.maX t0))):=by
 have xB:=();exact kmq
def kw9 (g bt bP:Nat) (cj:2≤bt) (t0:List UInt8) (df bD:Int) (w:O) (F:Nat→Prop) (hg:g<w.heap.size) (aD:w.cell? ⟨g,3,Z⟩=N (Q ⟨t0.toArray⟩)) (af:w.cell? ⟨g,1,Z⟩=N (I U df)) (ao:w.cell? ⟨g,6,Z⟩=N (I U bD)):
 L prog 131 #[Q ⟨#[115,112,97,110]⟩,D (N ⟨g,0,Z⟩) bt bP] w (kao w F (if Ev.inV df bD Oz.mab then .ok (.sps [(df,bD)]) else .error (N 1))):=by
 have xC:=();exact yq2
def kw7 (g bt bP:Nat) (cj:2≤bt) (t0:List UInt8) (fB dA:Option ae) (b6 bx:List (Int×Int)) (aN aM:Nat) (ju lF:Nat→Prop) (w:O) (F:Nat→Prop) (hg:g<w.heap.size) (aD:w.cell? ⟨g,3,Z⟩=N (Q ⟨t0.toArray⟩)) (af:w.cell? ⟨g,4,Z⟩=N (D fB b6.length aN)) (ao:w.cell? ⟨g,9,Z⟩=N (D dA bx.length aM)) (mL:SpV w ju fB b6) (mM:SpV w lF dA bx) (md:b6.length≤100000) (ew:bx.length≤100000) (hU:SmL b6) (gZ:SmL bx):
 L prog 131 #[Q ⟨#[119,105,116,104,105,110]⟩,D (N ⟨g,0,Z⟩) bt bP] w (kao w F (.ok (.sps (Ev.mbc Oz.maI b6 bx 0)))):=by
 have Uc:=();exact kin
def kxe (g bt bP:Nat) (cj:2≤bt) (t0:List UInt8) (fB dA:Option ae) (b6 bx:List (Int×Int)) (aN aM:Nat) (ju lF:Nat→Prop) (w:O) (F:Nat→Prop) (hg:g<w.heap.size) (aD:w.cell? ⟨g,3,Z⟩=N (Q ⟨t0.toArray⟩)) (af:w.cell? ⟨g,4,Z⟩=N (D fB b6.length aN)) (ao:w.cell? ⟨g,9,Z⟩=N (D dA bx.length aM)) (mL:SpV w ju fB b6) (mM:SpV w lF dA bx) (md:b6.length≤100000) (ew:bx.length≤100000) (hU:SmL b6) (gZ:SmL bx):
 L prog 131 #[Q ⟨#[111,118,101,114]⟩,D (N ⟨g,0,Z⟩) bt bP] w (kao w F (.ok (.sps (Ev.mbc Oz.mbz b6 bx 0)))):=by
 exact kin
def kxl (g bt bP:Nat) (cj:3≤bt) (t0:List UInt8) (fB dA:Option ae) (b6 bx:List (Int×Int)) (aN aM:Nat) (ju lF:Nat→Prop) (dP:Int) (w:O) (F:Nat→Prop) (hg:g<w.heap.size) (aD:w.cell? ⟨g,3,Z⟩=N (Q ⟨t0.toArray⟩)) (af:w.cell? ⟨g,4,Z⟩=N (D fB b6.length aN)) (ao:w.cell? ⟨g,9,Z⟩=N (D dA bx.length aM)) (av:w.cell? ⟨g,11,Z⟩=N (I U dP)) (mL:SpV w ju fB b6) (mM:SpV w lF dA bx) (md:b6.length≤100000) (ew:bx.length≤100000) (hU:SmL b6) (gZ:SmL bx):
 L prog 131 #[Q ⟨#[97,102,116,101,114]⟩,D (N ⟨g,0,Z⟩) bt bP] w (kao w F (if dP<0 then .error (N 1) else .ok (.sps (Ev.mbc Ev.mbK b6 bx dP)))):=by
 have L2:=();exact kiC
def kw8 (g bt bP:Nat) (cj:2≤bt) (t0:List UInt8) (fB dA:Option ae) (b6 bx:List (Int×Int)) (aN aM:Nat) (ju lF:Nat→Prop) (w:O) (F:Nat→Prop) (hg:g<w.heap.size) (aD:w.cell? ⟨g,3,Z⟩=N (Q ⟨t0.toArray⟩)) (af:w.cell? ⟨g,4,Z⟩=N (D fB b6.length aN)) (ao:w.cell? ⟨g,9,Z⟩=N (D dA bx.length aM)) (mL:SpV w ju fB b6) (mM:SpV w lF dA bx) (md:b6.length≤10000) (ew:bx.length≤10000):
 L prog 131 #[Q ⟨#[117,110,105,111,110]⟩,D (N ⟨g,0,Z⟩) bt bP] w (kao w F (Ev.ma8 (Ev.mbx b6 bx))):=by
 have t7:=();exact kin
def kxi (g bt bP:Nat) (cj:2≤bt) (t0:List UInt8) (fB:Option ae) (b6:List (Int×Int)) (aN:Nat) (bD:Int) (ju:Nat→Prop) (w:O) (F:Nat→Prop) (hg:g<w.heap.size) (aD:w.cell? ⟨g,3,Z⟩=N (Q ⟨t0.toArray⟩)) (af:w.cell? ⟨g,4,Z⟩=N (D fB b6.length aN)) (ao:w.cell? ⟨g,6,Z⟩=N (I U bD)) (el:∀ i,ju i→i<w.heap.size) (Ng:∀ i,ju i→F i) (mL:SpV w ju fB b6) (nn:b6.length≤aN) (md:b6.length≤100000):
 L prog 131 #[Q ⟨#[102,105,114,115,116]⟩,D (N ⟨g,0,Z⟩) bt bP] w (kao w F (Ev.ma3 b6 bD)):=by
 have nu:=();exact kiC
def kxf (g bt bP:Nat) (cj:2≤bt) (t0:List UInt8) (fB dA:Option ae) (b6 bx:List (Int×Int)) (aN aM:Nat) (ju lF:Nat→Prop) (w:O) (F:Nat→Prop) (hg:g<w.heap.size) (aD:w.cell? ⟨g,3,Z⟩=N (Q ⟨t0.toArray⟩)) (af:w.cell? ⟨g,4,Z⟩=N (D fB b6.length aN)) (ao:w.cell? ⟨g,9,Z⟩=N (D dA bx.length aM)) (mL:SpV w ju fB b6) (mM:SpV w lF dA bx) (md:b6.length≤100000) (ew:bx.length≤100000):
 L prog 131 #[Q ⟨#[109,105,110,117,115]⟩,D (N ⟨g,0,Z⟩) bt bP] w (kao w F (.ok (.sps (b6.filter fun x=>decide (x∉bx))))):=by
 obtain ⟨aq,aQ⟩:=xE (w.alloc (y #[I .i64 0,I U 0,V J,Q ⟨#[]⟩,D Z 0 0] 40));have j0:=bM aQ;have c4:=bA aQ;have fy:=wS aQ;obtain ⟨dv,a7,cd⟩:=hd3 j0 c4 aQ;clear j0 c4 aQ;have b7:Hz (∀ W,H w w W→W.cell? ⟨g,3,Z⟩=N (Q ⟨t0.toArray⟩)∧W.cell? ⟨g,4,Z⟩=N (D fB b6.length aN)∧W.cell? ⟨g,9,Z⟩=N (D dA bx.length aM)):=hD (fun W ak=>⟨(ak.cell (p:=⟨g,3,Z⟩) hg).trans aD,(ak.cell (p:=⟨g,4,Z⟩) hg).trans af,(ak.cell (p:=⟨g,9,Z⟩) hg).trans ao⟩);have gh:(0:Int)<(bt:Int):=oM;have hw:0<bt:=oM;have e2:(1:Int)<(bt:Int):=oM;have oL:1<bt:=oM;have jb:w.heap.size<aq.heap.size:=oM;have gY:=hD mL;have nK:=hD mM;obtain ⟨eX,cM,hi0,hi1,hi2⟩:=ug6 keV;obtain ⟨dc,jP,jQ,jR⟩:=hd4 cM hi0 hi1 hi2;clear mL mM cM hi0 hi1 hi2 fy;clear aD af ao cj;go_enter func131,ntmps131;go_upto_region 1 with (fail);rw[←cd.o];clear cd;obtain ⟨s0,s1,s2⟩:=b7.o aq a7.o;go_wp2_with fail;clear s0 s1 s2;go_loopg [15,16] (b6.length+1) (fun f v nW wr=>∃(k:Nat) (out:List (Int×Int)) (dF:Option ae) (eB:Nat),nW=I U k∧v=D dF out.length eB∧k≤b6.length∧b6.length<k+f∧out.length≤k∧Hz (out=(b6.take k).filter (fun x=>decide (x∉bx)))∧Hz (wr.ownsRow aq 91 2 (D dF out.length eB) out.length (sgC out))∧Hz (H aq aq wr))
 case atStart=>exact ⟨0,[],Z,0,rfl,rfl,oM,oM,nR,hD rfl,hD ⟨rfl, .inl ⟨rfl,rfl⟩⟩,hD (ub5 _ _)⟩
 case round=>
  obtain ⟨k,out,dF,eB,rfl,rfl,aw,fo,q0,bq,dB,aV⟩:=hrel;obtain ⟨f,rfl⟩:=xS gk;have ep:=hD (a7.o.trans (aV.o.mono a7.o.size));obtain ⟨s0,s1,s2⟩:=b7.o wr ep.o;by_cases bG:k<b6.length
  .obtain ⟨x,aA⟩:=xG b6 bG;obtain ⟨fj,oa,rfl, -,e0,a0,aY⟩:=gY.o.at_ aA;have cg:=kxm (l':=bx) aA;rw[←bq.o] at cg;have gv:=hD cg;have pZ:=hD (kqz bx x dA aM wr.drew lF (nK.o.below ep.o.drew (G:=lF) (fun _ h=>h)) ew);obtain ⟨r,am⟩:=xE (decide (x∈bx));rw[←am] at pZ;have a1:=hD am;obtain ⟨dJ,eC⟩:=x;dsimp only at a0 aY pZ;have bi:=(ep.o.cell (p:=⟨fj,oa+k*2,Z⟩) e0).trans a0;have aW:=(ep.o.cell (p:=⟨fj,oa+k*2+1,Z⟩) e0).trans aY;have cU:(k:Int)<(b6.length:Int):=oM;have bE:=nN k;have c2:k<b6.length:=bG;have pf:aq.heap.size≤wr.heap.size:=aV.o.size;clear aA cg bq am;go_upto_region 53 with (fail);refine ue4 ?_;refine ud6 (S:=(fun w'=>w'.cell? ⟨g,4,Z⟩=N (D (N ⟨fj,oa,Z⟩) b6.length aN)∧w'.cell? ⟨g,9,Z⟩=N (D dA bx.length aM)∧w'.cell? ⟨fj,oa+k*2,Z⟩=N (I U dJ)∧w'.cell? ⟨fj,oa+k*2+1,Z⟩=N (I U eC))) kR (And.intro s1 (And.intro s2 (And.intro bi aW))) (fun ay=>?_);exact kfp
  .obtain rfl:k=b6.length:=oM;have aG:=bq.o;rw[uf2] at aG;have au:=kfM dB.o rfl;have hwlr:w.heap.size<wr.heap.size:=(by have:=aV.o.size;omega);have a8:=hD (kdQ dF out eB au.2 _ wr au.1);rw[aG] at a8;have pJ:Hz (L prog 128 #[D dF out.length eB] wr (kao wr (fun i=>aq.heap.size≤i) (.ok (.sps (b6.filter fun x=>decide (x∉bx)))))):=hD (by rw[aG];exact a8.o);have L3:=hD (dv.o.below aV.o dv.o.lt);have Ud:Hz (∀ i,aq.heap.size≤i→i≠w.heap.size∧(F i∨w.heap.size≤i)):=hD (fun i hi=>⟨oM, .inr oM⟩);clear aG au bq a8;go_wp2_with fail;refine pJ.o.mono ?_;rintro cG c7 ⟨ck,j3,rfl,cF⟩;obtain ⟨cy,cv,cr,t9,ci,bX,c9,dM,ff,rfl⟩:=cF.form;have dm:=L3.o.below ck L3.o.lt;have Ue:=();exact kbp
end Go.Proofs.YtamhdmkolfmmdaaGreatDoor
