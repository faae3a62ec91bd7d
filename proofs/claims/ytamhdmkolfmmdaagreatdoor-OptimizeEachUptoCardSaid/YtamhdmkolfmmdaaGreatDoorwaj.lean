/- Part aj of the proof. -/
import Derived.Test.YtamhdmkolfmmdaaGreatDoorwai
set_option linter.all false
set_option maxHeartbeats 16000000
set_option maxRecDepth 100000
open Go.Proofs.Tryz
open Go.Value renaming int→I,slice→D,bool→V,string→Q,pointer→ab,agg→aa,tuple→ag,nilIface→aj
open Go.IntKind renaming i64→U,u64→Y,u8→ai
open Go.Obj renaming cells→y
open Go.Ending renaming returned→ac
open Option renaming none→Z,some→N
open Bool renaming true→K,false→J
open Go renaming World→O,Value→C,Calls→L,TypeId→ah,Addr→ae
open Go.RowKit renaming Below→H
namespace Go.Proofs.YtamhdmkolfmmdaaGreatDoor
open Go.RowKit
variable {P:Prop}
def kss (l:List St):Prop:=∀ s∈l,s.text.length≤9223372036854775807
section
variable {l l':List St} (h:kss l) {i:Nat}
include h
end
def kgq (h:P:=by injection am with am;subst am;exact kdM h i (ud1 _)):=h
def khW (h:P:=by rcases keh am with am|am <;> exact kcV h (kaT am).2):=h
def TxB (l:List St):Prop:=∀ s∈l,s.text.length≤4611686018427387903
def kiW {f:Int→Int} {l:List St} (h:TxB l):TxB (l.map (Oz.mapA f)):=fun s al=>by obtain ⟨t,aB,rfl⟩:=uh8.1 al;exact h t aB
def kiZ {a b:List St} (h:TxB a) (k:TxB b):TxB (a++b):=fun s al=>(uh2.1 al).elim (h s) (k s)
def kgV {l:List St} (h:TxB l) (k:Nat):TxB (l.take k):=fun s al=>h s (uk4 al)
def kiY {l:List St} (h:TxB l) (k:Nat):TxB (l.drop k):=fun s al=>h s (up3 al)
def kgW {l:List St} (h:TxB l) (i:Nat):TxB (Oz.mai l i):=kiZ (kgV h i) (kiW (kiY h (i+1)))
def kiX {l:List St} (h:TxB l) (i:Nat) {s:St} (al:s.text.length≤4611686018427387903):TxB (Oz.maq l i s):=kiZ (kgV h i) (fun t aB=>by
 rcases uc7.1 aB with rfl|aB
 .exact al
 .exact kiW (kiY h i) t aB)
def kdM {l:List St} (h:TxB l) (i:Nat) {s:St} (al:s.text.length≤4611686018427387903):TxB (l.set i s):=fun t aB=>by
 rcases uh5 aB with af|rfl
 .exact h t af
 .exact al
def kcV {l l':List St} (h:TxB l) {i j:Nat} (am:Oz.mad l i j=N l'):TxB l':=by
 unfold Oz.mad at am;split at am
 .cases am
 split at am
 .injection am with am;subst am;exact kgV h _
 .injection am with am;subst am;exact kgW (kiZ (kgV h _) (kiW (kiY h _))) i
theorem knY {l:List St} (h:TxB l) (a:Int):(Oz.at_ l a).text.length≤4611686018427387903:=by
 unfold Oz.at_
 cases e:l[a.toNat]? with
 |none=>show (0:Nat)≤_;omega
 |some s=>exact h s (ua4 e)
section
variable {l l':List St} (h:TxB l) {i:Nat}
include h
theorem ktg (am:Oz.maH l i=N l'):TxB l':=by
 unfold Oz.maH at am;split at am
 .cases am
 .exact kcV h am
theorem ktn (am:Oz.maM l i=N l'):TxB l':=by
 unfold Oz.maM at am;dsimp only at am;split at am
 .split at am
  .rename_i a b _ _
   cases gf:Oz.mao (Oz.at_ l i).op a b with
   |none=>rw[gf] at am;cases am
   |some n=>rw[gf] at am;exact kgq
  .cases am
 split at am
 .obtain ⟨_,am⟩:=kaT am;exact kgq
 split at am
 .obtain ⟨_,am⟩:=kaT am;exact kgq
 split at am
 .obtain ⟨mG,am⟩:=kaT am;injection am with am;subst am;simp only[uj0,ue8] at mG;refine kdM h i ?_;show (_++_:List UInt8).length≤_;rw[ua6];omega
 .cases am
theorem kth (am:Oz.maj l i=N l'):TxB l':=by
 unfold Oz.maj at am;dsimp only at am;split at am
 .exact khW
 split at am
 .exact kcV h (kaT am).2
 split at am
 .exact khW
 split at am
 .exact kcV h (kdU am).2
 split at am
 .exact khW
 split at am
 .exact kcV h (kaT am).2
 split at am
 .exact kcV h (kaT am).2
 split at am
 .exact kcV h (kdU am).2
 .cases am
theorem kti (am:Oz.maB l i=N l'):TxB l':=by
 unfold Oz.maB at am;dsimp only at am;split at am
 .cases am
 .cases aA:Oz.mbZ (Oz.at_ l (Oz.arg (Oz.at_ l i) 0).toNat).op (Oz.arg (Oz.at_ l (Oz.arg (Oz.at_ l i) 0).toNat) 0) (Oz.arg (Oz.at_ l (Oz.arg (Oz.at_ l i) 0).toNat) 1) with
  |none=>rw[aA] at am;cases am
  |some x=>
   rw[aA] at am;injection am with am;subst am;refine kgW (kdM h i ?_) _;unfold Oz.mbZ at aA;split at aA
   .injection aA with aA;subst aA;exact ud1 _
   split at aA
   .injection aA with aA;subst aA;exact ud1 _
   split at aA
   .injection aA with aA;subst aA;exact ud1 _
   split at aA
   .injection aA with aA;subst aA;exact ud1 _
   .cases aA
theorem ktp (am:Oz.maZ l i=N l'):TxB l':=by unfold Oz.maZ at am;dsimp only at am;obtain ⟨_,am⟩:=kdU am;exact kgq
theorem ktj (am:Oz.maK l i=N l'):TxB l':=by
 unfold Oz.maK at am;split at am
 .cases am
 split at am
 .cases am
 split at am
 .cases am
 .exact kcV (kdM h _ (by exact knY h _)) am
theorem kto (am:Oz.mav l i=N l'):TxB l':=by
 unfold Oz.mav at am;split at am
 .cases am
 split at am
 .cases am
 split at am
 .cases am
 .injection am with am;subst am;exact kgW (kdM h _ (by exact knY h _)) _
theorem ktm (am:Oz.maP l i=N l'):TxB l':=by
 unfold Oz.maP at am;split at am
 .cases am
 split at am
 .cases am
 split at am
 .cases am
 .exact kcV (kdM h _ (ud1 _)) am
theorem ktk (am:Oz.maD l i=N l'):TxB l':=by
 unfold Oz.maD at am;split at am
 .cases am
 split at am
 .cases am
 split at am
 .cases am
 .exact kcV (kdM (kiX (kiX h _ (ud1 _)) _ (ud1 _)) _ (ud1 _)) am
theorem ktl (am:Oz.maC l i=N l'):TxB l':=by
 unfold Oz.maC at am;split at am
 .cases am
 split at am
 .cases am
 split at am
 .cases am
 .exact kcV (kdM (kiX h _ (ud1 _)) _ (ud1 _)) am
theorem ktf (am:Oz.ma0 l i=N l'):TxB l':=by
 unfold Oz.ma0 at am;split at am
 .cases am
 .injection am with am;subst am;exact kgW h _
end
def kc1 {f:List St→Nat→Option (List St)} {l l':List St} (b5:∀ i,f l i=N l'→TxB l') (h:Oz.maw f l=N l'):TxB l':=by unfold Oz.maw at h;obtain ⟨i,_,Eu⟩:=ui8 h;exact b5 i Eu
theorem kse {l l':List St} (aB:TxB l) {k:Nat} (h:Oz.mam k l=N l'):TxB l':=by
 unfold Oz.mam at h
 cases aw:Oz.mb1[k]? with
 |none=>rw[aw] at h;cases h
 |some f=>exact knv
theorem kAL {l:List St} (aB:TxB l) (k:Nat):TxB (doR k l):=by
 unfold doR
 cases h:Oz.mam k l with
 |none=>exact aB
 |some l'=>exact kse aB h
theorem kpQ:∀(n:Nat) {l:List St},TxB l→TxB (Oz.ofN n l)
 |0,_,h=>h
 |n+1,l,h=>by
  show TxB (match Oz.mba l with|none=>l|some l'=>Oz.ofN n l')
  cases aE:Oz.mba l with
  |none=>exact h
  |some l'=>unfold Oz.mba at aE;obtain ⟨k,_,aw⟩:=ui8 aE;exact kpQ n (kse h aw)
def kwc {l:List St} (h:TxB l):TxB (ofR l):=kpQ _ h
def TxB.ok {l:List St} (h:TxB l):kss l:=fun s al=>uc9 (h s al) dC
def kdx (n:Int):St:=⟨kac,[],n,[],1⟩
def kep:List St:=[kdx 2,kdx 3,⟨[43],[0,1],0,[],1⟩]
def kqg:kaf kep=0:=dC
def kya:ofR kep=[kdx 5]:=kR
def kCg {w:O} {b:Nat} {n:Int} (h:Blk w b 76 #[Q ⟨#[110,117,109,98,101,114]⟩,D Z 0 0,I U n,Q ⟨#[]⟩,I U 1]):ArgPl w (N ⟨b,0,Z⟩) [kdx n]:=fun i s al=>by have hi:i<1:=(gH al).1;obtain rfl:i=0:=oM;injection al with al;subst al;have an:=fun j=>h.cell j;exact ⟨b,0,Z,0,rfl,h.lt,an 0,an 1,an 2,an 3,an 4,⟨rfl,fun h=>by simp[kdx] at h⟩⟩
def kkW (w:O):L prog 8 #[] w (kfm w):=by
 obtain ⟨gU,kB⟩:=xE ((w.alloc (y #[I .i64 0,I U 1] 3)).alloc (y #[Q ⟨#[110,117,109,98,101,114]⟩,D Z 0 0,I U 2,Q ⟨#[]⟩,I U 1,Q ⟨#[110,117,109,98,101,114]⟩,D Z 0 0,I U 3,Q ⟨#[]⟩,I U 1,Q ⟨#[43]⟩,D (N ⟨w,0,Z⟩) 2 2,I U 0,Q ⟨#[]⟩,I U 1] 76));have e0:H w w gU:=(by rw[kB];exact (kax w _).alloc (by simp) _);have aJ:Blk gU (w.heap.size+1) 76 (#[Q ⟨#[110,117,109,98,101,114]⟩,D Z 0 0,I U 2,Q ⟨#[]⟩,I U 1,Q ⟨#[110,117,109,98,101,114]⟩,D Z 0 0,I U 3,Q ⟨#[]⟩,I U 1,Q ⟨#[43]⟩,D (N ⟨w,0,Z⟩) 2 2,I U 0,Q ⟨#[]⟩,I U 1]:Array C):=(by rw[kB];have:=Blk.new (w.alloc (y #[I .i64 0,I U 1] 3)) 76 (#[Q ⟨#[110,117,109,98,101,114]⟩,D Z 0 0,I U 2,Q ⟨#[]⟩,I U 1,Q ⟨#[110,117,109,98,101,114]⟩,D Z 0 0,I U 3,Q ⟨#[]⟩,I U 1,Q ⟨#[43]⟩,D (N ⟨w,0,Z⟩) 2 2,I U 0,Q ⟨#[]⟩,I U 1]:Array C);rw[show (w.alloc (y #[I .i64 0,I U 1] 3)).heap.size=w.heap.size+1 by simp] at this;exact this);have GN:Blk gU w 3 #[I .i64 0,I U 1]:=by rw[kB];exact (Blk.new _ _ _).alloc _
 have LF:ArgPl gU (N ⟨w.heap.size+1,0,Z⟩) kep:=fun i s al=>by
  have hi:i<3:=(gH al).1;have an:i=0∨i=1∨i=2:=oM;have aw:=fun j=>aJ.cell j;rcases an with rfl|rfl|rfl
  .injection al with al;subst al;exact ⟨w.heap.size+1,0,Z,0,rfl,aJ.lt,aw 0,aw 1,aw 2,aw 3,aw 4,⟨rfl,fun h=>by simp[kdx] at h⟩⟩
  .injection al with al;subst al;exact ⟨w.heap.size+1,0,Z,0,rfl,aJ.lt,aw 5,aw 6,aw 7,aw 8,aw 9,⟨rfl,fun h=>by simp[kdx] at h⟩⟩
  .injection al with al;subst al;refine ⟨w.heap.size+1,0,N ⟨w,0,Z⟩,2,rfl,aJ.lt,aw 10,aw 11,aw 12,aw 13,aw 14,⟨rfl,fun _=>⟨_,rfl,GN.lt,fun j u aS=>?_⟩⟩⟩;rw[kb8,ud3,GN.cell,←ue9];exact aS
 obtain ⟨CX,nj,vg⟩:=hd3 (show L prog 9 #[D (N ⟨w.heap.size+1,0,Z⟩) 3 3] gU fun e w'=>H gU gU w'∧∃ A c,e=ac (aa #[D A 3 c])∧PlAt w' (fun i=>gU.heap.size≤i∧i<w'.heap.size) A kep from kn1 (N ⟨w.heap.size+1,0,Z⟩) 3 kep gU LF dC dC) e0 kB;clear e0 aJ GN LF kB;go_enter func8,ntmps8;go_wp2_with fail;rw[←vg.o];refine CX.o.mono ?_;rintro e aq ⟨cm,dA,aM,rfl,gr⟩;have zG:=nj.o.size;have a7:=hD (nj.o.trans (cm.mono zG));have cJ:=a7.o.size;go_upto_region 2 with (fail);obtain ⟨t1,w2⟩:=xE (aq.alloc (y #[D dA 3 aM] 26));rw[←w2];have GO:=bA w2;have tR:=bM w2;have be:=tR.cell 0;simp only[gA,gB] at be;have ev:=hD (a7.o.trans (GO.mono cJ));have TH:=ev.o.size;have nP:PlAt t1 (fun i=>i<t1.heap.size) dA kep:=PlAt.below (gr.keep (w':=aq) (fun _ _ _=>rfl) (nR) (fun i hi _=>hi.2)) GO;have xv:=kpM dA aM kep t1 nP kqg (kpI kqg dC);rw[kya] at xv;have o1:=hD (show L prog 10 #[aa #[D dA 3 aM]] t1 (OfX t1 [kdx 5]) from xv);clear cm gr w2 GO tR nP CX;go_wp2_with fail;refine o1.o.mono ?_;rintro e aF ⟨bs,ap,cap,rfl,ir⟩;have bo:=hD (ev.o.trans (bs.mono TH));have eW:=bo.o.size;go_upto_region 3 with (fail);obtain ⟨wc,pt⟩:=xE (aF.alloc (y #[D (N ⟨ap,0,Z⟩) 1 cap] 26));rw[←pt];have GP:=bA pt;have GQ:=bM pt;obtain ⟨wd,CY⟩:=xE (wc.alloc (y #[Q ⟨#[110,117,109,98,101,114]⟩,D Z 0 0,I U 5,Q ⟨#[]⟩,I U 1] 76));have LG:=bA CY;have qc:=bM CY;have GR:H aF aF wd:=GP.trans (LG.mono GP.size);have sR:=hD (bo.o.trans (GR.mono eW));have TI:=hD (show L prog 13 #[aa #[D (N ⟨ap,0,Z⟩) 1 cap],D (N ⟨wc,0,Z⟩) 1 1] wd (kfm wd) from kyp (N ⟨ap,0,Z⟩) (N ⟨wc,0,Z⟩) cap 1 [kdx 5] wd (PlAt.below (ir.keep (w':=aF) (fun _ _ _=>rfl) (nR) (fun i hi _=>hi.2)) GR) (kCg qc) dC dC);have TJ:=GQ.cell 0;simp only[gA,gB] at TJ;have ov:=GQ.lt;have TK:=hD CY;clear ir bs pt GP GQ CY LG qc GR o1 be;go_wp2_with fail;rw[←TK.o];refine TI.o.mono ?_;rintro e bm ⟨rfl,cQ⟩;have cN:=bT sR cQ;clear cQ;go_wp2_with fail;go_ret;exact ⟨rfl,cN.o⟩
def knf (h:P:=by
 go_upto_region 10 with (fail);refine ue4 ?_;refine ud6 (S:=(fun w'=>w'.cell? ⟨g,3,Z⟩=N (Q ⟨t0.toArray⟩)∧w'.cell? ⟨g,8,Z⟩=N (Q ⟨bb.toArray⟩))) kR (b7.o _ ep.o.drew) (fun ay=>?_);refine tk 0 ay ?_;refine tk 1 ay ?_;refine tk 2 ay ?_;refine tk 3 ay ?_;refine tk 4 ay ?_;refine tk 5 ay ?_;refine tkO 6 (fun aR aJ=>?_);go_simp;refine aJ.out _ _ ay ?_;clear aJ aR;(try simp only[Act.put,ub4,ua8,ua9,gE,gF,gG]);refine tk 7 ay ?_
 first
 |guard_hyp TL;refine tk 8 ay ?_;refine tk 9 ay ?_;refine tk 10 ay ?_;refine tk 11 ay ?_;refine tk 12 ay ?_;refine tk 13 ay ?_;refine tkO 14 (fun aR aJ=>?_);go_simp;refine aJ.out _ _ ay ?_;clear aJ aR;(try simp only[Act.put,ub4,ua8,ua9,gE,gF,gG]);refine tk 15 ay ?_;refine tk 16 ay ?_
  first
  |guard_hyp TS;refine tk 17 ay ?_;refine tk 18 ay ?_;refine tk 19 ay ?_;refine tk 20 ay ?_;refine tk 21 ay ?_;refine tk 22 ay ?_;refine tk 23 ay ?_;refine tk 24 ay ?_;refine tk 25 ay ?_;refine tk 26 ay ?_;refine tk 27 ay ?_;refine tk 28 ay ?_;refine tkO 29 (fun aR aJ=>?_);go_simp;refine aJ.out _ _ ay ?_;clear aJ aR;(try simp only[Act.put,ub4,ua8,ua9,gE,gF,gG]);refine tk 30 ay ?_;refine ug7 kR ?_ _;refine uf0 ?_;(try simp only[Act.put,ub4,ua8,ua9,gE,gF,gG]);clear ay;go_wp2_with fail;go_roundg f
   case measure=>omega
   case rel=>exact ⟨k+1,by go_num,oM,oM,vC,hD aV.o.drew⟩
  |guard_hyp TT;refine tk 17 ay ?_;refine tk 18 ay ?_;refine tk 19 ay ?_;refine tk 20 ay ?_;refine tk 21 ay ?_;refine tk 22 ay ?_;refine tk 23 ay ?_;refine tk 24 ay ?_;refine tk 25 ay ?_;refine tk 26 ay ?_;refine tk 27 ay ?_;refine tk 28 ay ?_;refine tkO 29 (fun aR aJ=>?_);go_simp;refine aJ.out _ _ ay ?_;clear aJ aR;(try simp only[Act.put,ub4,ua8,ua9,gE,gF,gG]);refine tk 30 ay ?_;refine ug7 kR ?_ _;refine uf0 ?_;(try simp only[Act.put,ub4,ua8,ua9,gE,gF,gG]);clear ay;go_wp2_with fail;go_meet
   case rel=>exact ⟨by rw[vC.o],hD aV.o.drew⟩
  |refine ts 17 ay ?_;refine ts 18 ay ?_;refine ts 19 ay ?_;refine ts 20 ay ?_;refine ts 21 ay ?_;refine ts 22 ay ?_;refine ts 23 ay ?_;refine ts 24 ay ?_;refine ts 25 ay ?_;refine ts 26 ay ?_;refine ts 27 ay ?_;refine ts 28 ay ?_;refine ts 29 ay ?_;refine tk 30 ay ?_;refine ug7 kR ?_ _;refine uf0 ?_;(try simp only[Act.put,ub4,ua8,ua9,gE,gF,gG]);clear ay;go_wp2_with fail;go_meet
   case rel=>exact ⟨by rw[vC.o],hD aV.o.drew⟩
 |refine ts 8 ay ?_;refine ts 9 ay ?_;refine ts 10 ay ?_;refine ts 11 ay ?_;refine ts 12 ay ?_;refine ts 13 ay ?_;refine ts 14 ay ?_;refine tk 15 ay ?_;refine tk 16 ay ?_;refine ts 17 ay ?_;refine ts 18 ay ?_;refine ts 19 ay ?_;refine ts 20 ay ?_;refine ts 21 ay ?_;refine ts 22 ay ?_;refine ts 23 ay ?_;refine ts 24 ay ?_;refine ts 25 ay ?_;refine ts 26 ay ?_;refine ts 27 ay ?_;refine ts 28 ay ?_;refine ts 29 ay ?_;refine tk 30 ay ?_;refine ug7 kR ?_ _;refine uf0 ?_;(try simp only[Act.put,ub4,ua8,ua9,gE,gF,gG]);clear ay;go_wp2_with fail;go_meet
  case rel=>exact ⟨by rw[vC.o],hD aV.o.drew⟩):=h
def kic (h:P:=by have TL:=();exact knf):=h
def yq9 (h:P:=by have TM:=();exact kcR):=h
def kmG (h:P:=by have TN:=();exact kcR):=h
def kfq (h:P:=by have TO:=();exact kcR):=h
def kms (h:P:=by have TP:=();exact kcR):=h
def kcQ (h:P:=by have TQ:=();exact kcR):=h
def kBd {a b:List UInt8} {k:Nat} {x aC:UInt8} (aA:a[k]? =N x) (bp:b[k]? =N aC):Ev.mbw (a.drop k) (b.drop k)=if x=aC then Ev.mbw (a.drop (k+1)) (b.drop (k+1))+1 else 0:=by rw[keu aA,keu bp];rfl
def krQ {a b:List UInt8} {k:Nat} (h:a.length≤k∨b.length≤k):Ev.mbw (a.drop k) (b.drop k)=0:=by
 rcases h with h|h
 .rw[ug8 h];rfl
 .rw[ug8 h];cases a.drop k <;> rfl
theorem kr3 (a b:List UInt8):Op.bytesLess a b=Ev.ltV a b:=by
 induction a generalizing b with
 |nil=>cases b <;> rfl
 |cons x a bQ=>
  cases b with
  |nil=>rfl
  |cons aC b=>show (decide (x<aC)||(x==aC&&Op.bytesLess a b))=(decide (x<aC)||(decide (x=aC)&&Ev.ltV a b));rw[bQ];rfl
theorem kxy (a b:List UInt8):(Op.bytesLess a b||a==b)=!Ev.ltV b a:=by
 rw[kr3]
 induction a generalizing b with
 |nil=>
  cases b with
  |nil=>rfl
  |cons aC b=>rfl
 |cons x a bQ=>
  cases b with
  |nil=>rfl
  |cons aC b=>
   show ((decide (x<aC)||(decide (x=aC)&&Ev.ltV a b))||(x::a)==(aC::b))=!(decide (aC<x)||(decide (aC=x)&&Ev.ltV b a));have TR:=bQ b;rcases us8 x.toNat aC.toNat with h|h|h
   .have af:x<aC:=h;have ao:¬aC<x:=fun e=>by have:aC.toNat<x.toNat:=e;omega
    have av:¬aC=x:=fun e=>by rw[e] at h;omega
    simp[af,ao,av]
   .have af:x=aC:=uo0.1 h;subst af;have ao:¬x<x:=fun e=>by have:x.toNat<x.toNat:=e;omega
    simp only[ao,decide_false,uk9,decide_true,Bool.true_and];rw[←TR];congr 1;by_cases av:a=b
    .subst av;simp
    .simp[av]
   .have af:aC<x:=h;have ao:¬x<aC:=fun e=>by have:x.toNat<aC.toNat:=e;omega
    have av:¬x=aC:=fun e=>by rw[e] at h;omega
    simp[af,ao,av]
def krZ (g bt bP:Nat) (cj:1≤bt) (t0:List UInt8) (w:O) (F:Nat→Prop) (hg:g<w.heap.size) (aD:w.cell? ⟨g,3,Z⟩=N (Q ⟨t0.toArray⟩)):
 L prog 83 #[Q ⟨#[108,101,110]⟩,D (N ⟨g,0,Z⟩) bt bP] w (kao w F (Ev.mah t0.length)):=by
 have GT:=();exact kcQ
def krY (g bt bP:Nat) (cj:1≤bt) (fB:Option ae) (b6:List (Int×Int)) (aN:Nat) (w:O) (F:Nat→Prop) (hg:g<w.heap.size) (aD:w.cell? ⟨g,4,Z⟩=N (D fB b6.length aN)):
 L prog 83 #[Q ⟨#[115,105,122,101]⟩,D (N ⟨g,0,Z⟩) bt bP] w (kao w F (Ev.mah b6.length)):=by
 have GU:=();exact kcQ
def kBR (g bt bP:Nat) (cj:1≤bt) (t0:List UInt8) (w:O) (F:Nat→Prop) (hg:g<w.heap.size) (aD:w.cell? ⟨g,3,Z⟩=N (Q ⟨t0.toArray⟩)) (aB:t0.length≤100000):
 L prog 83 #[Q ⟨#[108,105,110,101,115]⟩,D (N ⟨g,0,Z⟩) bt bP] w (kao w F (Ev.mah (Ev.maX t0).length)):=by
 have xw:=();exact kcQ
def kBO (g bt bP:Nat) (cj:2≤bt) (df bD:Int) (w:O) (F:Nat→Prop) (hg:g<w.heap.size) (aD:w.cell? ⟨g,1,Z⟩=N (I U df)) (af:w.cell? ⟨g,6,Z⟩=N (I U bD)) (r0: -1152921504606846976≤df∧df≤1152921504606846976) (d5: -1152921504606846976≤bD∧bD≤1152921504606846976):
 L prog 83 #[Q ⟨#[109,105,110]⟩,D (N ⟨g,0,Z⟩) bt bP] w (kao w F (Ev.mah (min df bD))):=by
 have LH:=();exact kfq
def kBP (g bt bP:Nat) (cj:2≤bt) (df bD:Int) (w:O) (F:Nat→Prop) (hg:g<w.heap.size) (aD:w.cell? ⟨g,1,Z⟩=N (I U df)) (af:w.cell? ⟨g,6,Z⟩=N (I U bD)) (r0: -1152921504606846976≤df∧df≤1152921504606846976) (d5: -1152921504606846976≤bD∧bD≤1152921504606846976):
 L prog 83 #[Q ⟨#[109,97,120]⟩,D (N ⟨g,0,Z⟩) bt bP] w (kao w F (Ev.mah (max df bD))):=by
 have LI:=();exact kfq
def kBX (g bt bP:Nat) (cj:2≤bt) (df bD:Int) (w:O) (F:Nat→Prop) (hg:g<w.heap.size) (aD:w.cell? ⟨g,1,Z⟩=N (I U df)) (af:w.cell? ⟨g,6,Z⟩=N (I U bD)) (r0: -1152921504606846976≤df∧df≤1152921504606846976) (d5: -1152921504606846976≤bD∧bD≤1152921504606846976):
 L prog 83 #[Q ⟨#[43]⟩,D (N ⟨g,0,Z⟩) bt bP] w (kao w F (Ev.mah (df+bD))):=by
 have LJ:=();exact kfq
def kBI (g bt bP:Nat) (cj:2≤bt) (df bD:Int) (w:O) (F:Nat→Prop) (hg:g<w.heap.size) (aD:w.cell? ⟨g,1,Z⟩=N (I U df)) (af:w.cell? ⟨g,6,Z⟩=N (I U bD)) (r0: -1152921504606846976≤df∧df≤1152921504606846976) (d5: -1152921504606846976≤bD∧bD≤1152921504606846976):
 L prog 83 #[Q ⟨#[45]⟩,D (N ⟨g,0,Z⟩) bt bP] w (kao w F (Ev.mah (df-bD))):=by
 have LK:=();exact kfq
def kBN (g bt bP:Nat) (cj:2≤bt) (df bD:Int) (w:O) (F:Nat→Prop) (hg:g<w.heap.size) (aD:w.cell? ⟨g,1,Z⟩=N (I U df)) (af:w.cell? ⟨g,6,Z⟩=N (I U bD)) (r0: -1152921504606846976≤df∧df≤1152921504606846976) (d5: -1152921504606846976≤bD∧bD≤1152921504606846976):
 L prog 83 #[Q ⟨#[42]⟩,D (N ⟨g,0,Z⟩) bt bP] w (kao w F (Ev.maQ df bD)):=by
 have Ag:=();exact kfq
def kBW (g bt bP:Nat) (cj:2≤bt) (dt cL:Bool) (w:O) (F:Nat→Prop) (hg:g<w.heap.size) (aD:w.cell? ⟨g,2,Z⟩=N (V dt)) (af:w.cell? ⟨g,7,Z⟩=N (V cL)):
 L prog 83 #[Q ⟨#[97,110,100]⟩,D (N ⟨g,0,Z⟩) bt bP] w (kao w F (.ok (.tru (dt&&cL)))):=by
 have LL:=();exact kms
def kBK (g bt bP:Nat) (cj:2≤bt) (dt cL:Bool) (w:O) (F:Nat→Prop) (hg:g<w.heap.size) (aD:w.cell? ⟨g,2,Z⟩=N (V dt)) (af:w.cell? ⟨g,7,Z⟩=N (V cL)):
 L prog 83 #[Q ⟨#[111,114]⟩,D (N ⟨g,0,Z⟩) bt bP] w (kao w F (.ok (.tru (dt||cL)))):=by
 exact kms
def kBL (g bt bP:Nat) (cj:1≤bt) (dt:Bool) (w:O) (F:Nat→Prop) (hg:g<w.heap.size) (aD:w.cell? ⟨g,2,Z⟩=N (V dt)):
 L prog 83 #[Q ⟨#[110,111,116]⟩,D (N ⟨g,0,Z⟩) bt bP] w (kao w F (.ok (.tru (!dt)))):=by
 have GV:=();exact kcQ
def kBU (g bt bP:Nat) (cj:2≤bt) (df bD:Int) (dt cL:Bool) (t0 bb:List UInt8) (w:O) (F:Nat→Prop) (hg:g<w.heap.size) (aD:w.cell? ⟨g,1,Z⟩=N (I U df)) (af:w.cell? ⟨g,2,Z⟩=N (V dt)) (ao:w.cell? ⟨g,3,Z⟩=N (Q ⟨t0.toArray⟩)) (av:w.cell? ⟨g,6,Z⟩=N (I U bD)) (bk:w.cell? ⟨g,7,Z⟩=N (V cL)) (cb:w.cell? ⟨g,8,Z⟩=N (Q ⟨bb.toArray⟩)):
 L prog 83 #[Q ⟨#[61,61]⟩,D (N ⟨g,0,Z⟩) bt bP] w (kao w F (.ok (.tru (decide (df=bD∧dt=cL∧t0=bb))))):=by
 exact yq9
def kBM (g bt bP:Nat) (cj:2≤bt) (df bD:Int) (dt cL:Bool) (t0 bb:List UInt8) (w:O) (F:Nat→Prop) (hg:g<w.heap.size) (aD:w.cell? ⟨g,1,Z⟩=N (I U df)) (af:w.cell? ⟨g,2,Z⟩=N (V dt)) (ao:w.cell? ⟨g,3,Z⟩=N (Q ⟨t0.toArray⟩)) (av:w.cell? ⟨g,6,Z⟩=N (I U bD)) (bk:w.cell? ⟨g,7,Z⟩=N (V cL)) (cb:w.cell? ⟨g,8,Z⟩=N (Q ⟨bb.toArray⟩)):
 L prog 83 #[Q ⟨#[33,61]⟩,D (N ⟨g,0,Z⟩) bt bP] w (kao w F (.ok (.tru ((!decide (df=bD∧dt=cL∧t0=bb)))))):=by
 have GW:=();exact yq9
def kBQ (g bt bP:Nat) (cj:2≤bt) (df bD:Int) (t0 bb:List UInt8) (w:O) (F:Nat→Prop) (hg:g<w.heap.size) (aD:w.cell? ⟨g,1,Z⟩=N (I U df)) (af:w.cell? ⟨g,3,Z⟩=N (Q ⟨t0.toArray⟩)) (ao:w.cell? ⟨g,6,Z⟩=N (I U bD)) (av:w.cell? ⟨g,8,Z⟩=N (Q ⟨bb.toArray⟩)):
 L prog 83 #[Q ⟨#[60]⟩,D (N ⟨g,0,Z⟩) bt bP] w (kao w F (.ok (.tru (decide (df<bD)||Ev.ltV t0 bb)))):=by
 exact kmG
def kBS (g bt bP:Nat) (cj:2≤bt) (df bD:Int) (t0 bb:List UInt8) (w:O) (F:Nat→Prop) (hg:g<w.heap.size) (aD:w.cell? ⟨g,1,Z⟩=N (I U df)) (af:w.cell? ⟨g,3,Z⟩=N (Q ⟨t0.toArray⟩)) (ao:w.cell? ⟨g,6,Z⟩=N (I U bD)) (av:w.cell? ⟨g,8,Z⟩=N (Q ⟨bb.toArray⟩)):
 L prog 83 #[Q ⟨#[60,61]⟩,D (N ⟨g,0,Z⟩) bt bP] w (kao w F (.ok (.tru (decide (df≤bD)&&!Ev.ltV bb t0)))):=by
 have t2:=();exact kmG
def kBV (g bt bP:Nat) (cj:2≤bt) (t0 bb:List UInt8) (w:O) (F:Nat→Prop) (hg:g<w.heap.size) (aD:w.cell? ⟨g,3,Z⟩=N (Q ⟨t0.toArray⟩)) (af:w.cell? ⟨g,8,Z⟩=N (Q ⟨bb.toArray⟩)) (aB:t0.length≤100000):
 L prog 83 #[Q ⟨#[99,111,109,109,111,110]⟩,D (N ⟨g,0,Z⟩) bt bP] w (kao w F (Ev.mah (Ev.mbw t0 bb))):=by
 obtain ⟨aq,aQ⟩:=xE (w.alloc (y #[I .i64 0,I U 0,V J,Q ⟨#[]⟩,D Z 0 0] 40));have j0:=bM aQ;have c4:=bA aQ;have fy:=wS aQ;obtain ⟨dv,a7,cd⟩:=hd3 j0 c4 aQ;clear j0 c4 aQ;have b7:Hz (∀ W,H w w W→W.cell? ⟨g,3,Z⟩=N (Q ⟨t0.toArray⟩)∧W.cell? ⟨g,8,Z⟩=N (Q ⟨bb.toArray⟩)):=hD (fun W ak=>⟨(ak.cell (p:=⟨g,3,Z⟩) hg).trans aD,(ak.cell (p:=⟨g,8,Z⟩) hg).trans af⟩);have gh:(0:Int)<(bt:Int):=oM;have hw:0<bt:=oM;have e2:(1:Int)<(bt:Int):=oM;have oL:1<bt:=oM;have xt:=bZ t0;have IM:=bZ bb;obtain ⟨CZ,GX⟩:=xE (Ev.mbw t0 bb);rw[←GX];have GY:=hD GX;clear GX;clear aD af cj;go_enter func83,ntmps83;go_upto_region 1 with (fail);rw[←cd.o];clear cd;go_upto_block 1 with (fail);go_cut [7] (fun v wc=>v=I U CZ∧Hz (H aq aq wc))
 case first=>
  go_wp2_with fail;go_loopg [7] (t0.length+1) (fun f HF wr=>∃ k:Nat,HF=I U k∧k≤t0.length∧t0.length<k+f∧Hz (Ev.mbw (t0.drop k) (bb.drop k)+(k:Int)=CZ)∧Hz (H aq aq wr))
  case atStart=>exact ⟨0,rfl,oM,oM,hD (by rw[ul4,ul4];exact (Int.add_zero _).trans GY.o.symm),hD (ub5 _ _)⟩
  case round=>
   clear GY;obtain ⟨k,rfl,aw,fo,pY,aV⟩:=hrel;obtain ⟨f,rfl⟩:=xS gk;have ep:=hD (a7.o.trans (aV.o.mono a7.o.size));have AQ:=nN k;by_cases aD:k<t0.length
   .have cU:(k:Int)<(t0.length:Int):=oM;by_cases af:k<bb.length
    .have bE:(k:Int)<(bb.length:Int):=oM;obtain ⟨x,aA⟩:=xG t0 aD;obtain ⟨aC,bp⟩:=xG bb af;have g4:∀ w,(Instr.index 9 (Q ⟨t0.toArray⟩) (I U (k:Int))).run prog w= .ok (I ai x.toNat) w:=kaX (P:=prog) underlying9 aA;have hiy:∀ w,(Instr.index 9 (Q ⟨bb.toArray⟩) (I U (k:Int))).run prog w= .ok (I ai aC.toNat) w:=kaX (P:=prog) underlying9 bp;have nS:=pY.o;rw[kBd aA bp] at nS;clear aA bp pY;by_cases oe:x=aC
     .subst oe;rw[ua1 rfl] at nS;have vC:Hz (Ev.mbw (t0.drop (k+1)) (bb.drop (k+1))+((k+1:Nat):Int)=CZ):=hD (by rw[←nS];omega);have bw:((x.toNat:Int)==(x.toNat:Int))=K:=um2 _;clear nS;have TS:=();exact kic
     .rw[ua0 oe,ut2] at nS;have vC:=hD nS;have bw:((x.toNat:Int)==(aC.toNat:Int))=J:=ua2.2 (fun e=>oe (uo0.1 oM));clear nS;have TT:=();exact kic
    .have bE:¬(k:Int)<(bb.length:Int):=oM;have jw:=krQ (a:=t0) (b:=bb) (k:=k) (.inr oM);have nS:=pY.o;rw[jw,ut2] at nS;have vC:=hD nS;clear nS jw pY;exact kic
   .have cU:¬(k:Int)<(t0.length:Int):=oM;have jw:=krQ (a:=t0) (b:=bb) (k:=k) (.inl oM);have nS:=pY.o;rw[jw,ut2] at nS;have vC:=hD nS;clear nS jw pY;exact knf
 case rest=>
 obtain ⟨rfl,aV⟩:=hcut;have l7:=hD (dv.o.below aV.o dv.o.lt);have qF:=hD (a7.o.trans (aV.o.mono a7.o.size));have jb:w.heap.size<wc.heap.size:=(by have:=aV.o.size;omega);have a8:=hD (kcy CZ (fun _=>False) wc);clear aV GY;go_wp2_with fail;refine a8.o.mono ?_;rintro cG c7 ⟨ck,j3,rfl,cF⟩;obtain ⟨cy,cv,cr,t9,ci,bX,c9,dM,ff,rfl⟩:=cF.form;have dm:=l7.o.below ck l7.o.lt;obtain ⟨z0,ca,cI,z3,z4,k0,k1,bS,fp,gy⟩:=kak dm;have cW:=hD (kb1 dm (I U cy) (I U cv) (V cr) (Q t9) (D ci bX c9));have di:=hD (kaR (F:=F) qF.o oM ck cF (fun _ h=>h.elim) (I U cy) (I U cv) (V cr) (Q t9) (D ci bX c9));clear ck cF dm;go_wp2_with fail;obtain ⟨bi,aW,bc,br,bL, -⟩:=kak cW.o;refine ub2 (v:=ag #[aa #[I .i64 cy,I U cv,V cr,Q t9,D ci bX c9],I U dM,V ff]) (by simp[results,results83,go_sem,bi,aW,bc,br,bL]) rfl ?_;exact di.o
def yq7 (h:P:=by
 unfold RxV at au;obtain ⟨A,c,bV,rfl,dx,dU⟩:=au;unfold Rx.size at ax al;obtain ⟨hP,fQ,iQ,b4,dc⟩:=hd5 ax dx dU hF bQ;(first|guard_hyp oB;have dn:((3:Int)==3)=K:=rfl;obtain ⟨aq,aQ⟩:=xE (w.alloc (y #[I .i64 3,I Y aT,I Y aU,I Y aX,I Y a2,I U lo,I U hi,D A ps.length c] 105))|have dn:((kind:Int)==3)=J:=(by simp;omega);obtain ⟨aq,aQ⟩:=xE (w.alloc (y #[I .i64 kind,I Y aT,I Y aU,I Y aX,I Y a2,I U lo,I U hi,D A ps.length c] 105)));have dT:=bR aQ;have c4:=bA aQ;have fy:=wS aQ;have fP:=kat aq (y #[I .i64 0,I Y 0,I Y 0,I Y 0,I Y 0,I U 0,I U 0,D Z 0 0] 105);have mF:=R8.mk0 aq (w.heap.size+1) fy.symm;obtain ⟨aF,bW⟩:=xE (aq.alloc (y #[I .i64 0,I Y 0,I Y 0,I Y 0,I Y 0,I U 0,I U 0,D Z 0 0] 105));rw[←bW] at fP mF;have lu:aF.heap.size=w.heap.size+2:=(by rw[bW];simp;omega);have gi:=dT.below fP dT.lt;have dZ:=c4.trans (fP.mono c4.size);(first|guard_hyp oB;have jI:=kat aF (y #[I .i64 3,I Y aT,I Y aU,I Y aX,I Y a2,I U lo,I U hi,D Z 0 0] 105);have mE:R8 (aF.alloc (y #[I .i64 3,I Y aT,I Y aU,I Y aX,I Y a2,I U lo,I U hi,D Z 0 0] 105)) (w.heap.size+2) (I U 3) (I Y aT) (I Y aU) (I Y aX) (I Y a2) (I U lo) (I U hi) (D Z 0 0):=(by rw[←lu];exact Blk.new aF _ _);obtain ⟨a6,cl⟩:=xE (aF.alloc (y #[I .i64 3,I Y aT,I Y aU,I Y aX,I Y a2,I U lo,I U hi,D Z 0 0] 105))|have jI:=kat aF (y #[I .i64 kind,I Y aT,I Y aU,I Y aX,I Y a2,I U lo,I U hi,D Z 0 0] 105);have mE:R8 (aF.alloc (y #[I .i64 kind,I Y aT,I Y aU,I Y aX,I Y a2,I U lo,I U hi,D Z 0 0] 105)) (w.heap.size+2) (I U kind) (I Y aT) (I Y aU) (I Y aX) (I Y a2) (I U lo) (I U hi) (D Z 0 0):=(by rw[←lu];exact Blk.new aF _ _);obtain ⟨a6,cl⟩:=xE (aF.alloc (y #[I .i64 kind,I Y aT,I Y aU,I Y aX,I Y a2,I U lo,I U hi,D Z 0 0] 105)));rw[←cl] at jI mE;obtain ⟨lW,cX,fX,bU,co,cd,e1,ea⟩:=hd8 mE (gi.below jI gi.lt) (mF.below jI mF.lt) (dZ.trans (jI.mono dZ.size)) gi aQ bW cl;obtain ⟨eX,cM,ds,cJ,eW⟩:=ug6 kf1;obtain ⟨jP,jQ,jR,Ge⟩:=hd4 cM ds cJ eW;have qy:ps.length≤1000000000:=(by have:=kcE ps;omega);clear dx dU hF bQ ax dT c4 fP mF gi dZ jI mE aQ bW cl cM ds cJ eW;go_enter func125,ntmps125;go_upto_region 1 with (fail);rw[←cd.o,←e1.o];have kA:=co.o;obtain ⟨⟨⟨aN,aM⟩,aZ,bC⟩,⟨b1,c5⟩,ct,bI⟩:=kA.cells;go_upto_region 3 with (fail);rw[←ea.o];clear cd e1 ea kA aN aM aZ bC b1 c5 ct bI;have rf:=lW.o.lt;have LM:=cX.o;obtain ⟨⟨⟨aN,aM⟩,aZ,bC⟩,⟨b1,c5⟩,ct,bI⟩:=LM.cells;go_wp2_with fail;first|guard_hyp oB;go_loopg [4] (ps.length+1) (fun f i wr=>∃(k:Nat) (fa:Option ae) (ft:Nat) (vD:List C),i=I U k∧k≤ps.length∧ps.length<k+f∧w.heap.size+3≤wr.heap.size∧Hz (LSt (w.heap.size+3) (D fa k ft) ((kay (ps.take k)).reverse) vD wr)∧Hz (R8 wr (w.heap.size+2) (I U 3) (I Y aT) (I Y aU) (I Y aX) (I Y a2) (I U lo) (I U hi) (D fa k ft))∧Hz (R8 wr w (I U 3) (I Y aT) (I Y aU) (I Y aX) (I Y a2) (I U lo) (I U hi) (D A ps.length c))∧Hz (R8 wr (w.heap.size+1) (I U 0) (I Y 0) (I Y 0) (I Y 0) (I Y 0) (I U 0) (I U 0) (D Z 0 0))∧Hz (H w w wr))|go_loopg [4] (ps.length+1) (fun f i wr=>∃(k:Nat) (fa:Option ae) (ft:Nat) (vD:List C),i=I U k∧k≤ps.length∧ps.length<k+f∧w.heap.size+3≤wr.heap.size∧Hz (LSt (w.heap.size+3) (D fa k ft) (kay (ps.take k)) vD wr)∧Hz (R8 wr (w.heap.size+2) (I U kind) (I Y aT) (I Y aU) (I Y aX) (I Y a2) (I U lo) (I U hi) (D fa k ft))∧Hz (R8 wr w (I U kind) (I Y aT) (I Y aU) (I Y aX) (I Y a2) (I U lo) (I U hi) (D A ps.length c))∧Hz (R8 wr (w.heap.size+1) (I U 0) (I Y 0) (I Y 0) (I Y 0) (I Y 0) (I U 0) (I U 0) (D Z 0 0))∧Hz (H w w wr))
 case atStart=>exact ⟨0,Z,0,[],rfl,oM,oM,oM,hD (by rw[um1,kay];exact LSt.nil _ _),lW,cX,fX,bU⟩
 case round=>
  clear lW cX fX bU rf LM aN aM aZ bC b1 c5 ct bI co;obtain ⟨k,fa,ft,vD,rfl,aw,fo,pf,eg,c1,a1,cf,aV⟩:=hrel;obtain ⟨f,rfl⟩:=xS gk;(first|guard_hyp oB;have m9:((kay (ps.take k)).reverse).length=k:=by rw[List.length_reverse,kfJ,ub8];omega|have m9:(kay (ps.take k)).length=k:=by rw[kfJ,ub8];omega);obtain ⟨⟨⟨aN,aM⟩,aZ,bC⟩,⟨b1,c5⟩,ct,bI⟩:=a1.o.cells;obtain ⟨cT,gd⟩:=xE wr;subst gd;by_cases bG:k<ps.length
  .have TU:=();exact kd0
  .obtain rfl:k=ps.length:=oM;rw[uf2] at eg m9;obtain ⟨⟨⟨be,b8⟩,cn,c0⟩,⟨c3,jA⟩,jc,mT⟩:=c1.o.cells;obtain ⟨⟨⟨z0,ca⟩,cI,z3⟩,⟨z4,z5⟩,lN,lO⟩:=cf.o.free;obtain ⟨⟨⟨cU,bE⟩,c2,j4⟩,⟨mi,kP⟩,wi,wj⟩:=cf.o.cells;(first|guard_hyp oB;have pa:=kas (Kept.refl (fun i=>i=w.heap.size+1) cT) (g:=w.heap.size+1) (.inl rfl) (I U 3) (I Y aT) (I Y aU) (I Y aX) (I Y a2) (I U lo) (I U hi) (D fa ps.length ft);have f4:=hD (cf.o.all (I U 3) (I Y aT) (I Y aU) (I Y aX) (I Y a2) (I U lo) (I U hi) (D fa ps.length ft));have ho:=hD (kcM aV.o (show w.heap.size≤w.heap.size+1 by omega) (I U 3) (I Y aT) (I Y aU) (I Y aX) (I Y a2) (I U lo) (I U hi) (D fa ps.length ft))|have pa:=kas (Kept.refl (fun i=>i=w.heap.size+1) cT) (g:=w.heap.size+1) (.inl rfl) (I U kind) (I Y aT) (I Y aU) (I Y aX) (I Y a2) (I U lo) (I U hi) (D fa ps.length ft);have f4:=hD (cf.o.all (I U kind) (I Y aT) (I Y aU) (I Y aX) (I Y a2) (I U lo) (I U hi) (D fa ps.length ft));have ho:=hD (kcM aV.o (show w.heap.size≤w.heap.size+1 by omega) (I U kind) (I Y aT) (I Y aU) (I Y aX) (I Y a2) (I U lo) (I U hi) (D fa ps.length ft)));have C0:=eg.o.kept pa (fun i af ao e=>by have ek:i=w.heap.size+1:=e;omega);obtain ⟨ci,c9,jk,C1⟩:=kds C0.1;rw[m9] at jk C1;injection jk with af ao av;subst af av;(first|guard_hyp oB;have LN:=hD (show RxV (mae cT (w.heap.size+1) (I U 3) (I Y aT) (I Y aU) (I Y aX) (I Y a2) (I U lo) (I U hi) (D fa ps.length ft)) (fun i=>w.heap.size≤i) (Rx.node 3 aT aU aX a2 lo hi ps).rev [I .i64 3,I Y aT,I Y aU,I Y aX,I Y a2,I U lo,I U hi,D fa ps.length ft] by rw[ko2 (l:=(kay ps).reverse) (ua1 rfl)];unfold RxV;rw[m9];exact ⟨fa,ft,vD,rfl,C1.any (fun i (hi:w.heap.size+3≤i) _=>by show w.heap.size≤i;omega),C0.2.any (fun i hi _=>by have:=hi.1;show w.heap.size≤i;omega)⟩)|have LN:=hD (show RxV (mae cT (w.heap.size+1) (I U kind) (I Y aT) (I Y aU) (I Y aX) (I Y a2) (I U lo) (I U hi) (D fa ps.length ft)) (fun i=>w.heap.size≤i) (Rx.node kind aT aU aX a2 lo hi ps).rev [I .i64 kind,I Y aT,I Y aU,I Y aX,I Y a2,I U lo,I U hi,D fa ps.length ft] by rw[ko2 (l:=kay ps) (ua0 fd)];unfold RxV;rw[m9];exact ⟨fa,ft,vD,rfl,C1.any (fun i (hi:w.heap.size+3≤i) _=>by show w.heap.size≤i;omega),C0.2.any (fun i hi _=>by have:=hi.1;show w.heap.size≤i;omega)⟩));clear pa C0 C1 ao;have TV:=();exact kdJ):=h
def kk5 (w:O) (r:Rx) (e:Ending) (w':O):Prop:=H w w w'∧∃ cs,e=ac (aa cs.toArray)∧RxV w' (fun i=>w.heap.size≤i) r.rev cs
def kk4 (n:Nat):Prop:=∀(r:Rx),r.size≤n→∀(cs:List C) (w:O) (F:Nat→Prop),RxV w F r cs→(∀ i,F i→i<w.heap.size)→r.size≤1000000000→L prog 125 #[aa cs.toArray] w (kk5 w r)
def LSt.front {lo:Nat} {v cH:C} {l:List Rx} {bV cs:List C} {w w':O} {r:Rx} {F:Nat→Prop} (aH:RxVs w (ka8 lo w v) l bV) (bf:w'.ownsRow lo 105 8 cH (1+l.length) (cs++bV)) (aw:∀ i,i<w.heap.size→w'.heap[i]? =w.heap[i]?) (al:w.heap.size≤w'.heap.size) (au:∀ g,cH.ownBlock=N g→w.heap.size≤g)
 (am:RxV w F r cs) (hF:∀ i,F i→i<w.heap.size→lo≤i):LSt lo cH (r::l) (cs++bV) w':=by
 have el:∀ i,i<w.heap.size→lo≤i→ka8 lo w' cH i:=fun i af ao=>⟨ao,ua7 af al,fun e=>by have:=au i e;omega⟩;refine ⟨by rw[uc8,ut8];exact bf,?_⟩;unfold RxVs;exact ⟨cs,bV,rfl,RxV.keep (fun i hi az=>aw i az) al (fun i hi az=>el i az (hF i hi az)) r cs am,RxVs.keep (fun i hi az=>aw i az) al (fun i hi az=>el i az hi.1) l bV aH⟩
def RxV.cell1 {w:O} {F:Nat→Prop} {r:Rx} {cs:List C} (h:RxV w F r cs):∀ u∈cs,u.oneCell'=K:=by obtain ⟨kd,a0,aY,bh,a3,lo,hi,A,n,c,rfl⟩:=h.eight;simp[Value.oneCell']
theorem RxVs.cell1 {w:O} {F:Nat→Prop} :∀ {l:List Rx} {cs:List C},RxVs w F l cs→∀ u∈cs,u.oneCell'=K
 |[],_,h=>by unfold RxVs at h;subst h;intro u aI;cases aI
 |r::e7,_,h=>by
  unfold RxVs at h;obtain ⟨cs,lG,rfl,ao,av⟩:=h;intro u aI;rcases uh2.1 aI with h|h
  .exact ao.cell1 u h
  .exact av.cell1 u h
def kuW {w:O} {p:ae} (u:C):Kept (isG p.block) w (w.setCell p u):=(Kept.refl (isG p.block) w).setCell (.inl rfl) u
def ko2 {k aT aU aX a2:Nat} {lo hi:Int} {ps l:List Rx} (h:(if k=3 then (kay ps).reverse else kay ps)=l):(Rx.node k aT aU aX a2 lo hi ps).rev= .node k aT aU aX a2 lo hi l:=by rw[Rx.rev,h]
def kyO (n:Nat) (bQ:kk4 n) (aT aU aX a2:Nat) (lo hi:Int) (ps:List Rx) (ax:(Rx.node 3 aT aU aX a2 lo hi ps).size≤n+1) (cs:List C) (w:O) (F:Nat→Prop) (au:RxV w F (Rx.node 3 aT aU aX a2 lo hi ps) cs) (hF:∀ i,F i→i<w.heap.size) (al:(Rx.node 3 aT aU aX a2 lo hi ps).size≤1000000000):
 L prog 125 #[aa cs.toArray] w (kk5 w (Rx.node 3 aT aU aX a2 lo hi ps)):=by
 have oB:=();exact yq7
def kyN (n:Nat) (bQ:kk4 n) (kind:Nat) (fd:kind≠3) (aT aU aX a2:Nat) (lo hi:Int) (ps:List Rx) (ax:(Rx.node kind aT aU aX a2 lo hi ps).size≤n+1) (cs:List C) (w:O) (F:Nat→Prop) (au:RxV w F (Rx.node kind aT aU aX a2 lo hi ps) cs) (hF:∀ i,F i→i<w.heap.size) (al:(Rx.node kind aT aU aX a2 lo hi ps).size≤1000000000):
 L prog 125 #[aa cs.toArray] w (kk5 w (Rx.node kind aT aU aX a2 lo hi ps)):=by
 exact yq7
theorem kkh:∀(n:Nat),kk4 n
 |0=>fun r ax=>by have:=r.size_pos;omega
 |n+1=>by
  intro r ax cs w F au hF al;obtain ⟨k,aT,aU,aX,a2,lo,hi,ps⟩:=r;by_cases av:k=3
  .subst av;exact kyO n (kkh n) aT aU aX a2 lo hi ps ax cs w F au hF al
  .exact kyN n (kkh n) k av aT aU aX a2 lo hi ps ax cs w F au hF al
def F57:Ev.Fi:=fun p t=>match ka4 p with
 |none=> .error (some (kbV p))
 |some r=>if 256<Rg.mbs r false∨256<Rg.mbs r.rev true then .error (some 9) else if 120<t.length then .error none else .ok (kfe r t)
def kce (op:List UInt8) (r:Ev.Re (List (Int×Int))):Ev.Re Ev.Va:=r.bind fun l=>if op=kb5 then Ev.mah l.length else if op=kb4 then .ok (.tru (decide (0<l.length))) else .ok (.sps l)
def ky9 {p:List UInt8} (h:ka4 p=Z):kbV p≠0:=by
 unfold ka4 at h;unfold kbV;split at h
 .rename_i ak;rw[ua1 ak];decide
 .rename_i ak;rw[ua0 ak];split at h
  .rename_i aO;rw[aO];decide
  .rename_i r aO;rw[aO];dsimp only;split at h
   .cases h
   .rename_i b5;rw[ua0 b5];decide
def ky7 {p:List UInt8} {r:Rx} (h:ka4 p=N r):kbV p=0∧r.fmd∧r.size≤1000000000∧r.pos≤64:=by
 unfold ka4 at h;unfold kbV;split at h
 .cases h
 .rename_i ak;rw[ua0 ak];split at h
  .cases h
  .rename_i q aO;rw[aO];dsimp only;split at h
   .rename_i b5;injection h with h;subst h;rw[ua1 b5];unfold kbw at aO;split at aO
    .rename_i hb k aG;split at aO
     .injection aO with aO;subst aO;have o9:=kkD (T:=p) (p.length+1) 0 _ _ (ud1 _) aG;unfold Rx.fits at b5;simp only[uj0,ue8] at b5;exact ⟨rfl,o9.1,oM,b5.1.2⟩
     .cases aO
    .cases aO
   .cases h
theorem kg9 (op t p:List UInt8) (ba:op=kb5∨op=kb4∨op=kbT) (w:O) (F:Nat→Prop) (cj:NoneAt w) (aO:p.length≤4611686018427387904) (aB:t.length≤9223372036854775807):
 L prog 82 #[Q ⟨op.toArray⟩,Q ⟨t.toArray⟩,Q ⟨p.toArray⟩] w (kao w F (kce op (F57 p t))):=by
 have dN:=bZ t;obtain ⟨es,bK⟩:=xE (kce op (F57 p t));rw[←bK];obtain ⟨aq,aQ⟩:=xE (w.alloc (y #[I .i64 0,I U 0,V J,Q ⟨#[]⟩,D Z 0 0] 40));have j0:=bM aQ;have c4:=bA aQ;have fy:=wS aQ;obtain ⟨dv,a7,cd⟩:=hd3 j0 c4 aQ;clear j0 c4 aQ;obtain ⟨GZ,GH,fz⟩:=hd3 (kzb p aq aO (cj.below a7.o cj.1)) ba bK;clear cj aO ba bK;go_enter func82,ntmps82;go_upto_region 1 with (fail);rw[←cd.o];clear cd;go_wp2_with fail;refine GZ.o.mono ?_;rintro cG aF ⟨⟨cs,rfl,p2⟩,bs⟩;have lu:w.heap.size+1≤aF.heap.size:=by rw[←fy];exact bs.size
 cases hpr:ka4 p with
 |none=>rw[hpr] at p2;unfold kff at p2;subst p2;have gh:=ky9 hpr;have G0:F57 p t= .error (N (kbV p)):=(by unfold F57;rw[hpr]);obtain ⟨M,h3⟩:=xE (kbV p);rw[←h3] at gh G0;have ey:=fz.o;rw[G0,show kce op (.error (N M))= .error (N M) from rfl] at ey;subst ey;obtain ⟨a6,cl⟩:=xE (aF.alloc (y zeroC.toArray 105));have b3:=bA cl;have t6:=bs.trans (b3.mono bs.size);have fX:=hD (dv.o.below t6 dv.o.lt);have bU:=bT a7 t6;have jb:w.heap.size<a6.heap.size:=(by have:=t6.size;omega);have ea:Hz (a6=aF.alloc (y #[I .i64 0,I Y 0,I Y 0,I Y 0,I Y 0,I U 0,I U 0,D Z 0 0] 105)):=hD cl;have a8:=hD (kcS M gh (fun _=>False) a6);have bw:(M != 0)=K:=(by simp;exact gh);have LO:(kbV p:Int)=M:=h3.symm;clear hpr G0 h3 gh b3 cl t6 bs GZ fz;unfold zeroC;rw[LO];clear LO;go_upto_region 2 with (fail);rw[←ea.o];clear ea;have TW:=();exact kd3
 |some r=>
  rw[hpr] at p2;unfold kff at p2;obtain ⟨eU,mY⟩:=p2;obtain ⟨gh,o9,p0,hm⟩:=ky7 hpr;have rz:Hz (F57 p t=if 256<Rg.mbs r J∨256<Rg.mbs r.rev K then .error (N 9) else if 120<t.length then .error Z else .ok (kfe r t)):=hD (by unfold F57;rw[hpr]);obtain ⟨kd,a0,aY,bh,a3,lo,hi,A,n,c9,rfl⟩:=eU.eight;have ol:RxOk aF (fun i=>i<aF.heap.size) r _:=⟨eU.keep (fun _ _ _=>rfl) (nR) (fun i hi _=>hi.2),fun i hi=>hi,o9,mY,p0⟩;obtain ⟨a6,cl⟩:=xE (aF.alloc (y #[I .i64 kd,I Y a0,I Y aY,I Y bh,I Y a3,I U lo,I U hi,D A n c9] 105));have b3:=bA cl;have e8:=bR cl;have Ah:=ol.below b3 (nR);have t6:=bs.trans (b3.mono bs.size);obtain ⟨LP,ea,cX,LQ⟩:=hd4 t6 cl e8 Ah;have TX:aq.heap.size≤a6.heap.size:=t6.size;obtain ⟨TY,G1⟩:=xE aF.heap.size;rw[←G1] at cX;have xg:=hD G1;have hgRl:w.heap.size<TY:=oM;have G2:=hD (kqC r _ a6 _ Ah hm J);have qh:=hD (fun (cs:List C) (W:O) (G:Nat→Prop) (h:RxOk W G r.rev cs)=>kqC r.rev cs W G h (by rw[Rx.mch];exact hm) K);obtain ⟨G3,G4,zt⟩:=hd3 (fun (W:O) (ak:H a6 a6 W)=>kkh r.size r (nR) _ W _ (Ah.below ak (nR)).v (Ah.below ak (nR)).F p0) (Rx.mcg o9) (Rx.mb6 mY);have hP:Hz (r.rev.size≤1000000000):=hD (by rw[Rx.mb8];exact p0);obtain ⟨bD,e2⟩:=xE (Rg.mbs r J);obtain ⟨dP,fT⟩:=xE (Rg.mbs r.rev K);rw[←e2] at G2 rz;rw[←fT] at qh rz;rw[gh];clear e2 fT hpr gh o9 mY p0 hm eU ol b3 e8 cl Ah t6 bs G1 GZ;go_upto_region 2 with (fail);rw[←ea.o,←xg.o];clear ea xg;obtain ⟨⟨⟨aN,aM⟩,aZ,bC⟩,⟨b1,c5⟩,ct,bI⟩:=cX.o.cells;go_wp2_with fail;refine G2.o.mono ?_;rintro cG aK ⟨rfl,bv⟩;have xx:=hD (LP.o.trans (bv.mono TX));have Ad:aq.heap.size≤aK.heap.size:=xx.o.size;obtain ⟨da,xy,G5⟩:=hd3 (cX.o.below bv cX.o.lt) bv (LQ.o.below bv (nR));clear bv G2 cX LP LQ;clear aN aM aZ bC b1 c5 ct bI;by_cases af:256<bD
  .have hF:=rz.o;rw[ua1 (.inl af)] at hF;have ey:=fz.o;rw[hF,show kce op (.error (N 9))= .error (N 9) from rfl] at ey;subst ey;have aL:(256:Int)<(bD:Int):=oM;have ih:=hD (dv.o.below xx.o dv.o.lt);have cA:=hD (a7.o.trans (xx.o.mono a7.o.size));have jb:w.heap.size<aK.heap.size:=oM;have a8:=hD (kcS 9 dC (fun _=>False) aK);obtain ⟨⟨⟨aN,aM⟩,aZ,bC⟩,⟨b1,c5⟩,ct,bI⟩:=da.o.cells;clear hF rz fz af G3 qh G4 zt hP xy xx da G5;go_wp2_with fail;clear aN aM aZ bC b1 c5 ct bI;refine a8.o.mono ?_;rintro cG c7 ⟨ck,j3,rfl,cF⟩;obtain ⟨cy,cv,cr,t9,ci,bX,c9,dM,ff,rfl⟩:=cF.form;have dm:=ih.o.below ck ih.o.lt;have TZ:=();exact kbp
  .have aL:¬(256:Int)<(bD:Int):=oM;have LR:=G3.o aK xy.o;obtain ⟨⟨⟨aN,aM⟩,aZ,bC⟩,⟨b1,c5⟩,ct,bI⟩:=da.o.cells;have LT:=hD LR;clear LR G3 xy;go_wp2_with fail;refine LT.o.mono ?_;rintro cG bm ⟨cQ,XT,rfl,g7⟩;clear aN aM aZ bC b1 c5 ct bI;have G6:=hD (xx.o.trans (cQ.mono Ad));have zI:aq.heap.size≤bm.heap.size:=G6.o.size;obtain ⟨dQ,LU,LV⟩:=hd3 (da.o.below cQ da.o.lt) (G5.o.below cQ (nR)) (qh.o XT bm (fun i=>i<bm.heap.size) ⟨g7.keep (fun _ _ _=>rfl) (nR) (fun i _ hi=>hi),fun i hi=>hi,G4.o,zt.o,hP.o⟩);obtain ⟨kd5,bi,aW,bc,br,lo5,hi5,fs,m3,c5,rfl⟩:=g7.eight;clear cQ g7 da G5 LT qh G4 zt hP xx Ad;go_wp2_with fail;refine LV.o.mono ?_;rintro cG du ⟨rfl,eu⟩;have xz:=hD (G6.o.trans (eu.mono zI));have hwl6:aq.heap.size≤du.heap.size:=xz.o.size;obtain ⟨hC,C2,kj,f1⟩:=hd4 (dQ.o.below eu dQ.o.lt) (LU.o.below eu (nR)) (dv.o.below xz.o dv.o.lt) (a7.o.trans (xz.o.mono a7.o.size));have jb:w.heap.size<du.heap.size:=oM;clear eu dQ LU LV G6 zI;by_cases ao:256<dP
   .have hF:=rz.o;rw[ua1 (.inr ao)] at hF;have ey:=fz.o;rw[hF,show kce op (.error (N 9))= .error (N 9) from rfl] at ey;subst ey;have bJ:(256:Int)<(dP:Int):=oM;have a8:=hD (kcS 9 dC (fun _=>False) du);clear hF rz fz af ao hC C2 xz;have T0:=();exact kd3
   .have bJ:¬(256:Int)<(dP:Int):=oM;by_cases av:120<t.length
    .have hF:=rz.o;rw[ua0 oM,ua1 av] at hF;have ey:=fz.o;rw[hF,show kce op (.error Z)= .error Z from rfl] at ey;subst ey;have dn:(120:Int)<(t.length:Int):=oM;obtain ⟨z0,ca,cI,z3,z4,k0,k1,bS,fp,gy⟩:=kak kj.o;have cW:=hD (kb1 kj.o (I U 0) (I U 0) (V J) (Q ⟨#[]⟩) (D Z 0 0));have di:=hD (kdB (F:=F) (F0:=fun _=>False) (r:= .error Z) (x:=ag #[aa #[I .i64 0,I U 0,V J,Q ⟨#[]⟩,D Z 0 0],I U 0,V J]) f1.o ⟨_,_,_,_,_,_,_,rfl⟩ (fun _ h=>h.elim) (I U 0) (I U 0) (V J) (Q ⟨#[]⟩) (D Z 0 0));clear hF rz fz af ao av hC C2 xz;go_wp2_with fail;obtain ⟨bi,aW,bc,br,bL, -⟩:=kak cW.o;refine ub2 (v:=ag #[aa #[I .i64 0,I U 0,V J,Q ⟨#[]⟩,D Z 0 0],I U 0,V J]) (by simp[results,results82,go_sem,bi,aW,bc,br,bL]) rfl ?_;exact di.o
    .have hF:=rz.o;rw[ua0 oM,ua0 av] at hF;have ey:=fz.o;rw[hF] at ey;have dn:¬(120:Int)<(t.length:Int):=oM;have G7:=hD (kzH r t _ du _ C2.o oM);obtain ⟨eH,dL⟩:=xE (kfe r t);rw[←dL] at G7 ey;have xA:=hD ey;obtain ⟨⟨⟨aN,aM⟩,aZ,bC⟩,⟨b1,c5⟩,ct,bI⟩:=hC.o.cells;clear hF rz fz ey dL af ao av C2 xz;go_wp2_with fail;refine G7.o.mono ?_;rintro cG dl ⟨ow,e4,qz,rfl,MP,MQ⟩;clear aN aM aZ bC b1 c5 ct bI;have ri:=hD (kj.o.below ow kj.o.lt);have f2:=bT f1 ow;have hwl7:w.heap.size<dl.heap.size:=(by have:=ow.size;omega);have T1:=hD MQ;have pL:=hD MP;clear ow MQ MP G7 hC kj f1 aL bJ dn;rcases GH.o with rfl|rfl|rfl
     .have ey:=xA.o;rw[show kce kb5 (.ok eH)=Ev.mah eH.length from rfl] at ey;subst ey;have a8:=hD (kcy (eH.length:Int) (fun _=>False) dl);clear xA;unfold kb5;exact kd3
     .have ey:=xA.o;rw[show kce kb4 (.ok eH)= .ok (.tru (decide (0<eH.length))) from rfl] at ey;obtain ⟨i5,eZ⟩:=xE (decide (0<eH.length));rw[←eZ] at ey;subst ey;have cm:decide ((0:Int)<(eH.length:Int))=i5:=(by rw[eZ];simp);have bs:decide (0<eH.length)=i5:=eZ.symm;have a8:=hD (kdN i5 (fun _=>False) dl);clear xA eZ;unfold kb4;exact kd3
     .have ey:=xA.o;rw[show kce kbT (.ok eH)= .ok (.sps eH) from rfl] at ey;subst ey;have a8:=hD (kdQ e4 eH qz pL.o (fun i=>du.heap.size≤i) dl T1.o);have LW:∀ i,du.heap.size≤i→i≠w.heap.size∧(F i∨w.heap.size≤i):=fun i hi=>⟨oM, .inr oM⟩;have yx:=hD LW;clear xA LW;unfold kbT;have T2:=();exact kd3
def VaVs (w:O) (F:Nat→Prop):List Ev.Va→List C→Prop
 |[],cs=>cs=[]
 |v::l,cs=>∃ aM aZ,cs=aM++aZ∧VaV w F v aM∧VaVs w F l aZ
def knP {w:O} {F:Nat→Prop} {v:Ev.Va} {cs:List C} (h:VaV w F v cs):cs.length=5:=by obtain ⟨A,c,rfl,_⟩:=h;rfl
theorem VaVs.keep {w w':O} {F G:Nat→Prop} (aw:∀ i,F i→i<w.heap.size→w'.heap[i]? =w.heap[i]?) (al:w.heap.size≤w'.heap.size) (el:∀ i,F i→i<w.heap.size→G i):∀ {l:List Ev.Va} {cs:List C},VaVs w F l cs→VaVs w' G l cs
 |[],_,h=>h
 |v::l,cs,⟨aM,aZ,e,af,ao⟩=>⟨aM,aZ,e,af.keep aw al el,VaVs.keep aw al el ao⟩
theorem VaVs.snoc {w:O} {F:Nat→Prop} {v:Ev.Va} {c:List C} (au:VaV w F v c):∀ {l:List Ev.Va} {cs:List C},VaVs w F l cs→VaVs w F (l++[v]) (cs++c)
 |[],_,h=>by rw[show _=[] from h];exact ⟨c,[],by simp,au,rfl⟩
 |u::l,cs,⟨aM,aZ,e,af,ao⟩=>⟨aM,aZ++c,by rw[e,uc2],af,VaVs.snoc au ao⟩
theorem VaVs.get {w:O} {F:Nat→Prop} :∀ {l:List Ev.Va} {cs:List C} {k:Nat} {v:Ev.Va},VaVs w F l cs→l[k]? =N v→∃ A c,(∀ j u,(VaC A c v)[j]? =N u→cs[k*5+j]? =N u)∧v.l.length≤c∧SpV w F A v.l
 |[],_,_,_,_,h=>by simp at h
 |u::l,cs,0,v,⟨aM,aZ,e,⟨A,c,af,av,bk⟩,ao⟩,h=>by simp only[gB,ug0] at h;subst h;refine ⟨A,c,fun j x aA=>?_,av,bk⟩;rw[e,af,un4,ud3,ui1 (gH aA).1];exact aA
 |u::l,cs,k+1,v,⟨aM,aZ,e,af,ao⟩,h=>by rw[gC] at h;obtain ⟨A,c,an,av,bk⟩:=VaVs.get ao h;refine ⟨A,c,fun j x aA=>?_,av,bk⟩;rw[e,uf4 (by rw[knP af];omega),knP af,show (k+1)*5+j-5=k*5+j by omega];exact an j x aA
def kCc {w:O} {F:Nat→Prop} {base n bP:Nat} {A:Option ae} {e:ah} {l:List Ev.Va} {cs:List C} (bf:w.ownsRow base e 5 (D A n bP) n cs) (au:VaVs w F l cs) (ax:n=l.length) (aO:0<l.length):∃ g,A=N ⟨g,0,Z⟩∧base≤g∧g<w.heap.size∧ArV w F g l:=by subst ax;obtain ⟨g,cap,d4,hg,ef⟩:=bf.form aO;obtain ⟨rfl, -,rfl⟩:=uj2 d4;refine ⟨g,rfl,hg,ef,fun k v aw=>⟨ef,?_⟩⟩;obtain ⟨dd,c,an,af,ao⟩:=au.get aw;have gp:=(gH aw).1;refine ⟨dd,c,fun j u aI=>?_,af,ao⟩;have aS:j<5:=(gH aI).1;rw[bf.cellAt (k*5+j) oM];exact an j u aI
section
variable {X:Ev.Cx}
theorem kva {l:List St} {k:Nat} {s:St} {d:List Ev.Va} {v:Ev.Va} (h:Ev.maf X [] (l.take k)= .ok d) (al:l[k]? =N s) (au:Ev.at1 X s d= .ok v):Ev.maf X [] (l.take (k+1))= .ok (d++[v]):=by rw[ue0,al,show (N s).toList=[s] from rfl,ked,h,kan,uj4,kbh,au,kan,khc,kan,kan]
theorem koT {l:List St} {k:Nat} {s:St} {d:List Ev.Va} {e:Option Int} (h:Ev.maf X [] (l.take k)= .ok d) (al:l[k]? =N s) (au:Ev.at1 X s d= .error e):Ev.run X l= .error e:=by have af:Ev.maf X [] (l.take (k+1))= .error e:=(by rw[ue0,al,show (N s).toList=[s] from rfl,ked,h,kan,uj4,kbh,au];rfl);have ao:Ev.maf X [] l= .error e:=(by rw[←ug3 (k+1) l,ked,af];rfl);unfold Ev.run;rw[ao];rfl
theorem kvd {l:List St} {d:List Ev.Va} (h:Ev.maf X [] (l.take l.length)= .ok d):Ev.run X l= .ok (d.getLastD (.num 0)):=by rw[uf2] at h;unfold Ev.run;rw[h];rfl
end
def ku4 (k n:Int) (b:Bool) (t:List UInt8) (l:List (Int×Int)) (fB dA:Option ae) (aN aM:Nat) (w:O) (F G:Nat→Prop) (aD:SpV w F fB l) (af:SpV w G dA l) (az:l.length≤100000):
 L prog 17 #[aa #[I .i64 k,I U n,V b,Q ⟨t.toArray⟩,D fB l.length aN],aa #[I .i64 k,I U n,V b,Q ⟨t.toArray⟩,D dA l.length aM]] w fun e w'=>e=ac (V K)∧H w w w':=by
 have qn:=hD aD;have d3:=hD af;obtain ⟨aq,aQ⟩:=xE (w.alloc (y #[I .i64 k,I U n,V b,Q ⟨t.toArray⟩,D fB l.length aN] 40));have np:=bM aQ;have c4:=bA aQ;have fy:=wS aQ;have tY:Blk (aq.alloc (y #[I .i64 k,I U n,V b,Q ⟨t.toArray⟩,D dA l.length aM] 40)) (w.heap.size+1) 40 #[I .i64 k,I U n,V b,Q ⟨t.toArray⟩,D dA l.length aM]:=(by rw[←fy];exact Blk.new aq _ _);obtain ⟨aF,bW⟩:=xE (aq.alloc (y #[I .i64 k,I U n,V b,Q ⟨t.toArray⟩,D dA l.length aM] 40));have dZ:=bA bW;rw[←bW] at tY;obtain ⟨kt,yr,bo,cd,e1⟩:=hd5 (np.below dZ np.lt) tY (c4.trans (dZ.mono c4.size)) aQ bW;clear aD af np c4 aQ tY dZ bW;go_enter func17,ntmps17;go_upto_region 1 with (fail);rw[←cd.o,←e1.o];clear cd e1;obtain ⟨be,b8,cn,c0,c3, -⟩:=kak kt.o;obtain ⟨bu,bY,cP,c8,dj, -⟩:=kak yr.o;go_wp2_with fail;clear be b8 cn c0 c3 bu bY cP c8 dj;go_loopg [44] (l.length+1) (fun f i wr=>∃ j:Nat,i=I U j∧j≤l.length∧l.length<j+f∧Hz (H aF aF wr))
 case atStart=>exact ⟨0,rfl,oM,oM,hD (ub5 _ _)⟩
 case round=>
  obtain ⟨j,rfl,aS,qY,aV⟩:=hrel;obtain ⟨f,rfl⟩:=xS gk;have ep:=hD (bo.o.trans (aV.o.mono bo.o.size));by_cases bG:j<l.length
  .obtain ⟨x,aA⟩:=xG l bG;obtain ⟨fj,oa,rfl, -,e0,a0,aY⟩:=qn.o.at_ aA;obtain ⟨i5,hV,rfl, -,eZ,dt,cL⟩:=d3.o.at_ aA;obtain ⟨dJ,eC⟩:=x;dsimp only at a0 aY dt cL;have bi:=(ep.o.cell (p:=⟨fj,oa+j*2,Z⟩) e0).trans a0;have aW:=(ep.o.cell (p:=⟨fj,oa+j*2+1,Z⟩) e0).trans aY;have bw:=(ep.o.cell (p:=⟨i5,hV+j*2,Z⟩) eZ).trans dt;have aL:=(ep.o.cell (p:=⟨i5,hV+j*2+1,Z⟩) eZ).trans cL;obtain ⟨be,b8,cn,c0,c3, -⟩:=kak (kt.o.below aV.o kt.o.lt);obtain ⟨bu,bY,cP,c8,dj, -⟩:=kak (yr.o.below aV.o yr.o.lt);have cU:(j:Int)<(l.length:Int):=oM;have bE:=nN j;clear aA a0 aY dt cL;go_wp2_with fail;go_quiet (fail);go_wp2_with fail;go_roundg f
   case measure=>omega
   case rel=>exact ⟨j+1,by go_num,oM,oM,hD (kgg aV.o _)⟩
  .obtain rfl:j=l.length:=oM;go_wp2_with fail;go_ret;exact ⟨rfl,ep.o⟩
def kw1 (k:Nat):∃ name,namesR[k % 11]? =N name:=⟨namesR[k % 11]'(ur6 _ dC),ua3 _⟩
def kvh (k:Nat) (aw:k<256) (name:List UInt8) (ax:namesR[k % 11]? =N name) (w:O):L prog 35 #[I .u8 k] w fun e w'=>e=ac (Q ⟨name.toArray⟩)∧H w w w':=by have bg:k % 11<11:=ur6 _ dC;have am:Int.tmod (k:Int) 11=((k % 11:Nat):Int):=(by rw[Int.tmod_eq_emod_of_nonneg oM];rfl);obtain ⟨r,e9⟩:=xE (k % 11);rw[←e9] at bg am ax;have w9:=hD (kp2 ax);have cU:(r:Int)<11:=oM;have bE:=nN r;have fn:=us9 (k:Int) oM;have bW:=us9 (r:Int) oM;clear ax e9;go_enter func35,ntmps35;go_wp2_with fail;refine (kvi _).mono ?_;rintro e aq ⟨rfl,e2,cm⟩;have aN:=(e2.cell r).trans w9.o;have aV:=hD cm;clear e2 cm;go_wp2_with fail;go_ret;exact ⟨rfl,aV.o⟩
end Go.Proofs.YtamhdmkolfmmdaaGreatDoor
namespace Go.Proofs.YtamhdmkolfmmdaaGreatDoor
open Go.RowKit Go.ChangeShapes Go.WideShapes Go.Deep
variable {P:Prop}
def open_items {eR:Type} {fC:TypeId×Value→eR} {w:World} {base fuel:Nat} {qQ:Nat→Bool} {held:Bool} {A:Option Addr} {len cap:Nat} {x:DataW eR×List MemPlace}
 (h:DataW.trod fC prog w base qQ held fuel 37 [.slice A len cap]=some x):∃ l:List (List UInt8×List UInt8),l.length=len∧EnvAt w A l∧(∀ s∈l,s.1.length≤9223372036854775807∧s.2.length≤9223372036854775807):=by
 rcases kpF underlying37 underlying136 kR kR h with ⟨gR,_⟩|⟨a,XY,fE,m,cw,xI,gR,_,az,_,bg,w0,rR⟩
 .simp at gR;obtain ⟨rfl,rfl,rfl⟩:=gR;exact ⟨[],rfl,fun i s al=>by simp at al,fun s al=>by cases al⟩
 .simp at gR;obtain ⟨rfl,rfl,rfl⟩:=gR;have w7:∀ j,j<len→j<m:=fun j aS=>by rw[bg];split <;> omega
  obtain ⟨b,o,um⟩:=a;(obtain ⟨l,k5,bj⟩:=kp8 len (fun i (s:List UInt8×List UInt8)=>um=none∧(s.1.length≤9223372036854775807∧s.2.length≤9223372036854775807)∧b<w.heap.size∧w.cell? ⟨b,o+i*2,none⟩=some (.string ⟨s.1.toArray⟩)∧w.cell? ⟨b,o+i*2+1,none⟩=some (.string ⟨s.2.toArray⟩)) fun i hi=>by have xT:um=none:=(by exact klw);subst xT;obtain ⟨l6,n,hD,_,_,b5⟩:=rR i (w7 i hi);obtain ⟨v0,bu,d8,_,t0⟩:=b5 0 _ rfl;obtain ⟨dX,bY,g1,aL,bb⟩:=b5 1 _ rfl;obtain ⟨z0,f0,_,Fp⟩:=uq4 underlying9 t0;obtain ⟨ca,b2,_,T3⟩:=uq4 underlying9 bb;simp at f0 b2;subst f0 b2;rw[kb8] at d8 g1;have ds:(⟨z0.data.toList.toArray⟩:ByteArray)=z0:=(by cases z0;simp);have cJ:(⟨ca.data.toList.toArray⟩:ByteArray)=ca:=(by cases ca;simp);have hw:z0.data.toList.length≤9223372036854775807:=(by have:z0.size≤9223372036854775807:=Fp;simpa using this);have oL:ca.data.toList.length≤9223372036854775807:=(by have:ca.size≤9223372036854775807:=T3;simpa using this);exact ⟨(z0.data.toList,ca.data.toList),rfl,⟨hw,oL⟩,ut3 d8,by dsimp only;rw[ds];exact d8,by dsimp only;rw[cJ];exact g1⟩);refine ⟨l,k5,fun i s al=>?_,fun s al=>?_⟩
  .obtain ⟨hi,rfl⟩:=ue1.1 al;obtain ⟨af,_,ao⟩:=bj i hi;subst af;exact ⟨b,o,rfl,ao⟩
  .exact klm
end Go.Proofs.YtamhdmkolfmmdaaGreatDoor
