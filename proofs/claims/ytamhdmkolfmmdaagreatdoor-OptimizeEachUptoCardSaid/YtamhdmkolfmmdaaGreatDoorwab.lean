/- Part ab of the proof. -/
import Derived.Test.YtamhdmkolfmmdaaGreatDoorwaa
import Derived.Deep.Upon
import Derived.Lib.AppendZerosOnto
import Derived.Lib.Overlaps
import Derived.Laws.CopyOwn
set_option linter.all false
set_option maxHeartbeats 16000000
set_option maxRecDepth 100000
open Go.Proofs.Tryz
open Go.Value renaming int→I,slice→D,bool→V,string→Q,pointer→ab,agg→aa,tuple→ag,nilIface→aj
open Go.IntKind renaming i64→U,u64→Y,u8→ai
open Go.Obj renaming cells→y
open Go.Ending renaming returned→ac
open Option renaming none→Z,some→N
open Bool renaming true→K,false→J
open Go renaming World→O,Value→C,Calls→L,TypeId→ah,Addr→ae
open Go.RowKit renaming Below→H
namespace Go.Proofs.YtamhdmkolfmmdaaGreatDoor
open Go.RowKit
variable {P:Prop}
def kde (c:Int):C:=if c=0 then aj else .iface 66 (I U c)
def kfm (w:O) (e:Ending) (w':O):Prop:=e=ac (V K)∧H w w w'
def klR (h:P:=by
 go_wp2_with fail;refine qd.o.mono ?_;rintro e aF ⟨rfl,ly⟩;have DI:=hD ly;clear ly;go_wp2_with fail;go_roundg f
 case measure=>omega
 case rel=>exact ⟨j+1,by go_num,oM,oM,DI⟩):=h
def klB (h:P:=by go_wp2_with fail;refine qd.o.mono ?_;rintro e aF ⟨rfl,ly⟩;have DI:=hD ly;clear ly;go_wp2_with fail;go_ret;exact Or.inl ⟨qZ,rfl,DI.o⟩):=h
def klv (h:P:=by
 have cU:¬((j:Int)<(j:Int)):=oM;go_wp2_with fail;go_ret
 first
  | exact ⟨rfl, a1.o⟩
  | exact Or.inr ⟨rfl, rfl, a1.o⟩):=h
def kDl (fr:O→Prop) (k f:Nat) (i:C) (wr:O):Prop:=∃ j:Nat,i=I U j∧j≤k∧k-j<f∧Hz (fr wr)
def kz2 (F g ap n cap k:Nat) (fr:O→Prop) (xM:O→Prop) (ax:n≤100000) (aw:k≤n)
 (Dm:∀(x:C) (w:O),(callFunc F #[ab (N ⟨g,0,Z⟩),x]).run prog w= .ok (.enter F #[ab (N ⟨g,0,Z⟩),x]) w)
 (vS:∀ w,fr w→w.cell? ⟨g,0,Z⟩=N (D (N ⟨ap,0,Z⟩) n cap))
 (af:∀(i:Nat) (w:O),i<k→fr w→L prog F #[ab (N ⟨g,0,Z⟩),I U i] w fun e w'=>e=ac (V J)∧fr w')
 (ao:∀(w:O),k<n→fr w→L prog F #[ab (N ⟨g,0,Z⟩),I U k] w fun e w'=>e=ac (V K)∧xM w')
 (w:O) (fn:fr w):L prog 67 #[ab (N ⟨g,0,Z⟩), .func (.func F) #[ab (N ⟨g,0,Z⟩)] #[]] w fun e w'=>(k<n∧e=ac (V K)∧xM w')∨(k=n∧e=ac (V J)∧fr w'):=by
 have be:=vS w fn;obtain ⟨kQ,lR,gu,lj⟩:=hd4 af ao fn vS;clear af ao fn vS;go_enter func67,ntmps67;go_wp2_with fail;go_loopg [5,11] (k+1) (fun f _ i wr=>kDl fr k f i wr)
 case atStart=>exact ⟨0,rfl,oM,oM,gu⟩
 case round=>
  obtain ⟨j,rfl,aS,qY,a1⟩:=hrel;obtain ⟨f,rfl⟩:=xS gk;by_cases iS:j<k
  .have cU:(j:Int)<(n:Int):=oM;have qd:=hD (kQ.o j wr iS a1.o);exact klR
  .have iS:j=k:=oM;subst iS;by_cases qZ:j<n
   .have cU:(j:Int)<(n:Int):=oM;have qd:=hD (lR.o wr qZ a1.o);exact klB
   .have qZ:j=n:=oM;subst qZ;exact klv
def kDd (fr:O→Prop) (k f:Nat) (i:C) (wr:O):Prop:=∃ j:Nat,i=I U j∧j≤k∧k-j<f∧Hz (fr wr)
def kA2 (F:Nat) (xN:C) (A:Option ae) (c k:Nat) (oD:List (List UInt8)) (fr:O→Prop) (xM:O→Prop) (ax:oD.length≤100000) (aw:k≤oD.length)
 (Dm:∀(x:C) (w:O),(callFunc F #[xN,x]).run prog w= .ok (.enter F #[xN,x]) w)
 (vS:∀(w:O) (i:Nat) (s:List UInt8),fr w→oD[i]? =N s→∃ b o,A=N ⟨b,o,Z⟩∧w.cell? ⟨b,o+i,Z⟩=N (Q ⟨s.toArray⟩))
 (af:∀(i:Nat) (s:List UInt8) (w:O),i<k→oD[i]? =N s→fr w→L prog F #[xN,Q ⟨s.toArray⟩] w fun e w'=>e=ac (V J)∧fr w')
 (ao:∀(s:List UInt8) (w:O),oD[k]? =N s→fr w→L prog F #[xN,Q ⟨s.toArray⟩] w fun e w'=>e=ac (V K)∧xM w')
 (w:O) (fn:fr w):L prog 39 #[D A oD.length c, .func (.func F) #[xN] #[]] w fun e w'=>(k<oD.length∧e=ac (V K)∧xM w')∨(k=oD.length∧e=ac (V J)∧fr w'):=by
 have g4:L prog 65 #[D A oD.length c, .func (.func F) #[xN] #[]] w fun e w'=>(k<oD.length∧e=ac (I U k)∧xM w')∨(k=oD.length∧e=ac (I U (-1))∧fr w'):=by
  obtain ⟨n,cj⟩:=xE oD.length;rw[←cj] at ax aw ⊢;obtain ⟨kQ,lR,gu,lj,bF⟩:=hd5 af ao fn vS cj;clear af ao fn vS cj;go_enter func65,ntmps65;go_wp2_with fail;go_loopg [5,8] (k+1) (fun f _ i wr=>kDd fr k f i wr)
  case atStart=>exact ⟨0,rfl,oM,oM,gu⟩
  case round=>
   obtain ⟨j,rfl,aS,qY,a1⟩:=hrel;obtain ⟨f,rfl⟩:=xS gk;by_cases qZ:j<n
   .obtain ⟨s,al⟩:∃ s,oD[j]? =N s:=⟨oD[j]'(by have:=bF.o;omega),ua3 _⟩;obtain ⟨b,o,rfl,be⟩:=lj.o wr j s a1.o al;have cU:(j:Int)<(n:Int):=oM;have bE:=nN j;by_cases iS:j<k
    .have qd:=hD (kQ.o j s wr iS al a1.o);clear al;exact klR
    .have iS:j=k:=oM;subst iS;have qd:=hD (lR.o s wr al a1.o);clear al;exact klB
   .have Oa:j=n:=oM;subst Oa;have iS:j=k:=oM;subst iS;exact klv
 have de:=hD g4;clear g4 af ao fn vS Dm;go_enter func39,ntmps39;go_wp2_with fail;refine de.o.mono ?_;rintro e aF (⟨h,rfl,aO⟩|⟨h,rfl,aO⟩)
 .have cp:=hD aO;have cU:=nN k;clear aO;go_wp2_with fail;go_ret;exact Or.inl ⟨h,rfl,cp.o⟩
 .have cp:=hD aO;clear aO;go_wp2_with fail;go_ret;exact Or.inr ⟨h,rfl,cp.o⟩
theorem kdF {g:Nat} {t:ah} :∀(vs:List C) (o:Nat) (w:O) (cs:Array C),Blk w g t cs→∃ eo,Blk (w.setCells g o vs) g t eo∧eo.size=cs.size∧(∀ j,j<vs.length→o+j<cs.size→eo[o+j]? =vs[j]?)∧(∀ i,(i<o∨o+vs.length≤i)→eo[i]? =cs[i]?)
 |[],o,w,cs,h=>⟨cs,h,rfl,fun j aS=>by simp at aS,fun _ _=>rfl⟩
 |v::vs,o,w,cs,h=>by
  obtain ⟨eo,af,ao,av,bk⟩:=kdF vs (o+1) (w.setCell ⟨g,o,Z⟩ v) _ (h.mac o v);rw[un3] at ao av;refine ⟨eo,af,ao,fun j aS al=>?_,fun i hi=>?_⟩
  .cases j with
   |zero=>rw[uh4,bk o (.inl oM),uj5 oM];rfl
   |succ j=>have:=av j (by simpa using aS) oM;rw[show o+(j+1)=o+1+j by omega,this];rfl
  .rw[uc8] at hi;rw[bk i oM,uj6 oM]
theorem koA {g:Nat} :∀(vs:List C) (o:Nat) (w:O),(w.setCells g o vs).heap.size=w.heap.size
 |[],_,_=>rfl
 |v::vs,o,w=>(koA vs (o+1) _).trans (by simp)
theorem koa {g:Nat} :∀(vs:List C) (o:Nat) (w:O),(w.setCells g o vs).tape=w.tape
 |[],_,_=>rfl
 |v::vs,o,w=>(koa vs (o+1) _).trans rfl
def kc9 {g:Nat} (vs:List C) (o:Nat) (w:O):w.grownBy (w.setCells g o vs) (N g):=
 ⟨World.os_setCells w g o vs,koa vs o w,World.output_setCells w g o vs,by rw[koA];exact nR,fun i hi ch=>World.heap_setCells_other w g o vs hi (fun e=>ch (by rw[e]))⟩
def kf2:(prog.info? 77).map (fun i=>(i.zero,i.size,i.bytes))=N (N (aa #[Q ⟨#[]⟩,D Z 0 0,I U 0,Q ⟨#[]⟩,I U 0]),5,72):=kR
def ksA (w:O):(zeroValue 77).run prog w= .ok (aa #[Q ⟨#[]⟩,D Z 0 0,I U 0,Q ⟨#[]⟩,I U 0]) w:=kR
def kve (w:O) (ap o c ty:Nat) (cs:Array C) (h:Blk w ap 77 cs) (bf:o+5≤cs.size):
 (Builtin.clear_ #[24] ty #[D (N ⟨ap,o,Z⟩) 1 c]).run prog w= .ok (ag #[]) (w.setCells ap o [Q ⟨#[]⟩,D Z 0 0,I U 0,Q ⟨#[]⟩,I U 0]):=by
 have cg:=run_storeCells_cells (P:=prog) ap o [Q ⟨#[]⟩,D Z 0 0,I U 0,Q ⟨#[]⟩,I U 0] 0 w (fun j aS=>by rw[uh4,h.cell,uj1 (by simp at aS;omega)];rfl) (fun j aS=>h.frozen _) (by simp[Value.oneCell']);rw[uh4] at cg;have bd:(Builtin.zeroCells (aa #[Q ⟨#[]⟩,D Z 0 0,I U 0,Q ⟨#[]⟩,I U 0]).cells 1).toList=[Q ⟨#[]⟩,D Z 0 0,I U 0,Q ⟨#[]⟩,I U 0]:=kR;simp[Builtin.clear_,uf9 underlying24,ksA,bd,cg]
def ktS {cD:Array Oper} {o:Oper} {a:Act} {W:O} {aR:Act→O→Prop} {cY:Exit→Act→O→Prop} {E:Prop} (ii:o.guard=Z) (s x:Operand)
 (bf:o.op=Op.call { callee:=Callee.builtin Builtin.append,args:= #[s,x],argTypes:= #[24,24] }) (ap i j n cap c:Nat) (cs:Array C) (b0:Blk W ap 77 cs) (dN:cs.size=cap*5) (ax:j+n≤cap) (jf:i≤j) (af:∀ q v,q<(j+n)*5→cs[q]? =N v→v.oneCell'=K)
 (al:a.eval s=D (N ⟨ap,0,Z⟩) i cap) (aA:a.eval x=D (N ⟨ap,j*5,Z⟩) n c)
 (h:∀(w':O) (eo:Array C),Blk w' ap 77 eo→eo.size=cs.size→(∀ q,q<n*5→eo[i*5+q]? =cs[j*5+q]?)→(∀ q,q<i*5∨(i+n)*5≤q→eo[q]? =cs[q]?)→W.grownBy w' (N ap)→aR (a.put o.dst (D (N ⟨ap,0,Z⟩) (i+n) cap)) w'):
 if Region.wanted o (yielded cD a.tmps)=K then Oper.wp prog o a W aR cY else E:=by
 obtain ⟨eX,cM,ds,cJ,eW⟩:=ug6 kf2;have az:((cs.toList.drop (j*5)).take (n*5)).length=n*5:=by rw[ub8,ud9,ui3];omega
 have lS:∀ q u,((cs.toList.drop (j*5)).take (n*5))[q]? =N u→cs[j*5+q]? =N u:=fun q u aI=>by
  rw[uc4] at aI;split at aI
  .rwa [ud0,ue9] at aI
  .cases aI
 refine step_append_room ii s x 24 bf 77 eX 5 underlying24 cM cJ ap 0 i cap al ⟨ap,j*5,Z⟩ n c ((cs.toList.drop (j*5)).take (n*5)) aA az (fun q u aI=>?_) (fun u aI=>by obtain ⟨q,bj⟩:=uh7 aI;have fu:=(gH bj).1;rw[az] at fu;exact af (j*5+q) u oM (lS q u bj)) oM (fun q bj=>?_) ?_
 .rw[kb8,b0.cell];exact lS q u aI
 .rw[az] at bj;refine ⟨?_,b0.frozen _⟩;rw[b0.cell,uj1 oM];rfl
 .obtain ⟨eo,aL,bJ,dn,h6⟩:=kdF ((cs.toList.drop (j*5)).take (n*5)) (0+i*5) W cs b0;rw[ud3] at aL dn h6;refine h _ eo (by rw[ud3];exact aL) bJ (fun q bj=>?_) (fun q bj=>h6 q (by rw[az];omega)) (kc9 _ _ _);rw[dn q (by rw[az];exact bj) oM,uc4,ua1 bj,ud0,ue9]
def kAU (ap n i cap:Nat) (cs:Array C) (w:O) (b0:Blk w ap 77 cs) (dN:cs.size=cap*5) (hi:i<n) (qk:n+1≤cap) (rX:n≤100000) (af:∀ q v,q<(n+1)*5→cs[q]? =N v→v.oneCell'=K):
 L prog 156 #[D (N ⟨ap,0,Z⟩) ((n+1:Nat)) cap,I U i,I U ((i+1:Nat):Int)] w fun e w'=>e=ac (D (N ⟨ap,0,Z⟩) n cap)∧w.grownBy w' (N ap)∧
 ∃ eo,Blk w' ap 77 eo∧eo.size=cs.size∧(∀ q,q<i*5→eo[q]? =cs[q]?)∧(∀ q,i*5≤q→q<n*5→eo[q]? =cs[5+q]?):=by
 obtain ⟨aV,b7,kQ⟩:=hd3 b0 dN af;obtain ⟨m,bg⟩:=xE (n+1);obtain ⟨j,aS⟩:=xE (i+1);rw[←bg,←aS];have hQ:=hD bg;have lj:=hD aS;have cU:(i:Int)≤(j:Int):=oM;have bE:(m:Int)≤(cap:Int):=oM;have c2:(j:Int)≤(m:Int):=oM;have j4:(n:Int)≤(m:Int):=oM;have mi:¬(cap=j):=oM;have kP:((i:Int)==(j:Int))=J:=ua2.2 oM;have wi:=nN i;have wj:=nN j;have ye:(i:Int)≤(cap:Int):=oM;have AQ:(j:Int)≤(cap:Int):=oM;have Ih:i≤cap:=oM;have Ob:¬(i=j):=oM;obtain ⟨d,hd⟩:=xE (n-i);have AR:m-j=d:=oM;have AS:i+d=n:=oM;have cW:=hD hd;have Oc:j+d≤cap:=oM;have Ii:(j+d)*5≤(n+1)*5:=oM;have jf:i≤j:=oM;clear b0 dN af bg aS hd;go_enter func156,ntmps156;go_wp2_with fail;go_region_law (first|(refine ktS rfl (.tmp 22) (.tmp 25) rfl ap i j d cap _ cs aV.o.drew b7.o Oc jf (fun q v bj au=>kQ.o q v (ua7 bj Ii) au) rfl rfl ?_;intro aF qW bs iN kI kA fW;have bo:=hD bs;have ex:=hD iN;have kq:=hD kI;have co:=hD kA;have rK:=hD fW;clear bs iN kI kA fW))
 have ia:=fun c ty=>kve aF ap (n*5) c ty qW bo.o (by rw[ex.o,b7.o];have:=hQ.o;omega);have bq:=hD AS;have wk:m-n=1:=(by have:=hQ.o;omega);have Ij:¬(n=cap):=oM;have wl:¬(cap=n):=oM;clear AR mi kP;go_wp2_with fail;go_ret;obtain ⟨Od,aL,bJ,dn,h6⟩:=kdF [Q ⟨#[]⟩,D Z 0 0,I U 0,Q ⟨#[]⟩,I U 0] (n*5) aF qW bo.o;have mb:=kc9 (g:=ap) [Q ⟨#[]⟩,D Z 0 0,I U 0,Q ⟨#[]⟩,I U 0] (n*5) aF;have fW:w.grownBy aF (N ap):=⟨rK.o.os,rK.o.tape,rK.o.output,rK.o.size,rK.o.block⟩;have DJ:=lj.o
 exact ⟨rfl, ⟨mb.os.trans fW.os, mb.tape.trans fW.tape, mb.output.trans fW.output, uc9 fW.size mb.size, fun i hi ch => (mb.block i (ua7 hi fW.size) ch).trans (fW.block i hi ch)⟩,
  Od, aL, bJ.trans ex.o, fun q bj => (h6 q (.inl (by omega))).trans (co.o q (.inl bj)), fun q jV kZ => by
   rw [h6 q (.inl kZ)]
   have := kq.o (q - i * 5) (by omega)
   rw [show i * 5 + (q - i * 5) = q by omega, show j * 5 + (q - i * 5) = 5 + q by omega] at this
   exact this⟩
def kom {P:Program} {cD:Array Oper} {o:Oper} {a:Act} {w:O} {aR:Act→O→Prop} {cY:Exit→Act→O→Prop} {E:Prop} (hg:o.guard=Z) (d x:Operand) (M3 M4:ah)
 (ba:o.op=Op.call { callee:=Callee.builtin Builtin.copy,args:= #[d,x],argTypes:= #[M3,M4] }) (v u:C) (hd:a.eval d=v) (aA:a.eval x=u) {cH:C} {w':O}
 (am:(Builtin.copy_ #[M3,M4] o.type #[v,u]).run P w= .ok cH w') (aJ:aR (a.put o.dst cH) w'):if Region.wanted o (yielded cD a.tmps)=K then Oper.wp P o a w aR cY else E:=by
 have fn:Region.wanted o (yielded cD a.tmps)=K:=(by simp[Region.wanted,hg]);rw[ua1 fn];unfold Oper.wp;simp[execOp,ba,resolve,invoke,builtin,hd,aA,am,Result.andThen];exact aJ
def kiM {P:Program} {w:O} {cD:Array Oper} {rest:List Oper} {o:Oper} {a:Act} {cY:Exit→Act→O→Prop} (ii:o.guard=Z) (d s:Operand) (t t':ah)
  (bf : o.op = .call { callee := .builtin .copy, args := #[d, s], argTypes := #[t, t'] }) (v u : C) (hd : a.eval d = v) (al : a.eval s = u) {cH : C} {w' : O}
  (am : (Builtin.copy_ #[t, t'] o.type #[v, u]).run P w = .ok cH w') (h : wpList P cD cY rest (a.put o.dst cH) w') : wpList P cD cY (o :: rest) a w :=
 wpList_plain ii fun aR aJ => by
  unfold Oper.wp
  simp [execOp, bf, resolve, invoke, builtin, hd, al, am, Result.andThen]
  exact aJ _ _ h
def kr2 {w:O} {g:Nat} {t:ah} {cs:Array C} (h:Blk w g t cs):w.shape? g=N (t,cs.size):=by unfold Blk at h;simp[World.shape?,h]
def kha (w:O) (ty b o M5 Yc n:Nat) (a:ae) (M6 Yd:Nat) (cs:List C) (ax:n=Nat.min M6 M5) (az:cs.length=n*5)
 (Ye:∀ j v,cs[j]? =N v→w.cell? (a.add j)=N v) (an:∀ j,j<cs.length→(w.cell? ⟨b,o+j,Z⟩).isSome=K) (b5:∀ j,j<cs.length→w.frozen? ⟨b,o+j,Z⟩=J) (af:∀ v∈cs,v.oneCell'=K):
 (Builtin.copy_ #[24,24] ty #[D (N ⟨b,o,Z⟩) M5 Yc,D (N a) M6 Yd]).run prog w= .ok (goInt n) (w.setCells b o cs):=by
 obtain ⟨eX,cM,ds,cJ,eW⟩:=ug6 kf2;have qe:=run_loadCells_list (P:=prog) w a cs Ye;rw[az] at qe;have cg:=run_storeCells_cells (P:=prog) b o cs 0 w (by simpa using an) (by simpa using b5) af;subst ax;simp[Builtin.copy_,uf9 underlying24,Builtin.lenOf,Builtin.firstCells,sizeOf,typeInfo,cM,cJ,qe,cg]
def kgp (ap n i:Nat) (cs ga:Array C) (w:O) (e:Ending) (w':O):Prop:=
 ∃ e5 fE eo, e = ac (D (N ⟨e5, 0, Z⟩) ((n + 1 : Nat) : Int).toNat fE) ∧ w.grownBy w' (N ap) ∧ (e5 = ap ∨ w.heap.size ≤ e5) ∧ Blk w' e5 77 eo ∧ eo.size = fE * 5 ∧ n + 1 ≤ fE ∧
  (∀ q, q < i * 5 → eo[q]? = cs[q]?) ∧ (∀ q, q < 5 → eo[i * 5 + q]? = ga[q]?) ∧ (∀ q, i * 5 ≤ q → q < n * 5 → eo[5 + q]? = cs[q]?)
section
variable (ap kf n i cap:Nat) (cs ga:Array C) (w:O)
theorem kyr (b0:Blk w ap 77 cs) (dN:cs.size=cap*5) (p4:Blk w kf 77 ga) (dU:ga.size=5) (ch:kf≠ap) (hi:i<n) (qk:n+1≤cap) (rX:n≤100000) (af:∀ q v,q<n*5→cs[q]? =N v→v.oneCell'=K) (ui:∀ v∈ga.toList,v.oneCell'=K):
 L prog 157 #[D (N ⟨ap,0,Z⟩) n cap,I U i,D (N ⟨kf,0,Z⟩) 1 1] w (kgp ap n i cs ga w):=by
 obtain ⟨eX,cM,ds,cJ,eW⟩:=ug6 kf2;obtain ⟨rest,qf⟩:=xE ((cs.toList.drop (i*5)).take ((n-i)*5));have hl:rest.length=(n-i)*5:=by rw[qf,ub8,ud9,ui3];omega
 have uq:∀ j v,rest[j]? =N v→cs[i*5+j]? =N v∧j<(n-i)*5:=fun j v aS=>by
  rw[qf,uc4] at aS;split at aS
  .exact ⟨by rwa [ud0,ue9] at aS,by assumption⟩
  .cases aS
 have kT:∀ v∈rest,v.oneCell'=K:=fun v au=>by obtain ⟨j,aS⟩:=uh7 au;obtain ⟨ao,av⟩:=uq j v aS;exact af _ v oM ao
 have pu:∀ HE jh,(callFunc 183 #[D (N ⟨kf,0,Z⟩) 1 1,D (N ⟨ap,(i+1)*5,Z⟩) HE jh]).run prog w= .ok (.value (V J)) w:=fun HE jh=>by
  rw [run_callFunc_extern func183 (by kernel_rfl) (by kernel_rfl) (by kernel_rfl) (e := Extern.SlicesOverlaps.overlaps #[24, 24] #[4]) (by kernel_rfl),
   Lib.run_overlaps_apart w 24 4 77 underlying24 5 (fun w => by simp [sizeOf, typeInfo, cM, cJ]) ⟨kf, 0, Z⟩ ⟨ap, (i + 1) * 5, Z⟩ 1 1 HE jh ch 77 77 5 cs.size ((kr2 p4).trans (by rw [dU])) (kr2 b0) (by omega) (p4.frozen 0) (p4.frozen 5)]
  rfl
 have Ik:∀ ty nU vM,(Builtin.copy_ #[24,24] ty #[D (N ⟨ap,(i+1)*5,Z⟩) (n+1-(i+1)) nU,D (N ⟨ap,i*5,Z⟩) (n+1-i) vM]).run prog w.drew= .ok (goInt ((n-i:Nat):Int)) (w.drew.setCells ap ((i+1)*5) rest):=fun ty nU vM=>
  kha w.drew ty ap ((i + 1) * 5) (n + 1 - (i + 1)) nU (n - i) ⟨ap, i * 5, Z⟩ (n + 1 - i) vM rest (by simp only [uu1]; split <;> omega) hl
   (fun j v aS => by rw [kb8]; exact (b0.cell _).trans (uq j v aS).1)
   (fun j aS => by rw [show w.drew.cell? ⟨ap, (i + 1) * 5 + j, Z⟩ = cs[(i + 1) * 5 + j]? from b0.cell _, uj1 (by omega)]; rfl)
   (fun j _ => b0.frozen _) kT
 obtain ⟨AT,aL,bJ,dn,h6⟩:=kdF rest ((i+1)*5) w.drew cs b0.drew;obtain ⟨iT,sI⟩:=xE (w.drew.setCells ap ((i+1)*5) rest);have yf:Blk iT kf 77 ga:=(by rw[sI];exact p4.drew.grown (kc9 rest ((i+1)*5) w.drew) (fun e=>ch (by injection e)));have ur:w.drew.grownBy iT (N ap):=(by rw[sI];exact kc9 rest ((i+1)*5) w.drew);rw[←sI] at Ik aL
 have Oe:∀ ty nU,(Builtin.copy_ #[24,24] ty #[D (N ⟨ap,i*5,Z⟩) (n+1-i) nU,D (N ⟨kf,0,Z⟩) 1 1]).run prog iT= .ok (goInt 1) (iT.setCells ap (i*5) ga.toList):=fun ty nU=>
  kha iT ty ap (i * 5) (n + 1 - i) nU 1 ⟨kf, 0, Z⟩ 1 1 ga.toList (by simp only [uu1]; split <;> omega) (by rw [ui3, dU])
   (fun j v aS => by rw [kb8, yf.cell, ud3, ← ue9]; exact aS)
   (fun j aS => by rw [aL.cell, uj1 (by rw [ui3] at aS; omega)]; rfl)
   (fun j _ => aL.frozen _) ui
 obtain ⟨qW,b2,cB,dS,eJ⟩:=kdF ga.toList (i*5) iT AT aL;have wm:=kc9 (g:=ap) ga.toList (i*5) iT
 have sJ:Hz (kgp ap n i cs ga w (ac (D (N ⟨ap,0,Z⟩) (n+1) cap)) (iT.setCells ap (i*5) ga.toList)):=hD (by
  rw[ui3,dU] at dS eJ;refine ⟨ap,cap,qW,by rw[ub7],⟨wm.os.trans ur.os,wm.tape.trans ur.tape,wm.output.trans ur.output,uc9 ur.size wm.size,fun q bj ch=>(wm.block q (ua7 bj ur.size) ch).trans (ur.block q bj ch)⟩, .inl rfl,b2,oM,qk,fun q bj=>?_,fun q bj=>?_,fun q jV kZ=>?_⟩
  .rw[eJ q (.inl bj),h6 q (.inl oM)]
  .rw[dS q bj oM,ue9]
  .rw[eJ (5+q) (.inr oM),show 5+q=(i+1)*5+(q-i*5) by omega,dn (q-i*5) oM oM];rw[qf,uc4,ua1 oM,ud0,ue9];congr 1;omega)
 have cU:¬((i:Int)=(n:Int)):=oM;have bE:IntKind.i64.wrap ((i:Int)+1)=(i:Int)+1:=(by rw[IntKind.wrap_i64];omega);have c2:(0:Int)≤(i:Int)+1:=oM;have j4:i≤n:=oM;have mi:((i:Int)+1).toNat=i+1:=oM;have kP:¬(cap=i+1):=oM;have wi:(i:Int)≤(n:Int)+1:=oM;have wj:¬(cap=i):=oM;have ye:(n:Int)+1≤(cap:Int):=oM;have AQ:(i:Int)≤(n:Int):=oM;clear b0 p4 af ui kT uq aL bJ dn h6 b2 cB dS eJ ur wm yf qf hl sI;go_enter func157,ntmps157;(go_wp2_with (simp only[pu]));go_region_law (refine kom rfl _ _ 24 24 rfl (D (N ⟨ap,(i+1)*5,Z⟩) (n+1-(i+1)) (cap-(i+1))) (D (N ⟨ap,i*5,Z⟩) (n+1-i) (cap-i)) (by simp[Act.eval,Act.put]) (by simp[Act.eval,Act.put]) (Ik 3 (cap-(i+1)) (cap-i)) ?_)
 (go_wp2_with (at_builtin;refine kiM rfl _ _ 24 24 rfl _ _ rfl rfl (Oe _ _) ?_));go_ret;exact sJ.o
theorem kyv (bt G:Nat) (kU:Array C) (iT:O) (dH:H w w iT) (cj:w.heap.size≤bt) (aH:Blk iT bt 77 kU) (DL:kU.size=G*5) (el:n+1≤G) (wn:∀ q,q<i*5→kU[q]? =cs[q]?) (hi:i<n) (dU:ga.size=5) (dN:n*5≤cs.size):
 kgp ap n i cs ga w (ac (D (N ⟨bt,0,Z⟩) (n+1) G)) ((iT.setCells bt (i*5) ga.toList).drew.setCells bt ((i+1)*5) ((cs.toList.drop (i*5)).take ((n-i)*5))):=by
 obtain ⟨aM,aL,bJ,dn,h6⟩:=kdF ga.toList (i*5) iT kU aH;obtain ⟨aZ,b2,cB,dS,eJ⟩:=kdF ((cs.toList.drop (i*5)).take ((n-i)*5)) ((i+1)*5) (iT.setCells bt (i*5) ga.toList).drew aM aL.drew;have g1:=kc9 (g:=bt) ga.toList (i*5) iT;have eN:=kc9 (g:=bt) ((cs.toList.drop (i*5)).take ((n-i)*5)) ((i+1)*5) (iT.setCells bt (i*5) ga.toList).drew;have hl:((cs.toList.drop (i*5)).take ((n-i)*5)).length=(n-i)*5:=(by rw[ub8,ud9,ui3];omega);rw[ui3,dU] at dn h6;rw[hl] at dS eJ;refine ⟨bt,G,aZ,by rw[ub7],⟨eN.os.trans (g1.os.trans dH.os),eN.tape.trans (g1.tape.trans dH.tape),eN.output.trans (g1.output.trans dH.output),uc9 dH.size (uc9 g1.size eN.size),fun q bj _=>?_⟩, .inr cj,b2,oM,el,fun q bj=>?_,fun q bj=>?_,fun q jV kZ=>?_⟩
 .have Il:N q≠N bt:=fun e=>by injection e;omega
  have af:q<iT.heap.size:=ua7 bj dH.size;exact (eN.block q (ua7 af g1.size) Il).trans ((g1.block q af Il).trans (dH.block q bj))
 .rw[eJ q (.inl oM),h6 q (.inl bj),wn q bj]
 .rw[eJ (i*5+q) (.inl oM),dn q bj oM,ue9]
 .rw[show 5+q=(i+1)*5+(q-i*5) by omega,dS (q-i*5) oM oM];rw[uc4,ua1 oM,ud0,ue9];congr 1;omega
theorem kys (b0:Blk w ap 77 cs) (dN:cs.size=n*5) (p4:Blk w kf 77 ga) (dU:ga.size=5) (hi:i<n) (rX:n≤100000) (af:∀ q v,q<n*5→cs[q]? =N v→v.oneCell'=K) (ui:∀ v∈ga.toList,v.oneCell'=K):
 L prog 157 #[D (N ⟨ap,0,Z⟩) n n,I U i,D (N ⟨kf,0,Z⟩) 1 1] w (kgp ap n i cs ga w):=by
 obtain ⟨eX,cM,ds,cJ,eW⟩:=ug6 kf2;obtain ⟨rest,qf⟩:=xE ((cs.toList.drop (i*5)).take ((n-i)*5));have hl:rest.length=(n-i)*5:=by rw[qf,ub8,ud9,ui3];omega
 have uq:∀ j v,rest[j]? =N v→cs[i*5+j]? =N v∧j<(n-i)*5:=fun j v aS=>by
  rw[qf,uc4] at aS;split at aS
  .exact ⟨by rwa [ud0,ue9] at aS,by assumption⟩
  .cases aS
 have kT:∀ v∈rest,v.oneCell'=K:=fun v au=>by obtain ⟨j,aS⟩:=uh7 au;obtain ⟨ao,av⟩:=uq j v aS;exact af _ v oM ao
 obtain ⟨pv,AU⟩:=xE (cs.toList.take (i*5));have q0:pv.length=i*5:=by rw[AU,ub8,ui3];omega
 have yg:(Builtin.firstCells eX.size i (D (N ⟨ap,0,Z⟩) i n)).run prog w.drew= .ok pv.toArray w.drew:=by
  rw[cJ]
  exact run_firstCells_some w.drew 5 i ⟨ap,0,Z⟩ i n pv q0 (fun j v aS=>by
   rw[kb8,ud3];rw[AU,uc4] at aS;split at aS
   .exact (b0.cell j).trans (by rw[←ue9];exact aS)
   .cases aS)
 have hh:(n:Int)+1-(i:Int)=((n+1-i:Nat):Int):=oM;have n5:i+(n+1-i)=n+1:=oM;obtain ⟨z,bd⟩:=xE (aa #[Q ⟨#[]⟩,D Z 0 0,I U 0,Q ⟨#[]⟩,I U 0]);have DK:z.cells.size=5:=(by rw[bd];kernel_rfl);rw[←bd] at ds;obtain ⟨G,el⟩:=xE (grownCap w (n+1) n 77);obtain ⟨kU,wn⟩:∃ kU:Array C,kU=pv.toArray++Builtin.zeroCells z.cells (n+1-i)++Builtin.zeroCells z.cells (G-(n+1)):=⟨_,rfl⟩
 have hrz : ∀ ty, (Builtin.append_ #[24, 3] ty #[D (N ⟨ap, 0, Z⟩) i n, I U ((n : Int) + 1 - (i : Int))]).run prog w =
   .ok (D (N ⟨w, 0, Z⟩) (n + 1) G) (w.drew.alloc (y kU 77)) := fun ty => by
  have h := Lib.run_append_grow_zeros w 24 3 ty 77 eX z .i64 .i64 underlying24 underlying3 cM ds (N ⟨ap, 0, Z⟩) i n pv yg (n + 1 - i) (by omega) (by omega) (by omega) (by omega) (by rw [eW]; omega) (by rw [eW, n5]; exact growslice_fits (by omega) (by omega))
  rw [n5, ← el, ← wn] at h
  rw [hh]
  exact h
 have Of:n+1≤G:=(by rw[el];exact grownCap_ge w _ _ _);have YD:G≤9223372036854775807:=(by have:=grownCap_le_maxLen w (n+1) n 77 (by unfold maxLen;omega);rw[←el] at this;unfold maxLen at this;omega);have DL:kU.size=G*5:=(by rw[wn];simp only[Array.size_append,List.size_toArray,q0,Builtin.zeroCells,Array.size_map,Array.size_range,DK];omega);have kp:∀ q,q<i*5→kU[q]? =cs[q]? :=fun q bj=>by rw[wn,Array.append_assoc,Array.getElem?_append_left (by rw[List.size_toArray];omega),gA,AU,uc4,ua1 bj,ue9]
 obtain ⟨iT,sI⟩:=xE (w.drew.alloc (y kU 77));have AV:H w w iT:=(by rw[sI];exact (ub5 _ w).drew.alloc (nR) _);have yh:Blk iT w 77 kU:=(by rw[sI];exact Blk.new w.drew _ _);have wa:=b0.lt;have Og:=p4.lt;have c4:=b0.below AV wa;have yf:=p4.below AV Og;have sJ:=hD (kyv ap n i cs ga w w G kU iT AV (nR) yh DL Of kp hi dU oM);rw[←qf] at sJ
 have Oh:∀ W:O,W.heap=iT.heap→∀ ty nU,(Builtin.copy_ #[24,24] ty #[D (N ⟨w,i*5,Z⟩) (n+1-i) nU,D (N ⟨kf,0,Z⟩) 1 1]).run prog W= .ok (goInt 1) (W.setCells w (i*5) ga.toList):=fun W dH ty nU=>
  kha W ty w (i * 5) (n + 1 - i) nU 1 ⟨kf, 0, Z⟩ 1 1 ga.toList (by simp only [uu1]; split <;> omega) (by rw [ui3, dU])
   (fun j v aS => by
    have wo : Blk W kf 77 ga := by unfold Blk; rw [dH]; exact yf
    rw [kb8, wo.cell, ud3, ← ue9]; exact aS)
   (fun j aS => by
    have us : Blk W w 77 kU := by unfold Blk; rw [dH]; exact yh
    rw [us.cell, uj1 (by rw [ui3] at aS; omega)]; rfl)
   (fun j _ => by
    have us : Blk W w 77 kU := by unfold Blk; rw [dH]; exact yh
    exact us.frozen _) ui
 obtain ⟨aM,aL,bJ,dn,h6⟩:=kdF ga.toList (i*5) iT kU yh;have dZ:Blk (iT.setCells w (i*5) ga.toList) ap 77 cs:=c4.grown (kc9 ga.toList (i*5) iT) (fun e=>by injection e;omega)
 have Im:∀ W:O,W.heap=(iT.setCells w (i*5) ga.toList).heap→∀ ty nU vM,(Builtin.copy_ #[24,24] ty #[D (N ⟨w,(i+1)*5,Z⟩) (n+1-(i+1)) nU,D (N ⟨ap,i*5,Z⟩) (n-i) vM]).run prog W= .ok (goInt ((n-i:Nat):Int)) (W.setCells w ((i+1)*5) rest):=fun W dH ty nU vM=>
  kha W ty w ((i + 1) * 5) (n + 1 - (i + 1)) nU (n - i) ⟨ap, i * 5, Z⟩ (n - i) vM rest (by simp only [uu1]; split <;> omega) hl
   (fun j v aS => by
    have wo : Blk W ap 77 cs := by unfold Blk; rw [dH]; exact dZ
    rw [kb8, wo.cell]; exact (uq j v aS).1)
   (fun j aS => by
    have us : Blk W w 77 aM := by unfold Blk; rw [dH]; exact aL
    rw [us.cell, uj1 (by omega)]; rfl)
   (fun j _ => by
    have us : Blk W w 77 aM := by unfold Blk; rw [dH]; exact aL
    exact us.frozen _) kT
 have cU:¬((i:Int)=(n:Int)):=oM;have bE:IntKind.i64.wrap ((i:Int)+1)=(i:Int)+1:=(by rw[IntKind.wrap_i64];omega);have c2:(0:Int)≤(i:Int)+1:=oM;have j4:i≤n:=oM;have mi:((i:Int)+1).toNat=i+1:=oM;have kP:¬(G=i+1):=oM;have wi:(i:Int)≤(n:Int)+1:=oM;have wj:¬(G=i):=oM;have ye:(n:Int)<(n:Int)+1:=oM;have AQ:(i:Int)≤(n:Int):=oM;have Ih:¬(n=i):=oM;subst sI;have qg:((w.alloc (y kU 77)).drew).heap=(w.drew.alloc (y kU 77)).heap:=rfl;have hS:(((w.alloc (y kU 77)).drew.setCells w.heap.size (i*5) ga.toList).drew).heap=((w.drew.alloc (y kU 77)).setCells w.heap.size (i*5) ga.toList).heap:=rfl;clear b0 p4 af ui kT uq aL bJ dn h6 qf hl yg AU q0 hh n5 wn el DL kp AV yh c4 yf dZ ds cJ eW cM bd DK;go_enter func157,ntmps157
 go_wp2_with (first
  | (at_builtin; refine Lib.wpList_append_run _ rfl _ _ _ _ rfl _ _ rfl rfl _ _ (hrz _) ?_)
  | (at_builtin; refine kiM rfl _ _ 24 24 rfl _ _ rfl rfl (Oh _ qg _ _) ?_)
  | (at_builtin; refine kiM rfl _ _ 24 24 rfl _ _ rfl rfl (Im _ rfl _ _ _) ?_))
 go_region_law (refine kom rfl _ _ 24 24 rfl (D (N ⟨w,(i+1)*5,Z⟩) (n+1-(i+1)) (G-(i+1))) (D (N ⟨ap,i*5,Z⟩) (n-i) (n-i)) (by simp[Act.eval,Act.put]) (by simp[Act.eval,Act.put]) (Im _ hS 3 (G-(i+1)) (n-i)) ?_)
 go_wp2
 go_ret;exact sJ.o
end
def kdz (s:List UInt8):Bool:=decide (s=[61,61])||decide (s=[33,61])
def ka9 (s:List UInt8):Bool:=decide (s=[61,61])||(decide (s=[33,61])||(decide (s=[60])||decide (s=[60,61])))
def kmO (h:P:=by
 have dN:=bZ T;have AW:∀(mI:Fn) (first cap:Array C) (w:O),(Instr.makeFunc mI first cap).run prog w= .ok (.func mI first cap) w:=fun _ _ _ _=>rfl;have an:=Tryz.strings_Count_one ⟨T.toArray⟩ 40 ((w.alloc (y #[I .i64 0,I Y 0,I Y 0,I Y 0,I Y 0,I U 0,I U 0,D Z 0 0] 105)).alloc (y #[aj] 29))
 first
 |guard_hyp Ol;unfold kbY at ak;rw[ul7] at ak;have af:=uh9 ak.1;have ao:=uh9 ak.2;have bb:decide (262144<(T.length:Int))=J:=(by simp;omega);have Oi:=();exact kng
 |have pw:kcw T=kcm:=(by unfold kcw;rw[ua1 ak]);have px:ka4 T=Z:=(by unfold ka4;rw[ua1 ak]);have sK:=hD pw;have nF:=hD px;unfold kbY at ak;by_cases af:262144<T.length
  .have bb:decide (262144<(T.length:Int))=K:=(by simp;omega);clear ak pw px an;go_enter_defers func51,ntmps51
   go_wp2_with fail;simp[bodyPostD,Leaves,results,results51,go_sem];exact ⟨⟨zeroC,by rw[sK.o];rfl,by rw[nF.o];rfl⟩,((ub5 _ _).alloc (nR) _).alloc (by simp) _⟩
  .have bb:decide (262144<(T.length:Int))=J:=(by simp;omega);rw[ua5 af,uk9] at ak;have ao:=ug4 ak;exact kng):=h
def kng (h:P:=by
 generalize cq:Lib.countByte T 40=cK at*;have f6:L prog 88 #[Q ⟨T.toArray⟩,Q ⟨#[40]⟩] ((w.alloc (y #[I .i64 0,I Y 0,I Y 0,I Y 0,I Y 0,I U 0,I U 0,D Z 0 0] 105)).alloc (y #[aj] 29)) fun e w'=>e=ac (I U cK)∧((w.alloc (y #[I .i64 0,I Y 0,I Y 0,I Y 0,I Y 0,I U 0,I U 0,D Z 0 0] 105)).alloc (y #[aj] 29))=w':=by rw[←cq];refine an.mono ?_;rintro e w' ⟨rfl,rfl⟩;exact ⟨by simp[cq],rfl⟩
 have a8:=hD f6
 first
 |guard_hyp Oi;have db:decide (1024<(cK:Int))=J:=(by simp;omega);obtain ⟨a6,cl⟩:=xE (((w.alloc (y #[I .i64 0,I Y 0,I Y 0,I Y 0,I Y 0,I U 0,I U 0,D Z 0 0] 105)).alloc (y #[aj] 29)).alloc (y #[Q ⟨T.toArray⟩,I U 0] 150));have e8:R8 a6 w (I U 0) (I Y 0) (I Y 0) (I Y 0) (I Y 0) (I U 0) (I U 0) (D Z 0 0):=(by rw[cl];exact ((R8.mk0 w w rfl).alloc _).alloc _);have In:Blk a6 (w.heap.size+1) 29 #[aj]:=(by rw[cl];have:=Blk.new (w.alloc (y #[I .i64 0,I Y 0,I Y 0,I Y 0,I Y 0,I U 0,I U 0,D Z 0 0] 105)) 29 #[aj];exact Blk.alloc (by simpa using this) _);have h0:PS T a6 (w.heap.size+1+1) 0:=(by refine ⟨?_,ud1 _,oM⟩;rw[cl];have:=Blk.new ((w.alloc (y #[I .i64 0,I Y 0,I Y 0,I Y 0,I Y 0,I U 0,I U 0,D Z 0 0] 105)).alloc (y #[aj] 29)) 150 #[Q ⟨T.toArray⟩,I U 0];simpa using this);have b3:H w w a6:=(by rw[cl];exact (((ub5 _ _).alloc (nR) _).alloc (by simp) _).alloc (by simp;omega) _);have v7:a6.heap.size=w.heap.size+1+1+1:=(by rw[cl];simp);obtain ⟨de,cX,eL,bU,ea⟩:=hd5 (krx (T.length+1) 0 a6 h0 oM) e8 In b3 cl;clear ak an f6 cq cl e8 In h0 b3 ao;rw[aA] at de
  first
  |guard_hyp Om;(first|guard_hyp wq;have t3:decide ((k:Int)<(T.length:Int))=K:=(by simp;omega);have Oj:decide (k<T.length)=K:=(by simp;omega);clear cZ pw px aA|have t3:decide ((T.length:Int)<(T.length:Int))=J:=(by simp);have Oj:decide (T.length<T.length)=J:=(by simp);clear cZ pw px aA b5);go_enter_defers func51,ntmps51
   go_wp2_with fail;refine a8.o.mono ?_;rintro e w' ⟨rfl,rfl⟩;go_wp2_with fail;rw[←ea.o];refine de.o.mono ?_;rintro e aK ⟨cs,rfl,au,jx,dg⟩;obtain ⟨kd,a0,aY,bh,a3,lo,hi,A,n,c,rfl⟩:=au.eight;have h1:=cX.o.kept dg (fun e=>by have ek:w.heap.size=w.heap.size+1+1:=e;omega);have ut:=eL.o.kept dg (fun e=>by have ek:w.heap.size+1=w.heap.size+1+1:=e;omega);have oF:=dg.below bU.o oM (fun i e=>by have ek:i=w.heap.size+1+1:=e;omega);have lK:a6.heap.size≤aK.heap.size:=dg.size;obtain ⟨⟨⟨aN,aM⟩,aZ,bC⟩,⟨b1,c5⟩,ct,bI⟩:=h1.cells;obtain ⟨⟨⟨f0,b2⟩,cB,dS⟩,⟨eJ,jN⟩,mP,mQ⟩:=h1.free;have rL:=jx.mbR (X:=w.heap.size) oM (I U kd) (I Y a0) (I Y aY) (I Y bh) (I Y a3) (I U lo) (I U hi) (D A n c);have mj:=h1.all (I U kd) (I Y a0) (I Y aY) (I Y bh) (I Y a3) (I U lo) (I U hi) (D A n c);have sL:=Blk.mae (g:=w.heap.size) ut oM (I U kd) (I Y a0) (I Y aY) (I Y bh) (I Y a3) (I U lo) (I U hi) (D A n c);have gq:=kcM oF (uf1 w) (I U kd) (I Y a0) (I Y aY) (I Y bh) (I Y a3) (I U lo) (I U hi) (D A n c);have sM:=kas (Kept.refl (fun i=>i=w.heap.size) aK) (g:=w.heap.size) (.inl rfl) (I U kd) (I Y a0) (I Y aY) (I Y bh) (I Y a3) (I U lo) (I U hi) (D A n c);have g7:RxV (mae aK w (I U kd) (I Y a0) (I Y aY) (I Y bh) (I Y a3) (I U lo) (I U hi) (D A n c)) (fun i=>a6.heap.size≤i∧i<aK.heap.size) r [I .i64 kd,I Y a0,I Y aY,I Y bh,I Y a3,I U lo,I U hi,D A n c]:=au.kept sM (fun i dq _ e=>by have sD:=dq.1;have ek:i=w.heap.size:=e;omega) (fun i dq _=>dq);obtain ⟨d8,g1,eN⟩:=rL.cells;have mX:aK.heap.size≤(mae aK w (I U kd) (I Y a0) (I Y aY) (I Y bh) (I Y a3) (I U lo) (I U hi) (D A n c)).heap.size:=sM.size;clear jx dg au;(first|guard_hyp wq;have dB:=hD g7|have uu:At8 (mae aK w (I U kd) (I Y a0) (I Y aY) (I Y bh) (I Y a3) (I U lo) (I U hi) (D A n c)) w 0 [I .i64 kd,I Y a0,I Y aY,I Y bh,I Y a3,I U lo,I U hi,D A n c]:=⟨mj.lt,fun j u aI=>by rw[ud3,Blk.cell mj];simpa using aI⟩;have AX:=kxo w 0 r [I .i64 kd,I Y a0,I Y aY,I Y bh,I Y a3,I U lo,I U hi,D A n c] (mae aK w (I U kd) (I Y a0) (I Y aY) (I Y bh) (I Y a3) (I U lo) (I U hi) (D A n c)) _ g7 (fun i dq=>by have sD:=dq.2;omega) uu mY.out;rw[sN.o] at AX;have hQ:=hD AX);unfold mae at d8 g1 eN;(first|guard_hyp wq|have dB:=hD g7);obtain ⟨dQ,hu,cN⟩:=hd3 mj sL gq;(first|guard_hyp AZ;clear rL mj sL gq sM g7 h1 ut uu AX;go_wp2_with fail;refine hQ.o.mono ?_;rintro e du ⟨rfl,eu⟩;have lk:=dQ.o.below eu dQ.o.lt;have rM:=Blk.below hu.o eu (Blk.lt hu.o);have q1:=cN.o.trans (eu.mono oM);have yi:=dB.o.below eu;have AY:aK.heap.size≤du.heap.size:=uc9 mX eu.size;clear aN aM aZ bC b1 c5 ct bI f0 b2 cB dS eJ jN mP mQ d8 g1 eN;obtain ⟨⟨⟨aN,aM⟩,aZ,bC⟩,⟨b1,c5⟩,ct,bI⟩:=lk.cells;obtain ⟨⟨⟨f0,b2⟩,cB,dS⟩,⟨eJ,jN⟩,mP,mQ⟩:=lk.free;have bw:=rM.cell 0;have aL:=rM.frozen 0;simp only[gA,gB] at bw;obtain ⟨cf,Io,b4,iP,q2⟩:=hd5 (kg7 lk (h:=w.heap.size+1) oM (I U kd) (I Y a0) (I Y aY) (I Y bh) (I Y a3) (I U lo) (I U hi) (D A n c) aj) (kg8 rM (g:=w.heap.size) oM (I U kd) (I Y a0) (I Y aY) (I Y bh) (I Y a3) (I U lo) (I U hi) (D A n c) aj) (khF q1 (g:=w.heap.size) (h:=w.heap.size+1) (nR) oM (I U kd) (I Y a0) (I Y aY) (I Y bh) (I Y a3) (I U lo) (I U hi) (D A n c) aj) (kqo (F:=fun i=>i=w.heap.size∨i=w.heap.size+1) (Kept.refl _ du) (g:=w.heap.size) (h:=w.heap.size+1) (.inl (.inl rfl)) (.inl (.inr rfl)) (I U kd) (I Y a0) (I Y aY) (I Y bh) (I Y a3) (I U lo) (I U hi) (D A n c) aj) yi;clear lk rM q1 yi eu|guard_hyp A0;clear rL mj sL gq sM g7 h1 ut uu AX;go_wp2_with fail;refine hQ.o.mono ?_;rintro e du ⟨rfl,eu⟩;have lk:=dQ.o.below eu dQ.o.lt;have rM:=Blk.below hu.o eu (Blk.lt hu.o);have q1:=cN.o.trans (eu.mono oM);have yi:=dB.o.below eu;have AY:aK.heap.size≤du.heap.size:=uc9 mX eu.size;clear aN aM aZ bC b1 c5 ct bI f0 b2 cB dS eJ jN mP mQ d8 g1 eN;obtain ⟨⟨⟨aN,aM⟩,aZ,bC⟩,⟨b1,c5⟩,ct,bI⟩:=lk.cells;obtain ⟨⟨⟨f0,b2⟩,cB,dS⟩,⟨eJ,jN⟩,mP,mQ⟩:=lk.free;have bw:=rM.cell 0;have aL:=rM.frozen 0;simp only[gA,gB] at bw;obtain ⟨cf,Io,b4,iP,q2⟩:=hd5 (kg7 lk (h:=w.heap.size+1) oM (I U 0) (I Y 0) (I Y 0) (I Y 0) (I Y 0) (I U 0) (I U 0) (D Z 0 0) kcm) (kg8 rM (g:=w.heap.size) oM (I U 0) (I Y 0) (I Y 0) (I Y 0) (I Y 0) (I U 0) (I U 0) (D Z 0 0) kcm) (khF q1 (g:=w.heap.size) (h:=w.heap.size+1) (nR) oM (I U 0) (I Y 0) (I Y 0) (I Y 0) (I Y 0) (I U 0) (I U 0) (D Z 0 0) kcm) (kqo (F:=fun i=>i=w.heap.size∨i=w.heap.size+1) (Kept.refl _ du) (g:=w.heap.size) (h:=w.heap.size+1) (.inl (.inl rfl)) (.inl (.inr rfl)) (I U 0) (I Y 0) (I Y 0) (I Y 0) (I Y 0) (I U 0) (I U 0) (D Z 0 0) kcm) yi;clear lk rM q1 yi eu;unfold kcm at*|clear rL mj sL gq sM g7 h1 ut);go_wp2_with fail;refine leaves_cons (f:=89) (args:= #[ab (N ⟨w,0,Z⟩),ab (N ⟨w.heap.size+1,0,Z⟩)]) (by simp) (by simp[go_sem]) ?_;(first|guard_hyp wq;refine (krX w (w.heap.size+1) _ _ _ _ _ _ _ _ _ _ _ [] _ dQ.o hu.o).mono ?_|refine (kBH _ _ _).mono ?_);rintro e lD sr ⟨rfl,rfl,rfl⟩;(first|guard_hyp wq;obtain ⟨⟨⟨bi,aW⟩,bc,br⟩,⟨bL,d0⟩,d1,d2⟩:=(kg7 dQ.o (h:=w.heap.size+1) oM (I U 0) (I Y 0) (I Y 0) (I Y 0) (I Y 0) (I U 0) (I U 0) (D Z 0 0) kbX).cells;have q3:=(kg8 hu.o (g:=w.heap.size) oM (I U 0) (I Y 0) (I Y 0) (I Y 0) (I Y 0) (I U 0) (I U 0) (D Z 0 0) kbX).cell 0|obtain ⟨⟨⟨bi,aW⟩,bc,br⟩,⟨bL,d0⟩,d1,d2⟩:=cf.o.cells;have q3:=Io.o.cell 0);simp only[gA,gB] at q3;(first|guard_hyp wq;have b4:=hD (khF cN.o (g:=w.heap.size) (h:=w.heap.size+1) (nR) oM (I U 0) (I Y 0) (I Y 0) (I Y 0) (I Y 0) (I U 0) (I U 0) (D Z 0 0) kbX)|skip);unfold keM mae at bi aW bc br bL d0 d1 d2 q3;first|guard_hyp AZ;simp[Leaves,settle,results,results51,go_sem,bi,aW,bc,br,bL,d0,d1,d2,q3];refine ⟨⟨_,by rw[sK.o],?_⟩,b4.o⟩;rw[nF.o];exact ⟨q2.o.kept iP.o (fun i dq _ e=>by have sD:=dq.1;omega) (fun i dq az=>⟨by have sD:=dq.1;omega,ua7 az iP.o.size⟩),mY.out⟩|guard_hyp A0;simp[Leaves,settle,results,results51,go_sem,bi,aW,bc,br,bL,d0,d1,d2,q3];exact ⟨⟨zeroC,by rw[sK.o];rfl,by rw[nF.o];rfl⟩,b4.o⟩|simp[Leaves,settle,results,results51,go_sem,mae,bi,aW,bc,br,bL,d0,d1,d2,q3];exact ⟨⟨zeroC,by rw[sK.o];rfl,by rw[nF.o];rfl⟩,b4.o⟩
  |clear cZ pw px aA;go_enter_defers func51,ntmps51
   go_wp2_with fail;refine a8.o.mono ?_;rintro e w' ⟨rfl,rfl⟩;go_wp2_with fail;rw[←ea.o];refine de.o.mono ?_;rintro e aK ⟨rfl,jx,dg⟩;have h1:=cX.o.kept dg (fun e=>by have ek:w.heap.size=w.heap.size+1+1:=e;omega);have ut:=eL.o.kept dg (fun e=>by have ek:w.heap.size+1=w.heap.size+1+1:=e;omega);have oF:=dg.below bU.o oM (fun i e=>by have ek:i=w.heap.size+1+1:=e;omega);go_wp2_with fail;refine leaves_cons (f:=89) (args:= #[ab (N ⟨w,0,Z⟩),ab (N ⟨w.heap.size+1,0,Z⟩)]) (by simp) (by simp[go_sem]) ?_;refine (krX w (w.heap.size+1) _ _ _ _ _ _ _ _ _ _ _ [] _ h1 ut).mono ?_;rintro e lD sr ⟨rfl,rfl,rfl⟩;obtain ⟨⟨⟨bi,aW⟩,bc,br⟩,⟨bL,d0⟩,d1,d2⟩:=(kg7 h1 (h:=w.heap.size+1) oM (I U 0) (I Y 0) (I Y 0) (I Y 0) (I Y 0) (I U 0) (I U 0) (D Z 0 0) kbX).cells;have q3:=(kg8 ut (g:=w.heap.size) oM (I U 0) (I Y 0) (I Y 0) (I Y 0) (I Y 0) (I U 0) (I U 0) (D Z 0 0) kbX).cell 0;simp only[gA,gB] at q3;have b4:=hD (khF oF (g:=w.heap.size) (h:=w.heap.size+1) (nR) oM (I U 0) (I Y 0) (I Y 0) (I Y 0) (I Y 0) (I U 0) (I U 0) (D Z 0 0) kbX);unfold keM mae at bi aW bc br bL d0 d1 d2 q3;simp[Leaves,settle,results,results51,go_sem,mae,bi,aW,bc,br,bL,d0,d1,d2,q3];exact ⟨⟨zeroC,by rw[sK.o];rfl,by rw[nF.o];rfl⟩,b4.o⟩
 |have db:decide (1024<(cK:Int))=K:=(by simp;omega);clear ak pw px an f6 cq;go_enter_defers func51,ntmps51
  go_wp2_with fail;refine a8.o.mono ?_;rintro e w' ⟨rfl,rfl⟩;go_wp2_with fail;simp[bodyPostD,Leaves,results,results51,go_sem];exact ⟨⟨zeroC,by rw[sK.o];rfl,by rw[nF.o];rfl⟩,((ub5 _ _).alloc (nR) _).alloc (by simp) _⟩):=h
def kl7 (h:P:=by have Ol:=();exact kmO):=h
def kiw (h:P:=by (first|guard_hyp AZ;have cZ:kbw T=N r:=(by unfold kbw;rw[aA];exact ua1 rfl);have pw:kcw T=aj:=(by unfold kcw;rw[ua0 (by rw[ak];decide),cZ];simp only;rw[b5];rfl);have px:ka4 T=N r:=by unfold ka4;rw[ua0 (by rw[ak];decide),cZ];simp only;rw[b5];rfl|guard_hyp A0;have cZ:kbw T=N r:=(by unfold kbw;rw[aA];exact ua1 rfl);have pw:kcw T=kcm:=(by unfold kcw;rw[ua0 (by rw[ak];decide),cZ];simp only;rw[b5];rfl);have px:ka4 T=Z:=by unfold ka4;rw[ua0 (by rw[ak];decide),cZ];simp only;rw[b5];rfl|have cZ:kbw T=Z:=(by unfold kbw;rw[aA];exact ua0 aw);have pw:kcw T=kbX:=(by unfold kcw;rw[ua0 (by rw[ak];decide),cZ]);have px:ka4 T=Z:=by unfold ka4;rw[ua0 (by rw[ak];decide),cZ]);have sK:=hD pw;have nF:=hD px;(first|guard_hyp AZ;have mY:=hD (khq _ _ _ _ (ud1 _) aA);have sN:=hD (show msV r=ag #[I .i64 r.pos,aj] by unfold msV;rw[b5];rfl)|guard_hyp A0;have mY:=hD (khq _ _ _ _ (ud1 _) aA);have sN:=hD (show msV r=ag #[I .i64 0,kcm] by unfold msV;rw[b5];rfl)|have gp:=ke7 _ _ _ _ (ud1 _) aA);have Om:=();exact kl7):=h
def kbY (T:List UInt8):Bool:=decide (262144<T.length)||decide (1024<Lib.countByte T 40)
def ka4 (T:List UInt8):Option Rx:=if kbY T then Z else match kbw T with
 |none=>none
 |some r=>if r.fits then some r else none
def kcw (T:List UInt8):C:=if kbY T then kcm else match kbw T with
 |none=>kbX
 |some r=>if r.fits then aj else kcm
def zeroC:List C:=[I .i64 0,I Y 0,I Y 0,I Y 0,I Y 0,I U 0,I U 0,D Z 0 0]
def kff (w w':O) (r:Option Rx) (cs:List C):Prop:=match r with
 |none=>cs=zeroC
 |some r=>RxV w' (rng w w'.heap.size) r cs∧r.mat
def kn0 {w w':O} {r:Option Rx} {cs:List C} (h:kff w w' r cs):∃ kd a0 aY bh a3 lo hi A n c,cs=[I .i64 kd,I Y a0,I Y aY,I Y bh,I Y a3,I U lo,I U hi,D A n c]:=by
 unfold kff at h;split at h
 .exact ⟨_,_,_,_,_,_,_,_,_,_,h⟩
 .rename_i r;obtain ⟨kd,a,b,c,d,lo,hi,l⟩:=r;obtain ⟨h,_⟩:=h;unfold RxV at h;obtain ⟨A,c,bV,h,_⟩:=h;exact ⟨_,_,_,_,_,_,_,_,_,_,h⟩
def kfg (T:List UInt8) (w:O) (e:Ending) (w':O):Prop:=
 (∃ cs,e=ac (ag #[aa cs.toArray,kcw T])∧kff w w' (ka4 T) cs)∧H w w w'
def kvL (T:List UInt8) (w:O) (h:T.length≤9223372036854775807) (ak:kbY T=K):L prog 51 #[Q ⟨T.toArray⟩] w (kfg T w):=by exact kmO
def keM (w:O) (g h:Nat) (aT aU aX a2 d7 hI hJ hK er:C):O:=(mae w g aT aU aX a2 d7 hI hJ hK).setCell ⟨h,0,Z⟩ er
def kg7 {w:O} {g h:Nat} {v0 dX eb v3 v4 v5 fw eQ:C} (aH:R8 w g v0 dX eb v3 v4 v5 fw eQ) (HH:g≠h) (aT aU aX a2 d7 hI hJ hK er:C):R8 (keM w g h aT aU aX a2 d7 hI hJ hK er) g aT aU aX a2 d7 hI hJ hK:=Blk.far (p:=⟨h,0,Z⟩) (aH.all aT aU aX a2 d7 hI hJ hK) HH er
def kg8 {w:O} {g h:Nat} {bw:C} (ce:Blk w h 29 #[bw]) (HH:h≠g) (aT aU aX a2 d7 hI hJ hK er:C):Blk (keM w g h aT aU aX a2 d7 hI hJ hK er) h 29 #[er]:=Blk.mac (Blk.mae ce HH aT aU aX a2 d7 hI hJ hK) 0 er
def kqo {F:Nat→Prop} {w w':O} {g h:Nat} (k:Kept F w w') (hg:F g∨w.heap.size≤g) (dq:F h∨w.heap.size≤h) (aT aU aX a2 d7 hI hJ hK er:C):Kept F w (keM w' g h aT aU aX a2 d7 hI hJ hK er):=(kas k hg aT aU aX a2 d7 hI hJ hK).setCell (p:=⟨h,0,Z⟩) dq er
def khF {B:Nat} {w w':O} {g h:Nat} (k:H B w w') (hg:B≤g) (dq:B≤h) (aT aU aX a2 d7 hI hJ hK er:C):H B w (keM w' g h aT aU aX a2 d7 hI hJ hK er):=(kcM k hg aT aU aX a2 d7 hI hJ hK).setCell dq er
def kvK (T:List UInt8) (w:O) (ak:kbY T=J) (aA:kbG T (T.length+1) 0=Z):L prog 51 #[Q ⟨T.toArray⟩] w (kfg T w):=by have cZ:kbw T=Z:=(by unfold kbw;rw[aA]);have pw:kcw T=kbX:=(by unfold kcw;rw[ua0 (by rw[ak];decide),cZ]);have px:ka4 T=Z:=(by unfold ka4;rw[ua0 (by rw[ak];decide),cZ]);have sK:=hD pw;have nF:=hD px;exact kl7
def kvH (T:List UInt8) (w:O) (r:Rx) (k:Nat) (ak:kbY T=J) (aA:kbG T (T.length+1) 0=N (r,k)) (aw:k≠T.length):L prog 51 #[Q ⟨T.toArray⟩] w (kfg T w):=by have wq:=();exact kiw
def kvJ (T:List UInt8) (w:O) (r:Rx) (ak:kbY T=J) (aA:kbG T (T.length+1) 0=N (r,T.length)) (b5:r.fits=K):L prog 51 #[Q ⟨T.toArray⟩] w (kfg T w):=by have AZ:=();exact kiw
def kvI (T:List UInt8) (w:O) (r:Rx) (ak:kbY T=J) (aA:kbG T (T.length+1) 0=N (r,T.length)) (b5:r.fits=J):L prog 51 #[Q ⟨T.toArray⟩] w (kfg T w):=by have A0:=();exact kiw
def kpy (T:List UInt8) (w:O) (h:T.length≤9223372036854775807):L prog 51 #[Q ⟨T.toArray⟩] w (kfg T w):=by
 rcases ak:kbY T with _|_
 .rcases aA:kbG T (T.length+1) 0 with _|⟨r,k⟩
  .exact kvK T w ak aA
  .by_cases aw:k=T.length
   .subst aw;rcases b5:r.fits with _|_
    .exact kvI T w r ak aA b5
    .exact kvJ T w r ak aA b5
   .exact kvH T w r k ak aA aw
 .exact kvL T w h ak
end Go.Proofs.YtamhdmkolfmmdaaGreatDoor
namespace Go.Proofs.YtamhdmkolfmmdaaGreatDoor
open Go.RowKit Go.WideMaps
variable {P:Prop}
def zq1 (h:P:=by
 go_enter func93,ntmps93;go_wp2_with fail;go_ret3
 exact ⟨kax _ _,_,rfl,Blk.new _ _ _⟩):=h
def sigT:List (List UInt8×List Int×Int):=[
 ([108,101,110],[3],1),
 ([108,105,110,101,115],[3],1),
 ([115,105,122,101],[4],1),
 ([99,111,109,109,111,110],[3,3],1),
 ([109,105,110],[1,1],1),
 ([109,97,120],[1,1],1),
 ([43],[1,1],1),
 ([45],[1,1],1),
 ([42],[1,1],1),
 ([99,111,117,110,116],[3,0],1),
 ([61,61],[1,1],2),
 ([33,61],[1,1],2),
 ([60],[1,1],2),
 ([60,61],[1,1],2),
 ([97,110,100],[2,2],2),
 ([111,114],[2,2],2),
 ([110,111,116],[2],2),
 ([104,97,115],[3,0],2),
 ([43,43],[3,3],3),
 ([99,117,116],[3,1,1],3),
 ([108,105,110,101],[3,1],3),
 ([114,101,112],[3,1],3),
 ([112,105,99,107],[3,4,1],3),
 ([102,105,110,100],[3,0],4),
 ([114,111,119,115],[3],4),
 ([115,112,97,110],[1,1],4),
 ([119,105,116,104,105,110],[4,4],4),
 ([111,118,101,114],[4,4],4),
 ([117,110,105,111,110],[4,4],4),
 ([109,105,110,117,115],[4,4],4),
 ([97,102,116,101,114],[4,4,1],4),
 ([102,105,114,115,116],[4,1],4)]
def kaB (l:List UInt8):List (List UInt8×List Int×Int)→Option (List Int×Int)
 |[]=>Z
 |(n,a,r)::t=>if l=n then N (a,r) else kaB l t
def sig (l:List UInt8):Option (List Int×Int):=kaB l sigT
def kaP (w:O) (r:Option (List Int×Int)) (e:Ending) (w':O):Prop:=
 H w w w' ∧ match r with
  | some (a, r) => ∃ c, e = ac (ag #[D (some ⟨w, 0, none⟩) a.length c, I U r, V true]) ∧ Blk w' w 3 (a.map (I U)).toArray
  | none => e = ac (ag #[D none 0 0, I U 0, V false])
def kax (w:O) (o:Obj):H w w (w.alloc o):=(ub5 _ _).alloc (nR) _
def kuN (w:O):L prog 93 #[Q ⟨#[108,101,110]⟩] w (kaP w (N ([3],1))):=by exact zq1
def kuM (w:O):L prog 93 #[Q ⟨#[108,105,110,101,115]⟩] w (kaP w (N ([3],1))):=by exact zq1
def kuB (w:O):L prog 93 #[Q ⟨#[115,105,122,101]⟩] w (kaP w (N ([4],1))):=by exact zq1
def kuq (w:O):L prog 93 #[Q ⟨#[99,111,109,109,111,110]⟩] w (kaP w (N ([3,3],1))):=by exact zq1
def kun (w:O):L prog 93 #[Q ⟨#[109,105,110]⟩] w (kaP w (N ([1,1],1))):=by exact zq1
def kum (w:O):L prog 93 #[Q ⟨#[109,97,120]⟩] w (kaP w (N ([1,1],1))):=by exact zq1
def kul (w:O):L prog 93 #[Q ⟨#[43]⟩] w (kaP w (N ([1,1],1))):=by exact zq1
def kuk (w:O):L prog 93 #[Q ⟨#[45]⟩] w (kaP w (N ([1,1],1))):=by exact zq1
def kuj (w:O):L prog 93 #[Q ⟨#[42]⟩] w (kaP w (N ([1,1],1))):=by exact zq1
def kui (w:O):L prog 93 #[Q ⟨#[99,111,117,110,116]⟩] w (kaP w (N ([3,0],1))):=by exact zq1
def kuL (w:O):L prog 93 #[Q ⟨#[61,61]⟩] w (kaP w (N ([1,1],2))):=by exact zq1
def kuK (w:O):L prog 93 #[Q ⟨#[33,61]⟩] w (kaP w (N ([1,1],2))):=by exact zq1
def kuJ (w:O):L prog 93 #[Q ⟨#[60]⟩] w (kaP w (N ([1,1],2))):=by exact zq1
def kuI (w:O):L prog 93 #[Q ⟨#[60,61]⟩] w (kaP w (N ([1,1],2))):=by exact zq1
def kuH (w:O):L prog 93 #[Q ⟨#[97,110,100]⟩] w (kaP w (N ([2,2],2))):=by exact zq1
def kuG (w:O):L prog 93 #[Q ⟨#[111,114]⟩] w (kaP w (N ([2,2],2))):=by exact zq1
def kuF (w:O):L prog 93 #[Q ⟨#[110,111,116]⟩] w (kaP w (N ([2],2))):=by exact zq1
def kuE (w:O):L prog 93 #[Q ⟨#[104,97,115]⟩] w (kaP w (N ([3,0],2))):=by exact zq1
def kuD (w:O):L prog 93 #[Q ⟨#[43,43]⟩] w (kaP w (N ([3,3],3))):=by exact zq1
def kuC (w:O):L prog 93 #[Q ⟨#[99,117,116]⟩] w (kaP w (N ([3,1,1],3))):=by exact zq1
def kuA (w:O):L prog 93 #[Q ⟨#[108,105,110,101]⟩] w (kaP w (N ([3,1],3))):=by exact zq1
def kuz (w:O):L prog 93 #[Q ⟨#[114,101,112]⟩] w (kaP w (N ([3,1],3))):=by exact zq1
def kuy (w:O):L prog 93 #[Q ⟨#[112,105,99,107]⟩] w (kaP w (N ([3,4,1],3))):=by exact zq1
def kux (w:O):L prog 93 #[Q ⟨#[102,105,110,100]⟩] w (kaP w (N ([3,0],4))):=by exact zq1
def kuw (w:O):L prog 93 #[Q ⟨#[114,111,119,115]⟩] w (kaP w (N ([3],4))):=by exact zq1
def kuv (w:O):L prog 93 #[Q ⟨#[115,112,97,110]⟩] w (kaP w (N ([1,1],4))):=by exact zq1
def kuu (w:O):L prog 93 #[Q ⟨#[119,105,116,104,105,110]⟩] w (kaP w (N ([4,4],4))):=by exact zq1
def kut (w:O):L prog 93 #[Q ⟨#[111,118,101,114]⟩] w (kaP w (N ([4,4],4))):=by exact zq1
def kus (w:O):L prog 93 #[Q ⟨#[117,110,105,111,110]⟩] w (kaP w (N ([4,4],4))):=by exact zq1
def kur (w:O):L prog 93 #[Q ⟨#[109,105,110,117,115]⟩] w (kaP w (N ([4,4],4))):=by exact zq1
def kup (w:O):L prog 93 #[Q ⟨#[97,102,116,101,114]⟩] w (kaP w (N ([4,4,1],4))):=by exact zq1
def kuo (w:O):L prog 93 #[Q ⟨#[102,105,114,115,116]⟩] w (kaP w (N ([4,1],4))):=by exact zq1
def kug (l:List UInt8) (w:O) (ax:∀ n∈sigT.map (·.1),l≠n):L prog 93 #[Q ⟨l.toArray⟩] w (kaP w Z):=by
 have aD:(l== [108,101,110])=J:=(by simpa using ax [108,101,110] (by simp[sigT]));have af:(l== [108,105,110,101,115])=J:=(by simpa using ax [108,105,110,101,115] (by simp[sigT]));have ao:(l== [115,105,122,101])=J:=(by simpa using ax [115,105,122,101] (by simp[sigT]));have av:(l== [99,111,109,109,111,110])=J:=(by simpa using ax [99,111,109,109,111,110] (by simp[sigT]));have bk:(l== [109,105,110])=J:=(by simpa using ax [109,105,110] (by simp[sigT]));have cb:(l== [109,97,120])=J:=(by simpa using ax [109,97,120] (by simp[sigT]));have dE:(l== [43])=J:=(by simpa using ax [43] (by simp[sigT]));have fi:(l== [45])=J:=(by simpa using ax [45] (by simp[sigT]));have hv:(l== [42])=J:=(by simpa using ax [42] (by simp[sigT]));have gM:(l== [99,111,117,110,116])=J:=(by simpa using ax [99,111,117,110,116] (by simp[sigT]));have py:(l== [61,61])=J:=(by simpa using ax [61,61] (by simp[sigT]));have n6:(l== [33,61])=J:=(by simpa using ax [33,61] (by simp[sigT]));have oK:(l== [60])=J:=(by simpa using ax [60] (by simp[sigT]));have A1:(l== [60,61])=J:=(by simpa using ax [60,61] (by simp[sigT]));have A2:(l== [97,110,100])=J:=(by simpa using ax [97,110,100] (by simp[sigT]));have A3:(l== [111,114])=J:=(by simpa using ax [111,114] (by simp[sigT]));have A4:(l== [110,111,116])=J:=(by simpa using ax [110,111,116] (by simp[sigT]));have A5:(l== [104,97,115])=J:=(by simpa using ax [104,97,115] (by simp[sigT]));have A6:(l== [43,43])=J:=(by simpa using ax [43,43] (by simp[sigT]));have A7:(l== [99,117,116])=J:=(by simpa using ax [99,117,116] (by simp[sigT]));have A8:(l== [108,105,110,101])=J:=(by simpa using ax [108,105,110,101] (by simp[sigT]));have A9:(l== [114,101,112])=J:=(by simpa using ax [114,101,112] (by simp[sigT]));have Ba:(l== [112,105,99,107])=J:=(by simpa using ax [112,105,99,107] (by simp[sigT]));have Bb:(l== [102,105,110,100])=J:=(by simpa using ax [102,105,110,100] (by simp[sigT]));have Bc:(l== [114,111,119,115])=J:=(by simpa using ax [114,111,119,115] (by simp[sigT]));have Bd:(l== [115,112,97,110])=J:=(by simpa using ax [115,112,97,110] (by simp[sigT]));have Be:(l== [119,105,116,104,105,110])=J:=(by simpa using ax [119,105,116,104,105,110] (by simp[sigT]));have Bf:(l== [111,118,101,114])=J:=(by simpa using ax [111,118,101,114] (by simp[sigT]));have Bg:(l== [117,110,105,111,110])=J:=(by simpa using ax [117,110,105,111,110] (by simp[sigT]));have Bh:(l== [109,105,110,117,115])=J:=(by simpa using ax [109,105,110,117,115] (by simp[sigT]));have Bi:(l== [97,102,116,101,114])=J:=(by simpa using ax [97,102,116,101,114] (by simp[sigT]));have Bj:(l== [102,105,114,115,116])=J:=(by simpa using ax [102,105,114,115,116] (by simp[sigT]));clear ax;go_enter func93,ntmps93;go_wp2_with fail;go_ret3
 exact ⟨ub5 _ _,rfl⟩
def kuh (l:List UInt8) (w:O):L prog 93 #[Q ⟨l.toArray⟩] w (kaP w (sig l)):=by
 unfold sig sigT;rw[kaB];by_cases aD:l=[108,101,110]
 .rw[ua1 aD,aD];exact kuN w
 rw[ua0 aD];rw[kaB];by_cases af:l=[108,105,110,101,115]
 .rw[ua1 af,af];exact kuM w
 rw[ua0 af];rw[kaB];by_cases ao:l=[115,105,122,101]
 .rw[ua1 ao,ao];exact kuB w
 rw[ua0 ao];rw[kaB];by_cases av:l=[99,111,109,109,111,110]
 .rw[ua1 av,av];exact kuq w
 rw[ua0 av];rw[kaB];by_cases bk:l=[109,105,110]
 .rw[ua1 bk,bk];exact kun w
 rw[ua0 bk];rw[kaB];by_cases cb:l=[109,97,120]
 .rw[ua1 cb,cb];exact kum w
 rw[ua0 cb];rw[kaB];by_cases dE:l=[43]
 .rw[ua1 dE,dE];exact kul w
 rw[ua0 dE];rw[kaB];by_cases fi:l=[45]
 .rw[ua1 fi,fi];exact kuk w
 rw[ua0 fi];rw[kaB];by_cases hv:l=[42]
 .rw[ua1 hv,hv];exact kuj w
 rw[ua0 hv];rw[kaB];by_cases gM:l=[99,111,117,110,116]
 .rw[ua1 gM,gM];exact kui w
 rw[ua0 gM];rw[kaB];by_cases py:l=[61,61]
 .rw[ua1 py,py];exact kuL w
 rw[ua0 py];rw[kaB];by_cases n6:l=[33,61]
 .rw[ua1 n6,n6];exact kuK w
 rw[ua0 n6];rw[kaB];by_cases oK:l=[60]
 .rw[ua1 oK,oK];exact kuJ w
 rw[ua0 oK];rw[kaB];by_cases A1:l=[60,61]
 .rw[ua1 A1,A1];exact kuI w
 rw[ua0 A1];rw[kaB];by_cases A2:l=[97,110,100]
 .rw[ua1 A2,A2];exact kuH w
 rw[ua0 A2];rw[kaB];by_cases A3:l=[111,114]
 .rw[ua1 A3,A3];exact kuG w
 rw[ua0 A3];rw[kaB];by_cases A4:l=[110,111,116]
 .rw[ua1 A4,A4];exact kuF w
 rw[ua0 A4];rw[kaB];by_cases A5:l=[104,97,115]
 .rw[ua1 A5,A5];exact kuE w
 rw[ua0 A5];rw[kaB];by_cases A6:l=[43,43]
 .rw[ua1 A6,A6];exact kuD w
 rw[ua0 A6];rw[kaB];by_cases A7:l=[99,117,116]
 .rw[ua1 A7,A7];exact kuC w
 rw[ua0 A7];rw[kaB];by_cases A8:l=[108,105,110,101]
 .rw[ua1 A8,A8];exact kuA w
 rw[ua0 A8];rw[kaB];by_cases A9:l=[114,101,112]
 .rw[ua1 A9,A9];exact kuz w
 rw[ua0 A9];rw[kaB];by_cases Ba:l=[112,105,99,107]
 .rw[ua1 Ba,Ba];exact kuy w
 rw[ua0 Ba];rw[kaB];by_cases Bb:l=[102,105,110,100]
 .rw[ua1 Bb,Bb];exact kux w
 rw[ua0 Bb];rw[kaB];by_cases Bc:l=[114,111,119,115]
 .rw[ua1 Bc,Bc];exact kuw w
 rw[ua0 Bc];rw[kaB];by_cases Bd:l=[115,112,97,110]
 .rw[ua1 Bd,Bd];exact kuv w
 rw[ua0 Bd];rw[kaB];by_cases Be:l=[119,105,116,104,105,110]
 .rw[ua1 Be,Be];exact kuu w
 rw[ua0 Be];rw[kaB];by_cases Bf:l=[111,118,101,114]
 .rw[ua1 Bf,Bf];exact kut w
 rw[ua0 Bf];rw[kaB];by_cases Bg:l=[117,110,105,111,110]
 .rw[ua1 Bg,Bg];exact kus w
 rw[ua0 Bg];rw[kaB];by_cases Bh:l=[109,105,110,117,115]
 .rw[ua1 Bh,Bh];exact kur w
 rw[ua0 Bh];rw[kaB];by_cases Bi:l=[97,102,116,101,114]
 .rw[ua1 Bi,Bi];exact kup w
 rw[ua0 Bi];rw[kaB];by_cases Bj:l=[102,105,114,115,116]
 .rw[ua1 Bj,Bj];exact kuo w
 rw[ua0 Bj];rw[kaB];refine kug l w fun n ax=>?_;simp only[sigT,uf5,uk8,uc7,ue3,ui2] at ax;rcases ax with rfl|rfl|rfl|rfl|rfl|rfl|rfl|rfl|rfl|rfl|rfl|rfl|rfl|rfl|rfl|rfl|rfl|rfl|rfl|rfl|rfl|rfl|rfl|rfl|rfl|rfl|rfl|rfl|rfl|rfl|rfl|rfl <;> assumption
end Go.Proofs.YtamhdmkolfmmdaaGreatDoor
namespace Go.Proofs.YtamhdmkolfmmdaaGreatDoor
open Go.RowKit
variable {P:Prop}
theorem koE {l:List UInt8} {S:List Int} {r:Int} (h:sig l=N (S,r)):1≤r∧r≤4∧1≤S.length∧S.length≤3:=by
 have dq:∀ bl:List (List UInt8×List Int×Int),(∀ q∈bl,1≤q.2.2∧q.2.2≤4∧1≤q.2.1.length∧q.2.1.length≤3)→kaB l bl=N (S,r)→1≤r∧r≤4∧1≤S.length∧S.length≤3:=fun bl=>by
  induction bl with
  |nil=>intro _ h;cases h
  |cons q bl bQ=>
   obtain ⟨n,a,b⟩:=q;intro bj h;rw[kaB] at h;split at h
   .injection h with h;injection h with af ao;subst af ao;exact bj _ (uf3 ..)
   .exact bQ (fun q bg=>bj q (uf6 _ bg)) h
 exact dq sigT dC h
structure St where
 op:List UInt8
 args:List Int
 num:Int
 text:List UInt8
 ty:Int
deriving DecidableEq
structure OpI where
 args:List Int
 res:Int
 text:Bool
 mbm:Bool
deriving DecidableEq
def kac:List UInt8:=[110,117,109,98,101,114]
def kaF:List UInt8:=[115,116,114,105,110,103]
def kdy:List UInt8:=[114,101,102]
def kbN:List UInt8:=[109,97,116,99,104,101,115]
def kbk:List UInt8:=[102,105,114,115,116,102,105,110,100]
def kbS:List UInt8:=[108,101,110,99,117,116]
def kb5:List UInt8:=[99,111,117,110,116]
def kb4:List UInt8:=[104,97,115]
def kbT:List UInt8:=[102,105,110,100]
def kw2:List UInt8:=[102,105,114,115,116]
def kw3:List UInt8:=[99,117,116]
def opS (q:List Int×Int):OpI:=⟨q.1.filter (fun t=>decide (t≠0)),q.2,q.1.any (fun t=>decide (t=0)),q.1.any (fun t=>decide (t=0))⟩
def opR (n:List UInt8):Option OpI:=
 if n=kac then N ⟨[],1,J,J⟩
 else if n=kaF∨n=kdy then N ⟨[],3,K,J⟩
 else if n=kbN then N ⟨[3],1,K,K⟩
 else if n=kbk then N ⟨[3,1],4,K,K⟩
 else if n=kbS then N ⟨[3,1,1],1,J,J⟩
 else match sig n with
  | none => none
  | some q => some (opS q)
def kbv (p:List UInt8):Int:=if kbY p then 9 else match kbw p with
 |none=>4
 |some r=>if r.fits then 0 else 9
theorem kpu (p:List UInt8):kcw p=kde (kbv p):=by
 unfold kcw kbv;by_cases ak:kbY p=K
 .rw[ua1 ak,ua1 ak];rfl
 .rw[ua0 ak,ua0 ak]
  cases kbw p with
  |none=>rfl
  |some r=>
   dsimp only;by_cases b5:r.fits=K
   .rw[ua1 b5,ua1 b5];rfl
   .rw[ua0 b5,ua0 b5];rfl
def kae (l:List St) (a:Int):Int:=match l[a.toNat]? with
 |some s=>s.ty
 |none=>0
def kbA (l:List St) (s:St) (o:OpI):Bool:=
 if ka9 s.op = K then (if kae l (s.args.getD 0 0) ≠ kae l (s.args.getD 1 0) then J
  else if kae l (s.args.getD 0 0) = 2 then kdz s.op
  else decide (kae l (s.args.getD 0 0) = 1 ∨ kae l (s.args.getD 0 0) = 3))
 else decide (s.args.map (kae l)=o.args)
def ka0 (l:List St) (i:Nat) (s:St):Int:=match opR s.op with
 |none=>4
 | some o =>
  if s.args.length ≠ o.args.length then 4
  else if s.args.any (fun a => decide (a < 0) || decide ((i : Int) ≤ a)) = K then 4
  else if s.num < 0 ∨ (0 < s.num ∧ s.op ≠ kac) ∨ (s.text ≠ [] ∧ o.text = J) then 4
  else if s.ty ≠ o.res ∨ kbA l s o = J then 12
  else if o.mbm = K then kbv s.text else 0
def kdE (l:List St):Nat→List St→Int
 |_,[]=>0
 |i,s::t=>if ka0 l i s≠0 then ka0 l i s else kdE l (i+1) t
def kaf (l:List St):Int:=if l.length=0∨4096<l.length then 4 else kdE l 0 l
def kai (n:List UInt8):Int:=
 if n=kac∨n=kaF∨n=kdy then 1
 else if n∈([[43,43],kw3,[108,105,110,101],[114,101,112],[112,105,99,107],[99,111,109,109,111,110],[119,105,116,104,105,110],[111,118,101,114],[97,102,116,101,114],[117,110,105,111,110],[109,105,110,117,115],kw2,kbS]:List (List UInt8)) then 8
 else if n=[114,111,119,115] then 32
 else if n∈([kb5,kb4,kbT,kbN,kbk]:List (List UInt8)) then 64
 else 2
def kaq (l:List St):Int:=(l.map fun s=>kai s.op).sum
theorem kgf {l:List St} :∀(t:List St) (i:Nat),kdE l i t=0↔∀ j s,t[j]? =N s→ka0 l (i+j) s=0
 |[],i=>by simp[kdE]
 |x::t,i=>by
  unfold kdE;constructor
  .intro h j s al;split at h
   .rename_i ch;exact absurd h ch
   .rename_i ch
    cases j with
    |zero=>simp only[gB,ug0] at al;subst al;simpa using ch
    |succ j=>have:=(kgf t (i+1)).1 h j s (by simpa using al);rw[show i+(j+1)=i+1+j by omega];exact this
  .intro h;have aD:=h 0 x rfl;rw[uh4] at aD;rw[ua0 (by simp[aD])];exact (kgf t (i+1)).2 fun j s al=>by have:=h (j+1) s (by simpa using al);rw[show i+1+j=i+(j+1) by omega];exact this
def kfa {l:List St} (h:kaf l=0):1≤l.length∧l.length≤4096∧∀ i s,l[i]? =N s→ka0 l i s=0:=by
 unfold kaf at h;split at h
 .omega
 .rename_i az;exact ⟨oM,oM,fun i s al=>by have:=(kgf l 0).1 h i s al;rwa [ud3] at this⟩
structure Fine (l:List St) (i:Nat) (s:St) (o:OpI):Prop where
 op:opR s.op=N o
 len:s.args.length=o.args.length
 back:∀ a∈s.args,0≤a∧a<i
 num:0≤s.num
 mct:0<s.num→s.op=kac
 text:s.text≠ []→o.text=K
 ty:s.ty=o.res
 typed:kbA l s o=K
 pat:o.mbm=K→kbv s.text=0
def kon {l:List St} {i:Nat} {s:St} (h:ka0 l i s=0):∃ o,Fine l i s o:=by
 unfold ka0 at h;split at h
 .omega
 .rename_i o bf;split at h
  .omega
  .rename_i af;split at h
   .omega
   .rename_i ao;split at h
    .omega
    .rename_i av;split at h
     .omega
     .rename_i bk;simp only[ul6,not_and] at av bk;refine ⟨o,bf,oM,fun a aE=>?_,oM,fun ax=>?_,fun aB=>?_,by have:=bk.1;omega,by simpa using bk.2,fun am=>?_⟩
      .simp only[up2,ur4,ue8,not_exists,not_and,ul6] at ao;have:=ao a aE;omega
      .have:=av.2.1 ax;simpa using this
      .have:=av.2.2 aB;simpa using this
      .rw[ua1 am] at h;exact h
def kS {a b:Option OpI} (h:a=b:=by kernel_rfl):a=b:=h
def khE {w:O} {g:Nat} {t:ah} {a b c d:C} (h:Blk w g t #[a,b,c,d]):w.cell? ⟨g,0,Z⟩=N a∧w.cell? ⟨g,1,Z⟩=N b∧w.cell? ⟨g,2,Z⟩=N c∧w.cell? ⟨g,3,Z⟩=N d∧
  w.frozen? ⟨g, 0, Z⟩ = J ∧ w.frozen? ⟨g, 1, Z⟩ = J ∧ w.frozen? ⟨g, 2, Z⟩ = J ∧ w.frozen? ⟨g, 3, Z⟩ = J :=
 ⟨h.cell 0, h.cell 1, h.cell 2, h.cell 3, h.frozen 0, h.frozen 1, h.frozen 2, h.frozen 3⟩
def krj {w aq:O} {g:Nat} {a b c d:C} (h:H w w aq) (hg:w.heap.size≤g):H w w ((((aq.setCell ⟨g,0,Z⟩ a).setCell ⟨g,1,Z⟩ b).setCell ⟨g,2,Z⟩ c).setCell ⟨g,3,Z⟩ d):=
 (((h.setCell hg a).setCell hg b).setCell hg c).setCell hg d
def kdt {w:O} {base e size n:Nat} {v:C} {xs:List C} (h:w.ownsRow base e size v n xs) {p:ae} (aO:v.ownBlock≠N p.block) (u:C):(w.setCell p u).ownsRow base e size v n xs:=by
 refine ⟨h.1,?_⟩;rcases h.2 with h|⟨g,cap,cur,af,ao,av,bk⟩
 .exact .inl h
 .refine .inr ⟨g,cap,cur,af,ao,?_,bk⟩;have ch:g≠p.block:=fun e=>aO (by rw[af,←e];rfl);exact (ud7 w p u g ch).trans av
def StV (w:O) (F:Nat→Prop) (s:St) (cs:List C):Prop:=
 ∃(A:Option ae) (c:Nat),cs=[Q ⟨s.op.toArray⟩,D A s.args.length c,I U s.num,Q ⟨s.text.toArray⟩,I U s.ty]∧RdF w F 1 A s.args.length (s.args.map (I U))
def StVs (w:O) (F:Nat→Prop):List St→List C→Prop
 |[],cs=>cs=[]
 |s::l,cs=>∃ a b,cs=a++b∧StV w F s a∧StVs w F l b
def PlAt (w:O) (F:Nat→Prop) (A:Option ae) (l:List St):Prop:=∃ bV,RdF w F 5 A l.length bV∧StVs w F l bV
section
variable {w w':O} {F G:Nat→Prop}
theorem StV.keep (aw:∀ i,F i→i<w.heap.size→w'.heap[i]? =w.heap[i]?) (al:w.heap.size≤w'.heap.size) (el:∀ i,F i→i<w.heap.size→G i) {s:St} {cs:List C} (h:StV w F s cs):StV w' G s cs:=by obtain ⟨A,c,af,ao⟩:=h;exact ⟨A,c,af,ao.keep aw al el⟩
theorem StVs.keep (aw:∀ i,F i→i<w.heap.size→w'.heap[i]? =w.heap[i]?) (al:w.heap.size≤w'.heap.size) (el:∀ i,F i→i<w.heap.size→G i):∀ {l:List St} {cs:List C},StVs w F l cs→StVs w' G l cs
 |[],_,h=>h
 |s::l,cs,h=>by obtain ⟨a,b,af,ao,av⟩:=h;exact ⟨a,b,af,ao.keep aw al el,StVs.keep aw al el av⟩
theorem PlAt.keep (aw:∀ i,F i→i<w.heap.size→w'.heap[i]? =w.heap[i]?) (al:w.heap.size≤w'.heap.size) (el:∀ i,F i→i<w.heap.size→G i) {A:Option ae} {l:List St} (h:PlAt w F A l):PlAt w' G A l:=by obtain ⟨bV,af,ao⟩:=h;exact ⟨bV,af.keep aw al el,ao.keep aw al el⟩
theorem PlAt.below {A:Option ae} {l:List St} (h:PlAt w (fun i=>i<w.heap.size) A l) (ak:H w w w'):PlAt w' (fun i=>i<w'.heap.size) A l:=
 h.keep (fun i (hi:i<_) _=>ak.block i hi) ak.size (fun _ hi _=>ua7 hi ak.size)
theorem PlAt.at_ {B:Nat} {A:Option ae} {l:List St} (h:PlAt w (fun i=>i<B) A l) (ak:H B w w'):PlAt w' (fun i=>i<B) A l:=
 h.keep (fun i (hi:i<_) _=>ak.block i hi) (uc9 ak.size (nR)) (fun _ hi _=>hi)
theorem StV.len {s:St} {cs:List C} (h:StV w F s cs):cs.length=5:=by obtain ⟨A,c,rfl,_⟩:=h;rfl
theorem StVs.append:∀ {l l':List St} {cs eo:List C},StVs w F l cs→StVs w F l' eo→StVs w F (l++l') (cs++eo)
 |[],_,cs,_,h,fg=>by have h:cs=[]:=h;rw[h];exact fg
 |s::l,_,cs,_,h,fg=>by obtain ⟨a,b,af,ao,av⟩:=h;exact ⟨a,b++_,by rw[af,uc2],ao,StVs.append av fg⟩
theorem StVs.one {s:St} {cs:List C} (h:StV w F s cs):StVs w F [s] cs:=⟨cs,[],by simp,h,rfl⟩
theorem StVs.get:∀ {l:List St} {bV:List C},StVs w F l bV→∀(i:Nat) (s:St),l[i]? =N s→∃ cs,StV w F s cs∧∀(j:Nat) u,cs[j]? =N u→bV[i*5+j]? =N u
 |[],_,_,i,s,al=>by simp at al
 |x::l,bV,h,i,s,al=>by
  obtain ⟨a,b,af,ao,av⟩:=h;have az:=ao.len
  cases i with
  |zero=>simp only[gB,ug0] at al;subst al;exact ⟨a,ao,fun j u aS=>by rw[af,ui1 (by rw[un4,ud3];exact (gH aS).1),un4,ud3];exact aS⟩
  |succ i=>obtain ⟨cs,aL,bJ⟩:=StVs.get av i s (by simpa using al);refine ⟨cs,aL,fun j u aS=>?_⟩;rw[af,uf4 oM,az,show (i+1)*5+j-5=i*5+j by omega];exact bJ j u aS
theorem RdF.form {size n:Nat} {A:Option ae} {xs:List C} (h:RdF w F size A n xs) (ax:0<n):∃ b o,A=N ⟨b,o,Z⟩∧F b∧b<w.heap.size∧∀ j u,xs[j]? =N u→w.cell? ⟨b,o+j,Z⟩=N u:=by obtain ⟨b,o,af,ao,av,bk⟩:=h.2 ax;exact ⟨b,o,af,ao,av,bk⟩
theorem PlAt.step {A:Option ae} {l:List St} (h:PlAt w F A l) {i:Nat} {s:St} (al:l[i]? =N s):∃ b o dd c,A=N ⟨b,o,Z⟩∧F b∧b<w.heap.size∧w.cell? ⟨b,o+i*5,Z⟩=N (Q ⟨s.op.toArray⟩)∧w.cell? ⟨b,o+i*5+1,Z⟩=N (D dd s.args.length c)∧
 w.cell? ⟨b,o+i*5+2,Z⟩=N (I U s.num)∧w.cell? ⟨b,o+i*5+3,Z⟩=N (Q ⟨s.text.toArray⟩)∧w.cell? ⟨b,o+i*5+4,Z⟩=N (I U s.ty)∧RdF w F 1 dd s.args.length (s.args.map (I U)):=by
 obtain ⟨bV,af,ao⟩:=h;have az:=(gH al).1;obtain ⟨b,o,rfl,hF,bG,an⟩:=af.form oM;obtain ⟨cs,⟨dd,c,rfl,av⟩,bk⟩:=ao.get i s al;have dq:∀(j:Nat) u,([Q ⟨s.op.toArray⟩,D dd s.args.length c,I U s.num,Q ⟨s.text.toArray⟩,I U s.ty]:List C)[j]? =N u→w.cell? ⟨b,o+i*5+j,Z⟩=N u:=fun j u aS=>by rw[un6];exact an _ u (bk j u aS)
 exact ⟨b,o,dd,c,rfl,hF,bG,dq 0 _ rfl,dq 1 _ rfl,dq 2 _ rfl,dq 3 _ rfl,dq 4 _ rfl,av⟩
theorem RdF.int {A:Option ae} {zs:List Int} (h:RdF w F 1 A zs.length (zs.map (I U))) {k:Nat} {z:Int} (bd:zs[k]? =N z):∃ b o,A=N ⟨b,o,Z⟩∧F b∧b<w.heap.size∧w.cell? ⟨b,o+k,Z⟩=N (I U z):=by have az:=(gH bd).1;obtain ⟨b,o,af,ao,av,bk⟩:=h.form oM;exact ⟨b,o,af,ao,av,bk k _ (by rw[ub9,bd];rfl)⟩
end
def kjE {w:O} {base e size n:Nat} {v:C} {xs:List C} (h:w.ownsRow base e size v n xs) (ax:0<n):∃(g c:Nat) (cur:Array C),v=D (N ⟨g,0,Z⟩) n c∧n≤c∧base≤g∧Blk w g e cur∧cur.size=c*size∧cur.toList.take (n*size)=xs∧
 (∀(w':O) (Aw:Array C) (l6:List C),Blk w' g e Aw→Aw.size=cur.size→l6.length=n*size→Aw.toList.take (n*size)=l6→w'.ownsRow base e size v n l6):=by
 obtain ⟨af,ao⟩:=h;rcases ao with ⟨_,rfl⟩|⟨g,cap,cur,au,av,bk,cb,dE,fi,hv⟩
 .omega
 .exact ⟨g,cap,cur,au,cb,av,bk,fi,hv,fun w' Aw l6 ak al az aB=>⟨az, .inr ⟨g,cap,Aw,au,av,ak,cb,dE,al.trans fi,aB⟩⟩⟩
def kbE {w:O} {base e size n g:Nat} {v:C} {xs:List C} (h:w.ownsRow base e size v n xs) (hg:v.ownBlock=N g):base≤g∧∃ cur,Blk w g e cur:=by
 rcases h.2 with ⟨rfl,_⟩|⟨mH,cap,cur,rfl,av,dq,_⟩
 .simp[Value.ownBlock] at hg
 .have:mH=g:=(by simpa[Value.ownBlock] using hg);subst this;exact ⟨av,cur,dq⟩
def kme (h:P:=by go_enter func53,ntmps53;go_wp2_with fail;refine ub2 (v:=ag #[aa #[D Z 0 0,I U 3,V K,V J],V K]) (by simp[results,results53,go_sem]) rfl ?_;exact keN ⟨[],3,K,J⟩ (A:=Z) (c:=0) kS rfl (kax w _) (kpd _ _ _ _)):=h
def kdH (w:O) (n:List UInt8) (e:Ending) (w':O):Prop:=H w w w'∧match opR n with
 |none=>e=ac (ag #[aa #[D none 0 0,I U 0,V false,V false],V false])
 |some o=>∃ A c,e=ac (ag #[aa #[D A o.args.length c,I U o.res,V o.text,V o.mbm],V true])∧RdF w' (rng w w'.heap.size) 1 A o.args.length (o.args.map (I U))
def keN {w w':O} {n:List UInt8} {e:Ending} (o:OpI) {A:Option ae} {c:Nat} (bf:opR n=N o) (aG:e=ac (ag #[aa #[D A o.args.length c,I U o.res,V o.text,V o.mbm],V K])) (ak:H w w w') (am:RdF w' (rng w w'.heap.size) 1 A o.args.length (o.args.map (I U))):
 kdH w n e w':=by
 refine ⟨ak,?_⟩;rw[bf];exact ⟨A,c,aG,am⟩
def kpd (w:O) (F:Nat→Prop) (size:Nat) (A:Option ae):RdF w F size A 0 []:=⟨by simp,fun h=>absurd h oM⟩
def kjw {w:O} {F:Nat→Prop} {g:Nat} {t:ah} {cs:Array C} (ak:Blk w g t cs) (hF:F g) (n size:Nat) (ax:cs.size=n*size):RdF w F size (N ⟨g,0,Z⟩) n cs.toList:=
 ⟨by simpa using ax,fun _=>⟨g,0,rfl,hF,ak.lt,fun j u aS=>by rw[ud3,ak.cell];simpa using aS⟩⟩
def kjv {w:O} {F:Nat→Prop} {base e size n c:Nat} {A:Option ae} {xs:List C} (h:w.ownsRow base e size (D A n c) n xs) (hF:∀ g,base≤g→g<w.heap.size→F g):RdF w F size A n xs:=by refine ⟨h.1,fun ax=>?_⟩;obtain ⟨g,cS,au,_,rN,ef,an⟩:=kb3 h ax;injection au with d4;exact ⟨g,0,d4,hF g rN ef,ef,fun j u aS=>by rw[ud3];exact an j u aS⟩
def kvX (w:O):L prog 53 #[Q ⟨#[110,117,109,98,101,114]⟩] w (kdH w [110,117,109,98,101,114]):=by go_enter func53,ntmps53;go_wp2_with fail;refine ub2 (v:=ag #[aa #[D Z 0 0,I U 1,V J,V J],V K]) (by simp[results,results53,go_sem]) rfl ?_;exact keN ⟨[],1,J,J⟩ (A:=Z) (c:=0) kS rfl (kax w _) (kpd _ _ _ _)
def kvU (w:O):L prog 53 #[Q ⟨#[115,116,114,105,110,103]⟩] w (kdH w [115,116,114,105,110,103]):=by exact kme
def kvW (w:O):L prog 53 #[Q ⟨#[114,101,102]⟩] w (kdH w [114,101,102]):=by exact kme
def kvY (w:O):L prog 53 #[Q ⟨#[109,97,116,99,104,101,115]⟩] w (kdH w [109,97,116,99,104,101,115]):=by
 go_enter func53,ntmps53;go_wp2_with fail;refine ub2 (v:=ag #[aa #[D (N ⟨w.heap.size+1,0,Z⟩) 1 1,I U 1,V K,V K],V K]) (by simp[results,results53,go_sem]) rfl ?_;refine keN ⟨[3],1,K,K⟩ (A:=N ⟨w.heap.size+1,0,Z⟩) (c:=1) kS rfl ?_ ?_
 .exact ((kax w _).alloc (by simp) _)
 .refine kjw (t:=3) (cs:= #[I .i64 3]) ?_ ⟨oM,by simp⟩ 1 1 rfl;have:=Blk.new (w.alloc (y #[D (N ⟨w.heap.size+1,0,Z⟩) 1 1,I U 1,V K,V K] 111)) 3 #[I .i64 3];simpa using this
def kv0 (w:O):L prog 53 #[Q ⟨#[102,105,114,115,116,102,105,110,100]⟩] w (kdH w [102,105,114,115,116,102,105,110,100]):=by
 go_enter func53,ntmps53;go_wp2_with fail;refine ub2 (v:=ag #[aa #[D (N ⟨w.heap.size+1,0,Z⟩) 2 2,I U 4,V K,V K],V K]) (by simp[results,results53,go_sem]) rfl ?_;refine keN ⟨[3,1],4,K,K⟩ (A:=N ⟨w.heap.size+1,0,Z⟩) (c:=2) kS rfl ?_ ?_
 .exact ((kax w _).alloc (by simp) _)
 .refine kjw (t:=3) (cs:= #[I .i64 3,I U 1]) ?_ ⟨oM,by simp⟩ 2 1 rfl;have:=Blk.new (w.alloc (y #[D (N ⟨w.heap.size+1,0,Z⟩) 2 2,I U 4,V K,V K] 111)) 3 #[I .i64 3,I U 1];simpa using this
def kvZ (w:O):L prog 53 #[Q ⟨#[108,101,110,99,117,116]⟩] w (kdH w [108,101,110,99,117,116]):=by
 go_enter func53,ntmps53;go_wp2_with fail;refine ub2 (v:=ag #[aa #[D (N ⟨w.heap.size+1,0,Z⟩) 3 3,I U 1,V J,V J],V K]) (by simp[results,results53,go_sem]) rfl ?_;refine keN ⟨[3,1,1],1,J,J⟩ (A:=N ⟨w.heap.size+1,0,Z⟩) (c:=3) kS rfl ?_ ?_
 .exact ((kax w _).alloc (by simp) _)
 .refine kjw (t:=3) (cs:= #[I .i64 3,I U 1,I U 1]) ?_ ⟨oM,by simp⟩ 3 1 rfl;have:=Blk.new (w.alloc (y #[D (N ⟨w.heap.size+1,0,Z⟩) 3 3,I U 1,V J,V J] 111)) 3 #[I .i64 3,I U 1,I U 1];simpa using this
theorem kv3 (n:List UInt8) (gh:n≠ [110,117,109,98,101,114]) (e2:n≠ [115,116,114,105,110,103]) (fT:n≠ [114,101,102]) (mx:n≠ [109,97,116,99,104,101,115]) (qq:n≠ [102,105,114,115,116,102,105,110,100]) (qr:n≠ [108,101,110,99,117,116]):opR n=(match sig n with
 |none=>none
 |some q=>some (opS q)):=by
 unfold opR kac kaF kdy kbN kbk kbS;rw[ua0 gh,ua0 (fun h=>h.elim e2 fT),ua0 mx,ua0 qq,ua0 qr];try (cases sig n<;>rfl)
def OpSt (S:List Int) (k:Nat) (zs:List Int) (hT:Bool):Prop:=zs=(S.take k).filter (fun t=>decide (t≠0))∧hT=(S.take k).any (fun t=>decide (t=0))
def OpSt.zero (S:List Int):OpSt S 0 [] J:=⟨rfl,rfl⟩
def OpSt.yes {S:List Int} {k:Nat} {zs:List Int} {hT:Bool} (h:OpSt S k zs hT) (aB:S.take (k+1)=S.take k++[0]):OpSt S (k+1) zs K:=by obtain ⟨rfl,rfl⟩:=h;unfold OpSt;rw[aB];simp
def OpSt.no {S:List Int} {k:Nat} {zs:List Int} {hT:Bool} {t:Int} (h:OpSt S k zs hT) (aB:S.take (k+1)=S.take k++[t]) (aD:t≠0):OpSt S (k+1) (zs++[t]) hT:=by obtain ⟨rfl,rfl⟩:=h;unfold OpSt;rw[aB];simp[aD]
def OpSt.mcv {S:List Int} {zs:List Int} {hT:Bool} {r:Int} (h:OpSt S S.length zs hT):opS (S,r)=⟨zs,r,hT,hT⟩:=by obtain ⟨rfl,rfl⟩:=h;rw[uf2];rfl
def kC0 (w:O) (S:List Int) (r:Int) (d8 g:Nat) (f:Nat) (i:C) (wr:O):Prop:=∃(k:Nat) (zs:List Int) (hT:Bool) (A:Option ae) (c:Nat),i=I U k∧k≤S.length∧S.length-k<f∧zs.length≤k∧Hz (OpSt S k zs hT)∧
 Hz (Blk wr g 111 #[D A zs.length c,I U r,V hT,V hT])∧
 Hz (wr.ownsRow g 3 1 (D A zs.length c) zs.length (zs.map (I U)))∧
 Hz (Blk wr d8 3 (S.map (I U)).toArray)∧Hz (Blk wr w 111 #[D Z 0 0,I U 0,V J,V J])∧Hz (H w w wr)
def kqw:(prog.info? 3).map (fun i=>(i.zero,i.size,i.bytes))=N (N (I U 0),1,8):=kR
theorem kvV (n:List UInt8) (gh:n≠ [110,117,109,98,101,114]) (e2:n≠ [115,116,114,105,110,103]) (fT:n≠ [114,101,102]) (mx:n≠ [109,97,116,99,104,101,115]) (qq:n≠ [102,105,114,115,116,102,105,110,100]) (qr:n≠ [108,101,110,99,117,116]) (w:O):L prog 53 #[Q ⟨n.toArray⟩] w (kdH w n):=by
 have c1:=hD (kv3 n gh e2 fT mx qq qr);have aD:(n== [110,117,109,98,101,114])=J:=(by simpa using gh);have af:(n== [115,116,114,105,110,103])=J:=(by simpa using e2);have ao:(n== [114,101,102])=J:=(by simpa using fT);have av:(n== [109,97,116,99,104,101,115])=J:=(by simpa using mx);have bk:(n== [102,105,114,115,116,102,105,110,100])=J:=(by simpa using qq);have cb:(n== [108,101,110,99,117,116])=J:=(by simpa using qr);have f7:=hD (Blk.new w 111 #[D Z 0 0,I U 0,V J,V J]);clear gh e2 fT mx qq qr;go_enter func53,ntmps53;go_wp2_with fail;refine (kuh n _).mono ?_;rintro e aq ⟨cm,af⟩;have f7:=hD (f7.o.below cm (by simp));have a7:=hD cm;have cJ:=cm.size;simp at cJ;clear cm
 cases al:sig n with
 |none=>rw[al] at af;have af:e=_:=af;subst af;have b7:=hD (show opR n=Z by rw[c1.o,al]);obtain ⟨aN,aM,aZ,bC,f0,b2,cB,dS⟩:=khE f7.o;clear al;go_wp2_with fail;refine ub2 (v:=ag #[aa #[D Z 0 0,I U 0,V J,V J],V J]) (by simp[results,results53,go_sem,aN,aM,aZ,bC]) rfl ?_;refine ⟨krj ((kax w _).trans (a7.o.mono (by simp))) (nR),?_⟩;rw[b7.o]
 |some q=>
  obtain ⟨S,r⟩:=q;rw[al] at af;obtain ⟨aM,rfl,c4⟩:=af;have b7:=hD (show opR n=N (opS (S,r)) by rw[c1.o,al]);have d3:=hD c4;have hm:=koE al;have YE:S.length≤3:=hm.2.2.2;have n7:(w.alloc (y #[D Z 0 0,I U 0,V J,V J] 111)).heap.size=w.heap.size+1:=(by simp);rw[n7] at d3;rw[n7];clear al c4 hm c1;go_wp2_with fail;go_loopg [43,9] (S.length+1) (fun f i _ wr=>kC0 w S r (w.heap.size+1) aq.heap.size f i wr)
  case atStart=>
   refine ⟨0,[],J,Z,0,rfl,oM,oM,by simp,hD (OpSt.zero S),?_,?_,?_,?_,?_⟩
   .exact hD (Blk.new aq 111 _)
   .exact hD ⟨rfl, .inl ⟨rfl,rfl⟩⟩
   .exact hD (d3.o.alloc _)
   .exact hD (f7.o.alloc _)
   .exact hD (((kax w _).trans (a7.o.mono (by simp))).alloc oM _)
  case round=>
   obtain ⟨k,zs,hT,A,c,rfl,aw,fo,YF,gv,fh,gu,j7,yj,ep⟩:=hrel;obtain ⟨f,rfl⟩:=xS gk;obtain ⟨aN,On,aZ,bC,f0,b2,cB,dS⟩:=khE fh.o;have ef:=fh.o.lt;by_cases bG:k<S.length
   .obtain ⟨t,aB⟩:∃ t,S[k]? =N t:=⟨S[k],ua3 bG⟩;have mZ:wr.cell? ⟨w.heap.size+1,k,Z⟩=N (I U t):=(by rw[j7.o.cell];simp[aB]);have g8:S.take (k+1)=S.take k++[t]:=(by rw[ue0,aB];rfl);have yk:=hD g8;clear aB g8;have cU:(k:Int)<(S.length:Int):=oM;by_cases aD:t=0
    .subst aD;go_wp2_with fail;have rK:=hD ((fh.o.mac 2 (V K)).mac 3 (V K));go_roundg f
     case measure=>omega
     case rel=>have ak:=ep.o.size;have Bk:w.heap.size≤aq.heap.size:=oM;refine ⟨k+1,zs,K,A,c,by go_num,oM,oM,oM,hD (gv.o.yes yk.o),rK,hD (kdt (kdt gu.o (p:=⟨aq,2,Z⟩) (ka5 gu.o fh.o dC) _) (p:=⟨aq,3,Z⟩) (ka5 gu.o fh.o dC) _),hD ((j7.o.far (p:=⟨aq,2,Z⟩) (by show _≠aq.heap.size;exact Blk.ne_ j7.o fh.o dC) _).far (p:=⟨aq,3,Z⟩) (by show _≠aq.heap.size;exact Blk.ne_ j7.o fh.o dC) _),hD ((yj.o.far (p:=⟨aq,2,Z⟩) (by show _≠aq.heap.size;omega) _).far (p:=⟨aq,3,Z⟩) (by show _≠aq.heap.size;omega) _),hD ((ep.o.setCell (p:=⟨aq,2,Z⟩) Bk _).setCell (p:=⟨aq,3,Z⟩) Bk _)⟩
    .have bw:(t==0)=J:=(by simpa using aD);have qh:=hD (gv.o.no yk.o aD);have gc:=gu.o.alloc (y #[I .i64 t] 3);have e9:=kvx wr (I U t) 3;have d9:∀ u∈([I .i64 t]:List C),u.oneCell'=K:=(by simp[Value.oneCell']);have ak:=ep.o.size;have ws:(D A zs.length c).ownBlock≠N aq.heap.size:=ka5 gu.o fh.o dC;have dU:(D A zs.length c).ownBlock≠N w.heap.size:=ka5 gu.o yj.o dC;have m0:(D A zs.length c).ownBlock≠N (w.heap.size+1):=fun e=>by have:=(kbE gu.o e).1;have:=d3.o.lt;omega
     have kN:=fun j e=>(kbE gu.o (g:=j) e).1;obtain ⟨yl,wt,iQ,kV⟩:=hd4 m0 ws dU kN;clear aD ws dU kN m0;obtain ⟨eX,cM,ds,Ip,Iq⟩:=ug6 kqw;(go_wp2_with (at_builtin;refine kbs _ rfl (.tmp 52) (.tmp 54) 47 rfl aq 3 eX (I U 0) 1 8 underlying47 cM ds Ip Iq rfl dC _ zs.length _ rfl gc _ _ _ _ [I .i64 t] rfl e9 d9 (by unfold maxLen;omega) oM (by simp;omega) ?_));intro v5 bm h5 g3 g7;obtain ⟨fs,c5,rfl⟩:=kaA h5;have j8:=hD (show bm.ownsRow aq 3 1 (D fs (zs++[t]).length c5) (zs++[t]).length ((zs++[t]).map (I U)) by rw[ua6,uj3];exact h5);have DM:=(fh.o.alloc (y #[I .i64 t] 3)).grown g3 (fun e=>wt.o e.symm);have gN:=hD ((j7.o.alloc (y #[I .i64 t] 3)).grown g3 (fun e=>by have aG:(D A zs.length c).ownBlock=N (w.heap.size+1):=e.symm;exact yl.o aG));have dQ:=hD ((yj.o.alloc (y #[I .i64 t] 3)).grown g3 (fun e=>iQ.o e.symm));have cN:=hD ((ep.o.alloc ak (y #[I .i64 t] 3)).grown g3 (by simp;omega) (fun j e=>by have:=kV.o j e;omega));obtain ⟨bu,bY,cP,c8,z0,ca,cI,z3⟩:=khE DM;have uv:=hD DM;have eI:(zs++[t]).length=zs.length+1:=(by simp);have ym:=hD eI;clear gc e9 d9 cM ds Ip Iq h5 g3 g7 DM eI aN On aZ bC f0 b2 cB dS;go_wp2_with fail;go_roundg f
     case measure=>omega
     case rel=>
      have Bk:w.heap.size≤aq.heap.size:=oM;have b0:=uv.o.mac 0 (D fs (zs++[t]).length c5);refine ⟨k+1,zs++[t],hT,fs,c5,by go_num,oM,oM,by rw[ym.o];omega,qh,hD ?_,hD ?_,hD ?_,hD ?_,hD ?_⟩
      .rw[ym.o] at b0 ⊢;exact b0
      .exact kdt j8.o (p:=⟨aq,0,Z⟩) (ka5 j8.o uv.o dC) _
      .exact gN.o.far (p:=⟨aq,0,Z⟩) (by show _≠aq.heap.size;exact Blk.ne_ gN.o uv.o dC) _
      .exact dQ.o.far (p:=⟨aq,0,Z⟩) (by show _≠aq.heap.size;omega) _
      .exact cN.o.setCell (p:=⟨aq,0,Z⟩) Bk _
   .have Oo:k=S.length:=oM;subst Oo;obtain ⟨bi,aW,bc,br,z0,ca,cI,z3⟩:=khE yj.o;have yn:=hD (b7.o.trans (ud4 N (gv.o.mcv (r:=r))));have YG:w.heap.size≠aq.heap.size:=oM;go_wp2_with fail;refine ub2 (v:=ag #[aa #[D A zs.length c,I U r,V hT,V hT],V K]) (by simp[results,results53,go_sem,bi,aW,bc,br]) rfl ?_;refine keN ⟨zs,r,hT,hT⟩ (A:=A) (c:=c) yn.o rfl (krj ep.o (nR)) (kjv (base:=aq.heap.size) (e:=3) (n:=zs.length) (c:=c) ?_ (fun g af ao=>⟨oM,ao⟩));have fn:(D A zs.length c).ownBlock≠N w.heap.size:=ka5 gu.o yj.o dC;exact kdt (kdt (kdt (kdt gu.o (p:=⟨w,0,Z⟩) fn _) (p:=⟨w,1,Z⟩) fn _) (p:=⟨w,2,Z⟩) fn _) (p:=⟨w,3,Z⟩) fn _
def kv1 (n:List UInt8) (w:O):L prog 53 #[Q ⟨n.toArray⟩] w (kdH w n):=by
 by_cases gh:n=[110,117,109,98,101,114]
 .subst gh;exact kvX w
 by_cases e2:n=[115,116,114,105,110,103]
 .subst e2;exact kvU w
 by_cases fT:n=[114,101,102]
 .subst fT;exact kvW w
 by_cases mx:n=[109,97,116,99,104,101,115]
 .subst mx;exact kvY w
 by_cases qq:n=[102,105,114,115,116,102,105,110,100]
 .subst qq;exact kv0 w
 by_cases qr:n=[108,101,110,99,117,116]
 .subst qr;exact kvZ w
 exact kvV n gh e2 fT mx qq qr w
def kly (h:P:=by go_enter func78,ntmps78;go_wp2_with fail;go_ret;exact ⟨by rw[a1.o];rfl,((ub5 _ _).alloc (nR) _).alloc (by simp) _⟩):=h
def kfX {a:Int} (h:0≤a):∃ m:Nat,a=m:=⟨a.toNat,oM⟩
def kqt {s:List UInt8} (h:ka9 s=K):s=[61,61]∨s=[33,61]∨s=[60]∨s=[60,61]:=by unfold ka9 at h;simpa using h
def kcu {l:List St} {m:Nat} {s:St} (h:l[m]? =N s):kae l (m:Int)=s.ty:=by unfold kae;rw[ub7,h]
structure TypIn (w:O) (A:Option ae) (l:List St) (s:St) (c6:Option ae) (o:OpI) (fa:Option ae):Prop where
 pl:PlAt w (fun i=>i<w.heap.size) A l
 ar:RdF w (fun i=>i<w.heap.size) 1 c6 s.args.length (s.args.map (I U))
 oa:RdF w (fun i=>i<w.heap.size) 1 fa o.args.length (o.args.map (I U))
 len:s.args.length=o.args.length
 back:∀ a∈s.args,0≤a∧a<(l.length:Int)
 small:l.length≤100000
theorem ktd (A:Option ae) (c:Nat) (l:List St) (s:St) (c6:Option ae) (cs:Nat) (o:OpI) (fa:Option ae) (ft:Nat) (w:O) (h:TypIn w A l s c6 o fa) (an:ka9 s.op=K) (ao:s.args.length=2):
 L prog 78 #[D A l.length c,aa #[Q ⟨s.op.toArray⟩,D c6 s.args.length cs,I U s.num,Q ⟨s.text.toArray⟩,I U s.ty],aa #[D fa o.args.length ft,I U o.res,V o.text,V o.mbm]] w fun e w'=>e=ac (V (kbA l s o))∧H w w w':=by
 obtain ⟨op,args,num,text,ty⟩:=s
 obtain ⟨a0,aY,rfl⟩:∃ a0 aY,args=[a0,aY]:=by
  match args,ao with
  |[a0,aY],_=>exact ⟨a0,aY,rfl⟩
 obtain ⟨fJ,rfl⟩:=kfX (h.back a0 (by simp)).1;obtain ⟨fN,rfl⟩:=kfX (h.back aY (by simp)).1;have hw:fJ<l.length:=(by have:=(h.back fJ (by simp)).2;omega);have oL:fN<l.length:=(by have:=(h.back fN (by simp)).2;omega);have hU:l[fJ]? =N l[fJ]:=ua3 _;have gZ:l[fN]? =N l[fN]:=ua3 _;have aH:kbA l ⟨op,[(fJ:Int),(fN:Int)],num,text,ty⟩ o=(if l[fJ].ty≠l[fN].ty then J else if l[fJ].ty=2 then kdz op else decide (l[fJ].ty=1∨l[fJ].ty=3)):=(by unfold kbA;rw[ua1 an];show (if kae l (fJ:Int)≠kae l (fN:Int) then J else if kae l (fJ:Int)=2 then kdz op else decide (kae l (fJ:Int)=1∨kae l (fJ:Int)=3))=_;rw[kcu hU,kcu gZ]);obtain ⟨fj,oa,rfl,_,e0,Oq⟩:=RdF.int (zs:=[(fJ:Int),(fN:Int)]) h.ar (k:=0) rfl;obtain ⟨YH,YI,DN,_,_,YJ⟩:=RdF.int (zs:=[(fJ:Int),(fN:Int)]) h.ar (k:=1) rfl;injection DN with DN;injection DN with XU XV;subst XU XV;obtain ⟨b,hV,_,_,rfl,_,ak,_,_,_,_,cE,_⟩:=h.pl.step hU;obtain ⟨cx,YK,_,_,DO,_,_,_,_,_,_,dy,_⟩:=h.pl.step gZ;injection DO with DO;injection DO with XW XX;subst XW XX;have ba:=kqt an;generalize l[fJ].ty=t0 at*;generalize l[fN].ty=bb at*;have ax:(l.length:Int)≤100000:=(by have:=h.small;omega);have cU:(fJ:Int)<(l.length:Int):=oM;have bE:(fN:Int)<(l.length:Int):=oM;have c2:=nN fJ;have j4:=nN fN;have a1:=hD aH;rw[uh4] at Oq;clear aH h an ao hU gZ;rcases ba with rfl|rfl|rfl|rfl
 all_goals
  by_cases AC:t0=bb
  .subst AC;by_cases bJ:t0=2
   .subst bJ;exact kly
   .have dn:(t0==2)=J:=(by simpa using bJ);have bq:=hD bJ;clear bJ;by_cases aL:t0=1
    .subst aL;exact kly
    .have h6:(t0==1)=J:=(by simpa using aL);have ml:=hD aL;clear aL;go_enter func78,ntmps78;go_wp2_with fail;go_ret;refine ⟨?_,((ub5 _ _).alloc (nR) _).alloc (by simp) _⟩;rw[a1.o,ua0 (by simp),ua0 bq.o];have:=ml.o;simp[this];try rfl
  .have dn:(t0==bb)=J:=(by simpa using AC);have h6:(t0 != bb)=K:=(by simpa using AC);have bq:=hD AC;clear AC;go_enter func78,ntmps78;go_wp2_with fail;go_ret;exact ⟨by rw[a1.o,ua1 bq.o];try rfl,((ub5 _ _).alloc (nR) _).alloc (by simp) _⟩
def kCU (w:O) (sO sP:Array C) (l:List St) (s:St) (o:OpI) (f:Nat) (i:C) (wr:O):Prop:=∃ k:Nat,i=I U k∧k≤s.args.length∧s.args.length-k<f∧Hz (∀ j:Nat,j<k→(s.args.map (kae l))[j]? =o.args[j]?)∧
 Hz (Blk wr w 77 sO)∧Hz (Blk wr (w.heap.size+1) 111 sP)∧Hz (H w w wr)
def kte {l:List St} {s:St} {o:OpI} (an:ka9 s.op=J):kbA l s o=decide (s.args.map (kae l)=o.args):=by unfold kbA;rw[ua0 (by rw[an];decide)]
def kyo {s:List UInt8} (h:ka9 s=J):(s== [61,61])=J∧(s== [33,61])=J∧(s== [60])=J∧(s== [60,61])=J:=by unfold ka9 at h;simp at h;simpa using h
def ktc (A:Option ae) (c:Nat) (l:List St) (s:St) (c6:Option ae) (cs:Nat) (o:OpI) (fa:Option ae) (ft:Nat) (w:O) (h:TypIn w A l s c6 o fa) (an:ka9 s.op=J) (mp:s.args.length≤100000):
 L prog 78 #[D A l.length c,aa #[Q ⟨s.op.toArray⟩,D c6 s.args.length cs,I U s.num,Q ⟨s.text.toArray⟩,I U s.ty],aa #[D fa o.args.length ft,I U o.res,V o.text,V o.mbm]] w fun e w'=>e=ac (V (kbA l s o))∧H w w w':=by
 obtain ⟨bD,dP,li,hf⟩:=kyo an;have a1:=hD (kte (l:=l) (o:=o) an);have dh:=hD h;have ax:(l.length:Int)≤100000:=(by have:=h.small;omega);have mm:=hD h.len;obtain ⟨Bl,DP⟩:=xE s.op;obtain ⟨iU,mV⟩:=xE s.text;rw[←DP,←mV];rw[←DP] at bD dP li hf;obtain ⟨sO,cg⟩:∃ sO:Array C,sO= #[Q ⟨Bl.toArray⟩,D c6 s.args.length cs,I U s.num,Q ⟨iU.toArray⟩,I U s.ty]:=⟨_,rfl⟩;obtain ⟨sP,DQ⟩:∃ sP:Array C,sP= #[D fa o.args.length ft,I U o.res,V o.text,V o.mbm]:=⟨_,rfl⟩;have YL:=hD cg;have Os:=hD DQ;have a7:=hD (show Blk ((w.alloc (y #[Q ⟨Bl.toArray⟩,D c6 s.args.length cs,I U s.num,Q ⟨iU.toArray⟩,I U s.ty] 77)).alloc (y #[D fa o.args.length ft,I U o.res,V o.text,V o.mbm] 111)) w 77 sO by rw[cg];exact (Blk.new _ _ _).alloc _);have bo:=hD (show Blk ((w.alloc (y #[Q ⟨Bl.toArray⟩,D c6 s.args.length cs,I U s.num,Q ⟨iU.toArray⟩,I U s.ty] 77)).alloc (y #[D fa o.args.length ft,I U o.res,V o.text,V o.mbm] 111)) (w.heap.size+1) 111 sP by rw[DQ];have:=Blk.new (w.alloc (y #[Q ⟨Bl.toArray⟩,D c6 s.args.length cs,I U s.num,Q ⟨iU.toArray⟩,I U s.ty] 77)) 111 #[D fa o.args.length ft,I U o.res,V o.text,V o.mbm];simpa using this);clear DP mV an h cg DQ;go_enter func78,ntmps78;go_wp2_with fail;go_loopg [54,8,9] (s.args.length+1) (fun f i _ _ wr=>kCU w sO sP l s o f i wr)
 case atStart=>exact ⟨0,rfl,oM,oM,hD (fun j aS=>absurd aS oM),a7,bo,hD (((ub5 _ _).alloc (nR) _).alloc (by simp) _)⟩
 case round=>
  obtain ⟨k,rfl,aw,fo,Ir,mn,kt,ep⟩:=hrel;obtain ⟨f,rfl⟩:=xS gk;by_cases bG:k<s.args.length
  .obtain ⟨a,aE⟩:∃ a,s.args[k]? =N a:=⟨s.args[k],ua3 bG⟩;obtain ⟨yo,DR⟩:∃ yo,o.args[k]? =N yo:=⟨o.args[k]'(by rw[←mm.o];exact bG),ua3 _⟩;have yp:=dh.o.back a (ua4 aE);obtain ⟨m,rfl⟩:=kfX yp.1;have bg:m<l.length:=oM;have hU:l[m]? =N l[m]:=ua3 _;obtain ⟨fj,oa,rfl,yq,e0,iV⟩:=RdF.int dh.o.ar aE;obtain ⟨Is,AM,rfl,Ot,j9,ll⟩:=RdF.int dh.o.oa DR;obtain ⟨b,hV,_,_,rfl,gW,ak,_,_,_,_,cE,_⟩:=dh.o.pl.step hU;have b8:=(ep.o.cell (p:=⟨fj,oa+k,Z⟩) yq).trans iV;have cn:=(ep.o.cell (p:=⟨Is,AM+k,Z⟩) Ot).trans ll;have c0:=(ep.o.cell (p:=⟨b,hV+m*5+4,Z⟩) gW).trans cE;have c3:wr.cell? ⟨w.heap.size+1,0,Z⟩=N (D (N ⟨Is,AM,Z⟩) o.args.length ft):=(by rw[kt.o.cell,Os.o];rfl);have fb:(s.args.map (kae l))[k]? =N l[m].ty:=(by rw[ub9,aE];show N (kae l (m:Int))=_;rw[kcu hU]);generalize l[m].ty=t0 at*;have cU:(k:Int)<(s.args.length:Int):=oM;have bE:(m:Int)<(l.length:Int):=oM;have c2:=nN m;have j4:(k:Int)<(o.args.length:Int):=(by rw[←mm.o];exact cU);have mi:=nN k;have Bm:=hD fb;have It:=hD DR;clear aE DR yp hU iV ll cE fb;by_cases bw:t0=yo
   .subst bw;go_wp2_with fail;go_quiet (fail);go_wp2_with fail;go_roundg f
    case measure=>omega
    case rel=>
     refine ⟨k+1,by go_num,oM,oM,hD (fun j aS=>?_),hD (Blk.drewN mn.o _),hD (Blk.drewN kt.o _),hD (kbm ep.o _)⟩;by_cases iS:j<k
     .exact Ir.o j iS
     .obtain rfl:j=k:=oM;rw[Bm.o,It.o]
   .have aL:(t0==yo)=J:=(by simpa using bw);have bJ:(t0 != yo)=K:=(by simpa using bw);have bq:=hD bw;clear bw;go_wp2_with fail;go_quiet (fail);go_wp2_with fail;go_ret;refine ⟨?_,kbm ep.o _⟩;rw[a1.o,ua5 (fun e=>bq.o (by have af:=Bm.o;rw[e,It.o] at af;injection af with af;exact af.symm))];rfl
  .have lP:k=s.args.length:=oM;go_wp2_with fail;go_ret;refine ⟨?_,ep.o⟩;rw[a1.o,ub3]
   .rfl
   .apply uh3;intro j;by_cases aS:j<k
    .exact Ir.o j aS
    .rw[ud5 (by simp;omega),ud5 (by rw[←mm.o];omega)]
def knW (A:Option ae) (c:Nat) (l:List St) (s:St) (c6:Option ae) (cs:Nat) (o:OpI) (fa:Option ae) (ft:Nat) (w:O) (h:TypIn w A l s c6 o fa) (mp:s.args.length≤100000) (ao:ka9 s.op=K→s.args.length=2):
 L prog 78 #[D A l.length c,aa #[Q ⟨s.op.toArray⟩,D c6 s.args.length cs,I U s.num,Q ⟨s.text.toArray⟩,I U s.ty],aa #[D fa o.args.length ft,I U o.res,V o.text,V o.mbm]] w fun e w'=>e=ac (V (kbA l s o))∧H w w w':=by
 rcases an:ka9 s.op with _|_
 .exact ktc A c l s c6 cs o fa ft w h an mp
 .exact ktd A c l s c6 cs o fa ft w h an (ao an)
def kgx (h:P:=by go_wp2_with fail;go_ret;exact ⟨by rw[Iu.o,bq.o];rfl,cA.o.alloc cA.o.size _⟩):=h
def kgv (h:P:=by go_wp2_with fail;go_ret;exact ⟨by rw[sU.o,ua1 sR.o];rfl,ep.o⟩):=h
def klS (h:P:=by have bJ:(ty==oN)=J:=(by simpa using aL);have dn:(ty != oN)=K:=(by simpa using aL);have bq:=hD aL;clear aL;go_wp2_with fail;go_ret;exact ⟨by rw[rP.o,ua1 (.inl bq.o)];rfl,ep.o⟩):=h
def klh (h:P:=by have uw:=hD htd;clear htd;go_wp2_with fail;go_ret;exact ⟨by rw[rP.o,ua1 (.inr uw.o)];rfl,bU.o⟩):=h
def kna (h:P:=by
 have Bm:=hD fb;clear kW fb;go_wp2_with fail;refine Bm.o.mono ?_;rintro e aF ⟨rfl,bs⟩;have sQ:=ep.o.size;have bU:=hD (ep.o.trans (bs.mono sQ));have kt:=sS.o.below bs (by have:=sS.o.lt;omega);have yr:=uA.o.below bs (by have:=uA.o.lt;omega);have YM:=bs.size;clear s0 s1 s2 s3 s4 r0 d5 fM jM bs;have s3:=kt.cell 3;have jM:=yr.cell 3;simp only[gA,gB,gC] at s3 jM
 first
 |guard_hyp Ov;rcases htd:kbA l ⟨op,args,num,text,ty⟩ ⟨lm,ty,K,mo⟩ with _|_
  .exact klh
  .have uw:=hD htd;clear htd
   cases mo with
   |false=>go_wp2_with fail;go_ret;exact ⟨by rw[rP.o,ua0 (by rw[uw.o];simp)];rfl,bU.o⟩
   |true=>
    have Iu:Hz (ka0 l i ⟨op,args,num,text,ty⟩=kbv text):=hD (by rw[rP.o,ua0 (by rw[uw.o];simp),ua1 rfl]);clear rP;go_wp2_with fail;refine (kpy text _ mV).mono ?_;rintro e a6 ⟨⟨bP,rfl,p2⟩,b3⟩;obtain ⟨kd,a0,aY,bh,a3,lo,hi,dd,jC,cS,rfl⟩:=kn0 p2;have cA:=bT bU b3;clear b3 p2;rw[kpu];by_cases ce:kbv text=0
    .have bq:=hD ce;have au:kde (kbv text)=aj:=(by rw[ce];rfl);rw[au];clear ce au;exact kgx
    .have au:kde (kbv text)= .iface 66 (I U (kbv text)):=ua0 ce;have bq:=hD au;rw[au];generalize bj:kbv text=q at*;have l9:=hD bj;clear ce au bj;exact kgx
 |rcases htd:kbA l ⟨op,args,num,[],ty⟩ ⟨lm,ty,oO,mo⟩ with _|_
  .exact klh
  .have uw:=hD htd;clear htd
   cases mo with
   |false=>go_wp2_with fail;go_ret;exact ⟨by rw[rP.o,ua0 (by rw[uw.o];simp)];rfl,bU.o⟩
   |true=>
    have Iu:Hz (ka0 l i ⟨op,args,num,[],ty⟩=kbv []):=hD (by rw[rP.o,ua0 (by rw[uw.o];simp),ua1 rfl]);clear rP;go_wp2_with fail;refine (kpy [] _ (by simp)).mono ?_;rintro e a6 ⟨⟨bP,rfl,p2⟩,b3⟩;obtain ⟨kd,a0,aY,bh,a3,lo,hi,dd,jC,cS,rfl⟩:=kn0 p2;have cA:=bT bU b3;clear b3 p2;rw[kpu];by_cases ce:kbv []=0
    .have bq:=hD ce;have au:kde (kbv [])=aj:=(by rw[ce];rfl);rw[au];clear ce au;exact kgx
    .have au:kde (kbv [])= .iface 66 (I U (kbv [])):=ua0 ce;have bq:=hD au;rw[au];generalize bj:kbv []=q at*;have l9:=hD bj;clear ce au bj;exact kgx):=h
def kmY (h:P:=by
 have rO:decide (0<num)=K:=(by simpa using cI);have ux:(op== [110,117,109,98,101,114])=K:=(by simpa[kac] using z3);have uy:(op != [110,117,109,98,101,114])=J:=by simpa[kac] using z3
 first
 |guard_hyp OB;subst z5;clear cI z3;exact kl8
 |have lN:(text== [])=J:=(by simpa using z5);have lO:(text != [])=K:=(by simpa using z5);have Ou:text.isEmpty=J:=by simpa using z5
  cases oO with
  |false=>have sR:=hD (show num<0∨(0<num∧op≠kac)∨(text≠ []∧J=J) from .inr (.inr ⟨z5,rfl⟩));clear cI z5 z3;exact kgv
  |true=>clear cI z5 z3;exact kl9):=h
def kl9 (h:P:=by
 have rP:Hz (ka0 l i ⟨op,args,num,text,ty⟩=if ty≠oN∨kbA l ⟨op,args,num,text,ty⟩ ⟨lm,oN,K,mo⟩=J then 12 else if mo=K then kbv text else 0):=hD (by rw[sU.o,ua0 (fun h=>h.elim dv.o (fun h=>h.elim gt.o (fun h=>by cases h.2)))]);clear sU;by_cases aL:ty=oN
 .subst aL;have kW:TypIn wr (N ⟨b,hV,Z⟩) l ⟨op,args,num,text,ty⟩ c6 ⟨lm,ty,K,mo⟩ fa:=⟨cp.o.keep (fun i (hi:i<_) _=>ep.o.block i hi) ep.o.size (fun _ hi _=>ua7 hi ep.o.size),qi.o.keep (fun i (hi:i<_) _=>ep.o.block i hi) ep.o.size (fun _ hi _=>ua7 hi ep.o.size),DS.o.keep (fun i hi _=>(ev.o.block i (by have:=hi.2;simp;omega)).trans (un2 aq _ i hi.2)) (by have:=ev.o.size;simp at this;omega) (fun i hi _=>by have:=ev.o.size;simp at this;have:=hi.2;omega),mm.o,fun a aE=>by have:=ys.o a aE;omega,ax⟩;have fb:=knW (N ⟨b,hV,Z⟩) c l ⟨op,args,num,text,ty⟩ c6 cs ⟨lm,ty,K,mo⟩ fa ft wr kW (show args.length≤100000 by have:=mm.o;omega) (fun an=>by have:=kjF c1.o an;rw[mm.o];exact this);have Ov:=();exact kna
 .exact klS):=h
def kl8 (h:P:=by
 have rP:Hz (ka0 l i ⟨op,args,num,[],ty⟩=if ty≠oN∨kbA l ⟨op,args,num,[],ty⟩ ⟨lm,oN,oO,mo⟩=J then 12 else if mo=K then kbv [] else 0):=hD (by rw[sU.o,ua0 (fun h=>h.elim dv.o (fun h=>h.elim gt.o (fun h=>h.1 rfl)))]);clear sU;by_cases aL:ty=oN
 .subst aL;have kW:TypIn wr (N ⟨b,hV,Z⟩) l ⟨op,args,num,[],ty⟩ c6 ⟨lm,ty,oO,mo⟩ fa:=⟨cp.o.keep (fun i (hi:i<_) _=>ep.o.block i hi) ep.o.size (fun _ hi _=>ua7 hi ep.o.size),qi.o.keep (fun i (hi:i<_) _=>ep.o.block i hi) ep.o.size (fun _ hi _=>ua7 hi ep.o.size),DS.o.keep (fun i hi _=>(ev.o.block i (by have:=hi.2;simp;omega)).trans (un2 aq _ i hi.2)) (by have:=ev.o.size;simp at this;omega) (fun i hi _=>by have:=ev.o.size;simp at this;have:=hi.2;omega),mm.o,fun a aE=>by have:=ys.o a aE;omega,ax⟩;have fb:=knW (N ⟨b,hV,Z⟩) c l ⟨op,args,num,[],ty⟩ c6 cs ⟨lm,ty,oO,mo⟩ fa ft wr kW (show args.length≤100000 by have:=mm.o;omega) (fun an=>by have:=kjF c1.o an;rw[mm.o];exact this);exact kna
 .exact klS):=h
def kjF {n:List UInt8} {o:OpI} (h:opR n=N o) (an:ka9 n=K):o.args.length=2:=by
 have aD:∀ n,ka9 n=K→∃ o,opR n=N o∧o.args.length=2:=fun n an=>by rcases kqt an with rfl|rfl|rfl|rfl <;> exact ⟨⟨[1,1],2,J,J⟩,by show (_:Option OpI)=_;kernel_rfl,rfl⟩
 obtain ⟨dp,af,ao⟩:=aD n an;rw[af] at h;injection h with h;rw[←h];exact ao
def khi {n:List UInt8} {o:OpI} (h:opR n=N o):o.args.length≤3:=by
 unfold opR at h;split at h
 .injection h with h;rw[←h];decide
 split at h
 .injection h with h;rw[←h];decide
 split at h
 .injection h with h;rw[←h];decide
 split at h
 .injection h with h;rw[←h];decide
 split at h
 .injection h with h;rw[←h];decide
 split at h
 .cases h
 .rename_i q bj;injection h with h;rw[←h];obtain ⟨S,r⟩:=q;have:=(koE bj).2.2.2;exact uc9 (ur1 _ _) this
def ksz (w:O) (x:Int) (e:Ending) (w':O):Prop:=e=ac (kde x)∧H w w w'
def ktU {l:List St} {i:Nat} {s:St} (h:opR s.op=Z):ka0 l i s=4:=by unfold ka0;rw[h]
section
variable {l:List St} {i:Nat} {s:St} {o:OpI} (h:opR s.op=N o)
include h
theorem ktV (af:s.args.length≠o.args.length):ka0 l i s=4:=by unfold ka0;rw[h];exact ua1 af
theorem kop (af:s.args.length=o.args.length) {k:Nat} {a:Int} (aE:s.args[k]? =N a) (ak:a<0∨(i:Int)≤a):ka0 l i s=4:=by unfold ka0;rw[h];dsimp only;rw[ua0 (by simpa using af),ua1];rw[up2];exact ⟨a,ua4 aE,by simpa using ak⟩
theorem koo (af:s.args.length=o.args.length) (ao:∀ a∈s.args,0≤a∧a<(i:Int)):ka0 l i s=(if s.num<0∨(0<s.num∧s.op≠kac)∨(s.text≠ []∧o.text=J) then 4
 else if s.ty≠o.res∨kbA l s o=J then 12
 else if o.mbm=K then kbv s.text else 0):=by
 unfold ka0;rw[h];dsimp only;rw[ua0 (by simpa using af),ua0];rw[up2];rintro ⟨a,aE,ak⟩;have:=ao a aE;simp at ak;omega
end
def kDo (w:O) (sO sP:Array C) (Hr:Nat) (t1:O) (i:Nat) (s:St) (f:Nat) (v:C) (wr:O):Prop:=∃ k:Nat,v=I U k∧k≤s.args.length∧s.args.length-k<f∧Hz (∀(j:Nat) (a:Int),j<k→s.args[j]? =N a→0≤a∧a<(i:Int))∧
 Hz (Blk wr w 77 sO)∧Hz (Blk wr Hr 111 sP)∧w.heap.size<Hr∧Hz (H w w wr)∧Hz (H t1 t1 wr)
theorem kBG (A:Option ae) (c:Nat) (l:List St) (i:Nat) (s:St) (w:O) (al:l[i]? =N s) (cZ:PlAt w (fun i=>i<w.heap.size) A l) (ax:l.length≤100000) (mp:s.args.length≤2000000) (mV:s.text.length≤9223372036854775807):
 L prog 42 #[D A l.length c,I U i] w (ksz w (ka0 l i s)):=by
 have dK:=(gH al).1;obtain ⟨b,hV,c6,cs,rfl,Ow,dR,be,b8,cn,c0,c3,gl⟩:=cZ.step al;obtain ⟨cp,qi,b7⟩:=hd3 cZ gl al;obtain ⟨op,args,num,text,ty⟩:=s;dsimp only at be b8 cn c0 c3 mp mV qi;have cU:(i:Int)<(l.length:Int):=oM;have bE:=nN i;have Iv:=kv1 op;have Ox:=hD Iv;clear cZ gl al Iv;go_enter func42,ntmps42;go_wp2_with fail;refine (Ox.o _).mono ?_;rintro e aq ⟨cm,af⟩;have mn:=hD ((Blk.new w 77 _).below cm (by simp));have a7:=hD ((kax w _).trans (cm.mono (by simp)));have cJ:=cm.size;simp at cJ;have n7:(w.alloc (y #[Q ⟨op.toArray⟩,D c6 args.length cs,I U num,Q ⟨text.toArray⟩,I U ty] 77)).heap.size=w.heap.size+1:=(by simp);rw[n7] at af;clear cm be b8 cn c0 c3 n7
 cases bf:opR op with
 |none=>rw[bf] at af;have af:e=_:=af;subst af;have bq:=hD (ktU (l:=l) (i:=i) (s:=⟨op,args,num,text,ty⟩) bf);clear bf;go_wp2_with fail;go_ret;exact ⟨by rw[bq.o];rfl,a7.o.alloc oM _⟩
 |some o=>
  rw[bf] at af;obtain ⟨fa,ft,rfl,Iw⟩:=af;have q0:=khi bf;have c1:=hD (show opR (St.mk op args num text ty).op=N o from bf);have DS:=hD Iw;obtain ⟨lm,oN,oO,mo⟩:=o;dsimp only at q0 DS;clear bf Iw;obtain ⟨gw,uz,bo⟩:=hd3 (Blk.new aq 111 #[D fa lm.length ft,I U oN,V oO,V mo]) (mn.o.alloc (y #[D fa lm.length ft,I U oN,V oO,V mo] 111)) (a7.o.alloc oM (y #[D fa lm.length ft,I U oN,V oO,V mo] 111));have s0:=uz.o.cell 0;have s1:=uz.o.cell 1;simp only[gA,gB,gC] at s0 s1;by_cases qH:args.length=lm.length
  .have bb:((args.length:Int)==(lm.length:Int))=K:=(by simp;omega);have db:((args.length:Int) != (lm.length:Int))=J:=(by simp;omega);have mm:=hD qH;clear qH;go_wp2_with fail;go_loopg [37,9] (args.length+1) (fun f v _ wr=>kDo w #[Q ⟨op.toArray⟩,D c6 args.length cs,I U num,Q ⟨text.toArray⟩,I U ty] #[D fa lm.length ft,I U oN,V oO,V mo] aq.heap.size (aq.alloc (y #[D fa lm.length ft,I U oN,V oO,V mo] 111)) i ⟨op,args,num,text,ty⟩ f v wr)
   case atStart=>exact ⟨0,rfl,oM,by show args.length-0<_;omega,hD (fun j a aS=>absurd aS oM),uz,gw,oM,bo,hD (ub5 _ _)⟩
   case round=>
    clear s0 s1 bb db;obtain ⟨k,rfl,aw,fo,rQ,sS,uA,Oy,ep,ev⟩:=hrel;obtain ⟨f,rfl⟩:=xS gk;have aw:k≤args.length:=aw;have fo:args.length-k<f+1:=fo;have rQ:Hz (∀(j:Nat) (a:Int),j<k→args[j]? =N a→0≤a∧a<(i:Int)):=rQ;by_cases bG:k<args.length
    .obtain ⟨a,aE⟩:∃ a,args[k]? =N a:=⟨args[k],ua3 bG⟩;obtain ⟨fj,oa,rfl,yq,e0,iV⟩:=RdF.int qi.o aE;have bY:=(ep.o.cell (p:=⟨fj,oa+k,Z⟩) yq).trans iV;have eD:(k:Int)<(args.length:Int):=oM;have eS:=nN k;have hR:=hD aE;clear aE iV;by_cases xP:a<0
     .have il:decide (a<0)=K:=(by simpa using xP);have bq:=hD (kop (l:=l) (i:=i) (s:=⟨op,args,num,text,ty⟩) c1.o mm.o hR.o (.inl xP));clear xP;go_wp2_with fail;go_ret;exact ⟨by rw[bq.o];rfl,ep.o⟩
     .have il:decide (a<0)=J:=(by simpa using xP);obtain ⟨m,rfl⟩:=kfX (by omega:0≤a);by_cases j5:i≤m
      .have ma:decide ((i:Int)≤(m:Int))=K:=ub3 oM;have un:decide (i≤m)=K:=ub3 oM;have bq:=hD (kop (l:=l) (i:=i) (s:=⟨op,args,num,text,ty⟩) c1.o mm.o hR.o (.inr oM));clear xP j5;go_wp2_with fail;go_ret;exact ⟨by rw[bq.o];rfl,ep.o⟩
      .have ma:decide ((i:Int)≤(m:Int))=J:=ua5 oM;have un:decide (i≤m)=J:=ua5 oM;have Bn:m<i:=oM;clear xP j5;go_wp2_with fail;go_roundg f
       case measure=>omega
       case rel=>
        refine ⟨k+1,by go_num,by show k+1≤args.length;omega,by show args.length-(k+1)<f;omega,hD (fun j a aS sT=>?_),sS,uA,Oy,ep,ev⟩;by_cases iS:j<k
        .exact rQ.o j a iS sT
        .obtain rfl:j=k:=oM;have sT:args[j]? =N a:=sT;rw[hR.o] at sT;injection sT with sT;omega
    .have lP:k=args.length:=oM;have ys:Hz (∀ a∈args,0≤a∧a<(i:Int)):=hD fun a aE=>by obtain ⟨j,aS⟩:=uh7 aE;exact rQ.o j a (by have:=(gH aS).1;omega) aS
     have sU:=hD (koo (l:=l) (i:=i) (s:=⟨op,args,num,text,ty⟩) c1.o mm.o ys.o);have s0:=sS.o.cell 0;have s1:=sS.o.cell 1;have s2:=sS.o.cell 2;have s3:=sS.o.cell 3;have s4:=sS.o.cell 4;have r0:=uA.o.cell 0;have d5:=uA.o.cell 1;have fM:=uA.o.cell 2;have jM:=uA.o.cell 3;simp only[gA,gB,gC] at s0 s1 s2 s3 s4 r0 d5 fM jM;have eD:decide ((k:Int)<(args.length:Int))=J:=(by simp;omega);have eS:decide (k<args.length)=J:=(by simp;omega);clear rQ bG lP;by_cases ca:num<0
     .have uB:decide (num<0)=K:=(by simpa using ca);have sR:=hD (show num<0∨(0<num∧op≠kac)∨(text≠ []∧oO=J) from .inl ca);clear ca;exact kgv
     have uB:decide (num<0)=J:=(by simpa using ca);by_cases cI:0<num∧op≠kac
     .have rO:decide (0<num)=K:=(by simpa using cI.1);have ux:(op== [110,117,109,98,101,114])=J:=(by simpa[kac] using cI.2);have uy:(op != [110,117,109,98,101,114])=K:=(by simpa[kac] using cI.2);have sR:=hD (show num<0∨(0<num∧op≠kac)∨(text≠ []∧oO=J) from .inr (.inl cI));clear ca cI;exact kgv
     have dv:=hD ca;have gt:=hD cI
     have iW:(0<num∧op=kac)∨num=0:=by
      by_cases h:0<num
      .exact .inl ⟨h,Decidable.byContradiction fun fg=>cI ⟨h,fg⟩⟩
      .exact .inr oM
     clear ca cI;have OA:text=[]∨text≠ []:=Decidable.em _;rcases iW with ⟨cI,z3⟩|cI;all_goals rcases OA with z5|z5
     .have OB:=();exact kmY
     .exact kmY
     .have rO:decide (0<num)=J:=(by simp;omega);subst z5;clear cI;exact kl8
     .have rO:decide (0<num)=J:=(by simp;omega);have lN:(text== [])=J:=(by simpa using z5);have lO:(text != [])=K:=(by simpa using z5);have Ou:text.isEmpty=J:=by simpa using z5
      cases oO with
      |false=>have sR:=hD (show num<0∨(0<num∧op≠kac)∨(text≠ []∧J=J) from .inr (.inr ⟨z5,rfl⟩));clear cI z5;exact kgv
      |true=>clear cI z5;exact kl9
  .have bb:((args.length:Int)==(lm.length:Int))=J:=(by simp;omega);have db:((args.length:Int) != (lm.length:Int))=K:=(by simp;omega);have t3:(args.length==lm.length)=J:=(by simp;omega);have bq:=hD (ktV (l:=l) (i:=i) (s:=⟨op,args,num,text,ty⟩) c1.o qH);clear qH;go_wp2_with fail;go_ret;exact ⟨by rw[bq.o];rfl,bo.o⟩
def klc (h:P:=by go_enter func11,ntmps11;go_wp2_with fail;go_ret;exact ⟨by rw[bq.o];rfl,kax _ _⟩):=h
theorem krW {l:List St} :∀(t:List St) (i k:Nat) (s:St),(∀ j x,j<k→t[j]? =N x→ka0 l (i+j) x=0)→t[k]? =N s→ka0 l (i+k) s≠0→kdE l i t=ka0 l (i+k) s
 |[],_,_,_,_,h,_=>by simp at h
 |x::t,i,0,s,_,h,ch=>by simp only[gB,ug0] at h;subst h;unfold kdE;exact ua1 ch
 |x::t,i,k+1,s,aD,h,ch=>by unfold kdE;have af:=aD 0 x oM rfl;rw[uh4] at af;rw[ua0 (by simp[af]),krW t (i+1) k s (fun j aC aS bp=>by have:=aD (j+1) aC oM (by simpa using bp);rwa [show i+(j+1)=i+1+j by omega] at this) (by simpa using h) (by rwa [show i+1+k=i+(k+1) by omega]),show i+1+k=i+(k+1) by omega]
def kfi (l:List St):Prop:=l.length≤100000∧∀ s∈l,s.args.length≤2000000∧s.text.length≤9223372036854775807
def kDn (w:O) (l:List St) (A:Option ae) (c:Nat) (f:Nat) (v:C) (wr:O):Prop:=∃ k:Nat,v=I U k∧k≤l.length∧l.length-k<f∧Hz (∀(j:Nat) (s:St),j<k→l[j]? =N s→ka0 l j s=0)∧Hz (Blk wr w 26 #[D A l.length c])∧Hz (H w w wr)
def khQ (A:Option ae) (c:Nat) (l:List St) (w:O) (cZ:PlAt w (fun i=>i<w.heap.size) A l) (bg:kfi l):
 L prog 11 #[aa #[D A l.length c]] w (ksz w (kaf l)):=by
 obtain ⟨ax,mp⟩:=bg;obtain ⟨cp,yt,ev⟩:=hd3 cZ mp (Blk.new w 26 #[D A l.length c]);clear cZ mp;by_cases aD:l.length=0
 .have bq:=hD (show kaf l=4 by unfold kaf;exact ua1 (.inl aD));rw[aD];clear aD;exact klc
 by_cases af:4096<l.length
 .have bq:=hD (show kaf l=4 by unfold kaf;exact ua1 (.inr af));have bb:((l.length:Int)==0)=J:=(by rw[ua2];omega);have db:decide ((4096:Int)<(l.length:Int))=K:=ub3 oM;have t3:decide (4096<l.length)=K:=ub3 oM;clear aD af;exact klc
 have a8:=hD (show kaf l=kdE l 0 l by unfold kaf;rw[ua0 oM]);have bb:((l.length:Int)==0)=J:=(by rw[ua2];omega);have db:decide ((4096:Int)<(l.length:Int))=J:=ua5 oM;have t3:decide (4096<l.length)=J:=ua5 oM;clear aD af;go_enter func11,ntmps11;go_wp2_with fail;go_loopg [19,3,4] (l.length+1) (fun f v _ _ wr=>kDn w l A c f v wr)
 case atStart=>exact ⟨0,rfl,oM,oM,hD (fun j s aS=>absurd aS oM),ev,hD (kax _ _)⟩
 case round=>
  clear bb db t3;obtain ⟨k,rfl,aw,fo,rQ,de,ep⟩:=hrel;obtain ⟨f,rfl⟩:=xS gk;have s0:=de.o.cell 0;simp only[gA,gB] at s0;by_cases bG:k<l.length
  .obtain ⟨s,al⟩:∃ s,l[k]? =N s:=⟨l[k],ua3 bG⟩;have lT:=yt.o s (ua4 al);have lU:=kBG A c l k s wr al (cp.o.keep (fun i (hi:i<_) _=>ep.o.block i hi) ep.o.size (fun _ hi _=>ua7 hi ep.o.size)) ax lT.1 lT.2;have iX:=hD lU;have b7:=hD al;have cU:(k:Int)<(l.length:Int):=oM;clear lT lU al;go_wp2_with fail;refine iX.o.mono ?_;rintro e aF ⟨rfl,bs⟩;have bo:=bT ep bs;have kt:=hD (de.o.below bs de.o.lt);clear bs;by_cases ce:ka0 l k s=0
   .have bq:=hD ce;have au:kde (ka0 l k s)=aj:=(by rw[ce];rfl);rw[au];clear ce au;go_wp2_with fail;go_roundg f
    case measure=>omega
    case rel=>
     refine ⟨k+1,by go_num,oM,oM,hD (fun j x aS aA=>?_),kt,bo⟩;by_cases iS:j<k
     .exact rQ.o j x iS aA
     .obtain rfl:j=k:=oM;rw[b7.o] at aA;injection aA with aA;subst aA;exact bq.o
   .have cg:=krW l 0 k s (fun j x aS aA=>by rw[ud3];exact rQ.o j x aS aA) b7.o (by rw[ud3];exact ce);rw[ud3] at cg;have gv:=hD (a8.o.trans cg);have au:kde (ka0 l k s)= .iface 66 (I U (ka0 l k s)):=ua0 ce;have dB:=hD au;rw[au];generalize bj:ka0 l k s=q at*;clear ce au cg bj;go_wp2_with fail;go_ret;exact ⟨by rw[gv.o,dB.o];rfl,bo.o⟩
  .have rR:=(kgf l 0).2 (fun j s al=>by rw[ud3];exact rQ.o j s (by have:=(gH al).1;omega) al);have cf:=hD (a8.o.trans rR);clear rR;go_wp2_with fail;go_ret;exact ⟨by rw[cf.o];rfl,ep.o⟩
def kdr {w:O} {base e size n:Nat} {v:C} {xs:List C} (h:w.ownsRow base e size v n xs) (g:Nat) (hg:v.ownBlock=N g):g<w.heap.size:=by obtain ⟨_,cur,an⟩:=kbE h hg;exact an.lt
def kvb {P:Program} (t e:ah) (i:TypeInfo) (z:C) (aB:P.underlying t=N (.slice e)) (hi:P.info? e=N i) (bd:i.zero=N z)
 (M7 M8:IntKind) (n c:Nat) (qk:n≤c) (ug:i.bytes*c≤281474976710656) (iE:c≤9223372036854775807) (w:O):
 (Instr.makeSlice t (.int M7 (n:Int)) (.int M8 (c:Int))).run P w= .ok (D (N ⟨w,0,Z⟩) n c) (w.alloc (y (madeCells z.cells (c*i.size)) e)):=by
 have ak:(i.bytes:Int)*(c:Int)≤281474976710656:=(by have h:((i.bytes*c:Nat):Int)≤281474976710656:=oM;rwa [ur9] at h);have am:=run_make (P:=P) w t e i z aB hi bd M7 M8 n c oM oM ak oM;simp only[ub7] at am;exact am
def kxv (n:Nat):madeCells (I U 0).cells (n*1)=((List.replicate n (0:Int)).map (I U)).toArray:=by
 rw[uq5];apply Array.ext
 .simp[size_madeCells]
 .intro i af ao;simp[madeCells,Value.cells,Nat.mod_one]
def bump (z:List Int) (a:Int):List Int:=z.set a.toNat (z.getD a.toNat 0+1)
def bumps (z:List Int) (args:List Int):List Int:=args.foldl bump z
def kbt (l:List St) (k:Nat):List Int:=(l.take k).foldl (fun z s=>bumps z s.args) (List.replicate l.length 0)
def kag (l:List St):List Int:=kbt l l.length
def kr1 (z:List Int) (a:Int):(bump z a).length=z.length:=by unfold bump;simp
theorem khC:∀(args z:List Int),(bumps z args).length=z.length
 |[],_=>rfl
 |a::args,z=>by unfold bumps;rw[uj8];exact (khC args _).trans (kr1 z a)
def kB1 (z args:List Int) (a:Int):bumps z (args++[a])=bump (bumps z args) a:=by unfold bumps;rw[uo4];rfl
def ksV (l:List St):kbt l 0=List.replicate l.length 0:=by unfold kbt;simp
def ksW {l:List St} {k:Nat} {s:St} (h:l[k]? =N s):kbt l (k+1)=bumps (kbt l k) s.args:=by unfold kbt;rw[ue0,h,us7,uo4];rfl
theorem krk (n:Nat):∀(t:List St) (z:List Int),z.length=n→(t.foldl (fun z s=>bumps z s.args) z).length=n
 |[],_,h=>h
 |s::t,z,h=>by rw[uj8];exact krk n t _ ((khC _ _).trans h)
def kgT (l:List St) (k:Nat):(kbt l k).length=l.length:=by unfold kbt;exact krk _ _ _ (by simp)
def Upto (M:Int) (z:List Int):Prop:=∀ x∈z,0≤x∧x≤M
theorem Upto.get {M:Int} {z:List Int} (h:Upto M z) (h3:0≤M) (a:Nat):0≤z.getD a 0∧z.getD a 0≤M:=by
 rw[ub6]
 cases e:z[a]? with
 |none=>simpa using h3
 |some x=>exact h x (ua4 e)
def Upto.bump {M:Int} {z:List Int} (h:Upto M z) (h3:0≤M) (a:Int):Upto (M+1) (bump z a):=fun x aA=>by
 rcases uh5 aA with aA|rfl
 .have:=h x aA;omega
 .have:=h.get h3 a.toNat;omega
theorem Upto.bumps:∀(args:List Int) {M:Int} {z:List Int},Upto M z→0≤M→Upto (M+args.length) (bumps z args)
 |[],M,z,h,_=>by simpa[Go.Proofs.YtamhdmkolfmmdaaGreatDoor.bumps] using h
 |a::args,M,z,h,h3=>by have:=Upto.bumps args (h.bump h3 a) oM;have e:M+1+(args.length:Int)=M+((a::args).length:Int):=(by simp;omega);rw[e] at this;exact this
theorem knS:∀(t:List St) (M:Int) (z:List Int),(∀ s∈t,s.args.length≤3)→Upto M z→0≤M→Upto (M+3*t.length) (t.foldl (fun z s=>Go.Proofs.YtamhdmkolfmmdaaGreatDoor.bumps z s.args) z)
 |[],M,z,_,h,_=>by simpa using h
 |s::t,M,z,al,h,h3=>by
  rw[uj8];have av:=al s (uf3 ..);have af:Upto (M+3) (Go.Proofs.YtamhdmkolfmmdaaGreatDoor.bumps z s.args):=fun x aA=>by have:=h.bumps s.args h3 x aA;omega
  have:=knS t (M+3) _ (fun s h=>al s (uf6 _ h)) af oM;have e:M+3+3*(t.length:Int)=M+3*((s::t).length:Int):=(by simp;omega);rw[e] at this;exact this
def ksX {l:List St} (al:∀ s∈l,s.args.length≤3) (az:l.length≤100000) (k:Nat):Upto 300000 (kbt l k):=fun x aA=>by
 have aD:Upto 0 (List.replicate l.length (0:Int)):=fun x aA=>by have:=List.eq_of_mem_replicate aA;omega
 have:=knS (l.take k) 0 _ (fun s h=>al s (uk4 h)) aD oM x aA;have bG:(l.take k).length≤l.length:=(by rw[ub8];omega);omega
def kau (z:List Int):Array C:=(z.map (I U)).toArray
def kgU {z:List Int} {a:Nat} (h:a<z.length):(kau z)[a]? =N (I U (z.getD a 0)):=by unfold kau;rw[gA,ub9,ua3 h,ub6,ua3 h];rfl
def ktb (z:List Int) (a:Nat):(kau z).setIfInBounds a (I U (z.getD a 0+1))=kau (bump z (a:Int)):=by unfold kau bump;rw[gE,←up8,ub7]
theorem kyl {op text:List UInt8} {num:Int} {args:List Int} {k:KeyS} (av:args.length≤3) (bf:k.op=op) (aB:k.text=text) (ax:k.num=num) (aE:k.a=args.getD 0 0) (ak:k.b=args.getD 1 0) (an:k.c=args.getD 2 0):
 splice [Q ⟨op.toArray⟩,Q ⟨text.toArray⟩,I U 0,I U 0,I U 0,I U num] 2 (args.map (I U))=[Q ⟨k.op.toArray⟩,Q ⟨k.text.toArray⟩,I U k.a,I U k.b,I U k.c,I U k.num]:=by
 subst bf aB ax;rw[aE,ak,an];unfold splice
 match args,av with
 |[],_=>rfl
 |[x],_=>rfl
 |[x,aC],_=>rfl
 |[x,aC,z],_=>rfl
def StAt (w:O) (g ap i:Nat) (s:St):Prop:=∃(c6:Option ae) (c:Nat),
 w.cell? ⟨ap,i*5,Z⟩=N (Q ⟨s.op.toArray⟩)∧w.cell? ⟨ap,i*5+1,Z⟩=N (D c6 s.args.length c)∧w.cell? ⟨ap,i*5+2,Z⟩=N (I U s.num)∧w.cell? ⟨ap,i*5+3,Z⟩=N (Q ⟨s.text.toArray⟩)∧w.cell? ⟨ap,i*5+4,Z⟩=N (I U s.ty)∧
 RdF w (fun b=>b≠g∧b≠ap) 1 c6 s.args.length (s.args.map (I U))
structure EdAt (w:O) (g ap cap:Nat) (l:List St) (aP:C):Prop where
 ed:Blk w g 85 #[D (N ⟨ap,0,Z⟩) l.length cap,aP]
 st:∀ i s,l[i]? =N s→StAt w g ap i s
 blk:∃ cs,Blk w ap 77 cs∧cs.size=cap*5∧∀ i v,i<l.length*5→cs[i]? =N v→v.oneCell'=K
 le:l.length≤cap
 cap:l.length≤100000
def StAt.keep {w w':O} {g ap i:Nat} {s:St} (h:StAt w g ap i s) (hgs:w'.heap[ap]? =w.heap[ap]?) (aw:∀ b,b≠g→b≠ap→b<w.heap.size→w'.heap[b]? =w.heap[b]?) (al:w.heap.size≤w'.heap.size):StAt w' g ap i s:=by obtain ⟨c6,c,be,b8,cn,c0,c3,am⟩:=h;have an:∀ j,w'.cell? ⟨ap,j,Z⟩=w.cell? ⟨ap,j,Z⟩:=fun j=>ue6 hgs;exact ⟨c6,c,(an _).trans be,(an _).trans b8,(an _).trans cn,(an _).trans c0,(an _).trans c3,am.keep (fun b ak az=>aw b ak.1 ak.2 az) al (fun _ ak _=>ak)⟩
def EdAt.maR {w:O} {g ap cap:Nat} {l:List St} {aP:C} (h:EdAt w g ap cap l aP):ap<w.heap.size:=by obtain ⟨cs,ak,_⟩:=h.blk;exact ak.lt
def EdAt.ne {w:O} {g ap cap:Nat} {l:List St} {aP:C} (h:EdAt w g ap cap l aP):g≠ap:=by obtain ⟨cs,ak,_⟩:=h.blk;exact h.ed.ne_ ak dC
def EdAt.below {w w':O} {g ap cap:Nat} {l:List St} {aP:C} (h:EdAt w g ap cap l aP) (ak:H w w w'):EdAt w' g ap cap l aP:=
 ⟨h.ed.below ak h.ed.lt,fun i s al=>(h.st i s al).keep (ak.block ap h.maR) (fun b _ _ az=>ak.block b az) ak.size,by obtain ⟨cs,aL,bJ⟩:=h.blk;exact ⟨cs,aL.below ak aL.lt,bJ⟩,h.le,h.cap⟩
def EdAt.turn {w w':O} {g ap cap:Nat} {l:List St} {aP M9:C} (h:EdAt w g ap cap l aP) (hg:w.grownBy w' (N g)) (aG:Blk w' g 85 #[D (N ⟨ap,0,Z⟩) l.length cap,M9]):EdAt w' g ap cap l M9:=by have ax:N ap≠N g:=fun e=>h.ne (by injection e with e;exact e.symm);refine ⟨aG,fun i s al=>(h.st i s al).keep (hg.block ap h.maR ax) (fun b ak _ az=>hg.block b az (fun e=>ak (by injection e))) hg.size,?_,h.le,h.cap⟩;obtain ⟨cs,aL,bJ⟩:=h.blk;exact ⟨cs,aL.grown hg ax,bJ⟩
def kC4 (w:O) (g ap cap:Nat) (l:List St) (f:Nat) (i:C) (wr:O):Prop:=∃ k:Nat,i=I U k∧k≤l.length∧l.length-k<f∧Hz (Blk wr w 3 (kau (kbt l k)))∧Hz (Blk wr g 85 #[D (N ⟨ap,0,Z⟩) l.length cap,D (N ⟨w,0,Z⟩) l.length l.length])∧Hz (w.grownBy wr (N g))
def kC2 (w:O) (g ap cap n:Nat) (z args:List Int) (f:Nat) (i:C) (wr:O):Prop:=∃ k:Nat,i=I U k∧k≤args.length∧args.length-k<f∧Hz (Blk wr w 3 (kau (bumps z (args.take k))))∧Hz (Blk wr g 85 #[D (N ⟨ap,0,Z⟩) n cap,D (N ⟨w,0,Z⟩) n n])∧Hz (w.grownBy wr (N g))
def kqG {w w':O} {g:Nat} (h:w.grownBy w' (N g)) {p:ae} (aO:p.block<w.heap.size) (ch:p.block≠g):w'.cell? p=w.cell? p:=ue6 (h.block _ aO (fun e=>ch (by injection e)))
def kqH {w w':O} {r:Option Nat} (h:w.grownBy w' r) (o:Obj):w.grownBy (w'.alloc o) r:=⟨h.os,h.tape,h.output,uc9 h.size (by simp),fun i hi ch=>(un2 w' o i (ua7 hi h.size)).trans (h.block i hi ch)⟩
def kqF {w w':O} {g:Nat} (h:w.grownBy w' (N g)) {p:ae} (aO:p.block=g∨w.heap.size≤p.block) (u:C):w.grownBy (w'.setCell p u) (N g):=⟨h.os,h.tape,h.output,uc9 h.size (by simp),fun i hi ch=>(ud7 w' p u i (fun e=>by rcases aO with aO|aO;exact ch (by rw[e,aO]);omega)).trans (h.block i hi ch)⟩
def kAZ (g ap cap:Nat) (l:List St) (aP:C) (w:O) (h:EdAt w g ap cap l aP) (am:∀ s∈l,s.args.length≤3∧∀ a∈s.args,0≤a∧a<(l.length:Int)):
 L prog 41 #[ab (N ⟨g,0,Z⟩)] w fun e w'=>e=ac (ag #[])∧EdAt w' g ap cap l (D (N ⟨w,0,Z⟩) l.length l.length)∧Blk w' w 3 (kau (kag l))∧w.grownBy w' (N g):=by
 have eI:=h.le;have kX:=h.cap;obtain ⟨eX,cM,ds,cJ,eW⟩:=ug6 kqw;have nE:∀ W:O,(Instr.makeSlice 47 (I U (l.length:Int)) (I U (l.length:Int))).run prog W= .ok (D (N ⟨W,0,Z⟩) l.length l.length) (W.alloc (y (kau (kbt l 0)) 3)):=fun W=>by have h:=kvb (P:=prog) 47 3 eX (I U 0) underlying47 cM ds .i64 .i64 l.length l.length (nR) (by rw[eW];omega) oM W;rw[cJ,kxv] at h;rw[ksV];exact h
 have ef:=h.ed.lt;have be:=h.ed.cell 0;have b8:=h.ed.cell 1;simp only[gA,gB,gC] at be b8;obtain ⟨dh,a1,hQ,OC,ml,hx⟩:=hd6 h am nE (ksX (fun s al=>(am s al).1) (by omega:l.length≤100000)) h.ed (h.ed.mac 1 (D (N ⟨w,0,Z⟩) l.length l.length));have bq:=hD (show Blk ((w.setCell ⟨g,1,Z⟩ (D (N ⟨w,0,Z⟩) l.length l.length)).alloc (y (kau (kbt l 0)) 3)) g 85 #[D (N ⟨ap,0,Z⟩) l.length cap,D (N ⟨w,0,Z⟩) l.length l.length] from hx.o.alloc _);have hy:=hD (show Blk ((w.setCell ⟨g,1,Z⟩ (D (N ⟨w,0,Z⟩) l.length l.length)).alloc (y (kau (kbt l 0)) 3)) w 3 (kau (kbt l 0)) by have:=Blk.new (w.setCell ⟨g,1,Z⟩ (D (N ⟨w,0,Z⟩) l.length l.length)) 3 (kau (kbt l 0));simpa using this);have fh:=hD (kqH (kqF (p:=⟨g,1,Z⟩) (kbR (ub5 w w) (N g)) (.inl rfl) (D (N ⟨w,0,Z⟩) l.length l.length)) (y (kau (kbt l 0)) 3));have wu:=ml.o.frozen 1;have nz:(w.alloc (y (kau (kbt l 0)) 3)).cell? ⟨g,1,Z⟩=N aP:=(up0 w _ _ ef).trans b8;have kH:(w.alloc (y (kau (kbt l 0)) 3)).cell? ⟨g,0,Z⟩=N (D (N ⟨ap,0,Z⟩) l.length cap):=(up0 w _ _ ef).trans be;clear h am cM ds cJ eW b8;go_enter func41,ntmps41;go_wp2_with fail;clear nE wu kH nz be;go_loopg [3,5,20,27] (l.length+1) (fun f _ _ i _ wr=>kC4 w g ap cap l f i wr)
 case atStart=>exact ⟨0,rfl,oM,oM,hy,bq,fh⟩
 case round=>
  clear hy bq fh ml;obtain ⟨k,rfl,aw,fo,hy,bq,fh⟩:=hrel;obtain ⟨f,rfl⟩:=xS gk;by_cases bG:k<l.length
  .obtain ⟨s,al⟩:∃ s,l[k]? =N s:=⟨l[k],ua3 bG⟩;obtain ⟨c6,c,be,b8,cn,c0,c3,gl⟩:=dh.o.st k s al;have oP:=fun j=>kqG fh.o (p:=⟨ap,j,Z⟩) dh.o.maR (fun e=>dh.o.ne e.symm);replace be:=(oP _).trans be;replace b8:=(oP _).trans b8;replace cn:=(oP _).trans cn;replace c0:=(oP _).trans c0;replace c3:=(oP _).trans c3;have dL:=(a1.o s (ua4 al)).1;have m1:=hD (a1.o s (ua4 al)).2;have Ix:=hD (ksW al);have qi:=hD gl;have dG:=OC.o k;have Bo:=kgT l k;generalize kbt l k=z at*;have sR:=hD dG;have OD:=hD Bo;have cU:(k:Int)<(l.length:Int):=oM;have bE:=nN k;obtain ⟨op,args,num,text,ty⟩:=s;dsimp only at be b8 cn c0 c3 dL m1 Ix qi;obtain ⟨bU,eL,kY⟩:=hd3 (fun o=>hy.o.alloc o) (fun o=>bq.o.alloc o) (fun o=>kqH fh.o o);have ka:=fh.o.size;clear al gl dG Bo oP hy bq fh;go_upto_region 4 with (fail);obtain ⟨cT,gd⟩:=xE (wr.alloc (y #[Q ⟨op.toArray⟩,D c6 args.length c,I U num,Q ⟨text.toArray⟩,I U ty] 77));rw[←gd];have Iy:Hz (Blk cT w 3 (kau (bumps z (args.take 0)))):=hD (by rw[gd];simpa[bumps] using bU.o _);have qj:Hz (Blk cT g 85 #[D (N ⟨ap,0,Z⟩) l.length cap,D (N ⟨w,0,Z⟩) l.length l.length]):=hD (by rw[gd];exact eL.o _);have Iz:Hz (w.grownBy cT (N g)):=hD (by rw[gd];exact kY.o _);have bY:cT.cell? ⟨wr,1,Z⟩=N (D c6 args.length c):=(by rw[gd,(Blk.new wr 77 _).cell];rfl);clear gd bU eL kY be b8 cn c0 c3;go_wp2_with fail;clear bY;go_loopg [5,27] (args.length+1) (fun f _ i jK=>kC2 w g ap cap l.length z args f i jK)
   case atStart=>exact ⟨0,rfl,oM,oM,Iy,qj,Iz⟩
   case round=>
    clear Iy qj Iz;obtain ⟨j,rfl,aS,qY,hy,bq,fh⟩:=hrel;obtain ⟨cB,rfl⟩:=xS gk;have aL:=bq.o.cell 1;simp only[gA,gB,gC] at aL;have YN:=bq.o.lt;have YO:=hy.o.lt;by_cases dk:j<args.length
    .obtain ⟨a,aE⟩:∃ a,args[j]? =N a:=⟨args[j],ua3 dk⟩;have yp:=m1.o a (ua4 aE);obtain ⟨m,rfl⟩:=kfX yp.1;obtain ⟨fj,oa,rfl,yq,e0,iV⟩:=RdF.int qi.o aE;have bg:m<l.length:=oM;have n7:(bumps z (args.take j)).length=l.length:=(khC _ _).trans OD.o;have IA:=sR.o.bumps (args.take j) oM;have wv:(args.take j).length≤3:=(by have:=List.length_take_le j args;omega);have aA:=IA.get oM m;have kb:Hz (bumps z (args.take (j+1))=bump (bumps z (args.take j)) (m:Int)):=hD (by rw[ue0,aE,us7];exact kB1 _ _ _);generalize bumps z (args.take j)=zz at*;have c8:wr.cell? ⟨w,m,Z⟩=N (I U (zz.getD m 0)):=(by rw[hy.o.cell];exact kgU oM);have dj:=hy.o.frozen m;have yu:=hD (hy.o.mac m (I U (zz.getD m 0+1)));rw[ktb,←kb.o] at yu;generalize zz.getD m 0=u at*;have gK:wr.cell? ⟨fj,oa+j,Z⟩=N (I U m):=(kqG fh.o (p:=⟨fj,oa+j,Z⟩) e0 yq.1).trans iV;have eD:(j:Int)<(args.length:Int):=oM;have eS:=nN j;have il:(m:Int)<(l.length:Int):=oM;have ma:=nN m;have fn:=us9 (u+1) oM;clear aE yp iV IA;go_wp2_with fail;go_roundg cB
     case measure=>omega
     case rel=>exact ⟨j+1,by go_num,oM,oM,yu,hD (bq.o.far (p:=⟨w,m,Z⟩) (by show g≠w.heap.size;omega) _),hD (kqF fh.o (p:=⟨w,m,Z⟩) (.inr (nR)) _)⟩
    .have Dr:j=args.length:=oM;subst Dr;have eD:¬((args.length:Int)<(args.length:Int)):=oM;have rS:=hy.o;rw[uf2,←Ix.o] at rS;have OE:=hD rS;clear rS;go_wp2_with fail;go_roundg f
     case measure=>omega
     case rel=>exact ⟨k+1,by go_num,oM,oM,OE,bq,fh⟩
  .have gp:k=l.length:=oM;subst gp;have cU:¬((l.length:Int)<(l.length:Int)):=oM;go_wp2_with fail;refine bodyPost_end (v:=ag #[]) (by simp[results,results41,go_sem]) rfl ?_;exact ⟨rfl,dh.o.turn fh.o bq.o,hy.o,fh.o⟩
def kvM (w:O) (e:ah) (size:Nat):(w.alloc (y #[] e)).ownsRow w.heap.size e size (D (N ⟨w,0,Z⟩) 0 0) 0 []:=
 ⟨by simp, .inr ⟨w.heap.size,0,#[],rfl,nR,us5 w _,nR,by unfold maxLen;omega,by simp,by simp⟩⟩
def kBD (b o n c:Nat) (bV:List C) (w:O) (ax:n≤100000) (h:Reads w w 5 (N ⟨b,o,Z⟩) n bV) (af:∀ u∈bV,u.oneCell'=K):
 L prog 63 #[D (N ⟨b,o,Z⟩) n c] w fun e w'=>∃ cH,e=ac cH∧w'.ownsRow w 77 5 cH n bV∧H w w w':=by
 obtain ⟨eX,cM,ds,cJ,eW⟩:=ug6 kf2;obtain ⟨a1,kQ,c1⟩:=hd3 ((h.below (kax w (y #[] 77)))) af (kvM w 77 5);have q4:∀ W:O,(binOp .eql 24 (D (N ⟨b,o,Z⟩) n c) (D Z 0 0)).run prog W= .ok (V J) W:=fun W=>Lib.run_eql_slice_nil W 24 77 (N ⟨b,o,Z⟩) n c 0 0 underlying24;clear h af;go_enter func63,ntmps63;(go_wp2_with (at_builtin;refine kbs _ rfl (.tmp 5) (.tmp 6) 24 rfl w 77 eX (aa #[Q ⟨#[]⟩,D Z 0 0,I U 0,Q ⟨#[]⟩,I U 0]) 5 72 underlying24 cM ds cJ eW rfl dC _ 0 [] rfl c1.o _ _ n c bV rfl a1.o kQ.o (by unfold maxLen;omega) oM (by simp) ?_));intro eb aF f8 fW _;have hM:=hD f8;have bo:=hD (kB6 (kax w (y #[] 77)) (by simp) (nR) c1.o fW);clear f8 fW;go_wp2_with fail;go_ret;exact ⟨_,rfl,by simpa using hM.o,bo.o⟩
theorem kBE (c6:Option ae) (c:Nat) (zs:List Int) (w:O) (ax:zs.length≤100000) (h:Reads w w 1 c6 zs.length (zs.map (I U))):
 L prog 64 #[D c6 zs.length c] w fun e w'=>∃ dd cS,e=ac (D dd zs.length cS)∧w'.ownsRow w 3 1 (D dd zs.length cS) zs.length (zs.map (I U))∧H w w w':=by
 rcases ul5 zs.length with aD|aD
 .have bd:zs=[]:=ui6 aD;subst bd
  cases c6 with
  |none=>refine (Tryz.slices_Clone_int_nil 0 c w).mono ?_;rintro e w' ⟨rfl,rfl⟩;exact ⟨Z,0,rfl,⟨rfl, .inl ⟨rfl,rfl⟩⟩,ub5 _ _⟩
  |some a=>refine (Tryz.slices_Clone_int_zero a c w).mono ?_;rintro e w' ⟨cH,rfl,bf,_,ak⟩;obtain ⟨dd,cS,rfl⟩:=kaA bf;exact ⟨dd,cS,rfl,bf,ak⟩
 .obtain ⟨b,o,rfl,_,an⟩:=h.form aD;refine (Tryz.slices_Clone_int b o zs.length c zs w (nR) oM (fun j aS=>?_)).mono ?_
  .exact an j _ (by rw[ub9,ua3 aS,ub6,ua3 aS];rfl)
  .rintro e w' ⟨cH,rfl,bf,_,ak⟩;rw[uf2] at bf;obtain ⟨dd,cS,rfl⟩:=kaA bf;exact ⟨dd,cS,rfl,bf,ak⟩
theorem ki0 {w:O} {F:Nat→Prop} :∀ {l:List St} {cs:List C},StVs w F l cs→∀ u∈cs,u.oneCell'=K
 |[],cs,h,u,aI=>by have h:cs=[]:=h;rw[h] at aI;cases aI
 |s::l,cs,h,u,aI=>by
  obtain ⟨a,b,rfl,⟨A,c,rfl,_⟩,av⟩:=h;rcases uh2.1 aI with aI|aI
  .simp only[uc7,ue3,ui2] at aI;rcases aI with rfl|rfl|rfl|rfl|rfl <;> rfl
  .exact ki0 av u aI
def kAF {w aq:O} {l:List St} {bV:List C} {v:C} (aO:StVs w (fun i=>i<w.heap.size) l bV) (az:0<l.length) (ax:l.length≤100000) (ak:H w w aq) (bf:aq.ownsRow w 77 5 v l.length bV):
 ∃ ap cap,v=D (N ⟨ap,0,Z⟩) l.length cap∧w.heap.size≤ap∧ap<aq.heap.size∧∀ aP,EdAt (aq.alloc (y #[v,aP] 85)) aq ap cap l aP:=by
 obtain ⟨ap,cap,cur,rfl,qk,rN,b0,dN,aB,_⟩:=kjE bf az;refine ⟨ap,cap,rfl,rN,b0.lt,fun aP=>⟨Blk.new _ _ _,fun i s al=>?_,⟨cur,b0.alloc _,dN,fun i v hi au=>?_⟩,qk,ax⟩⟩
 .obtain ⟨cs,⟨A,c,rfl,am⟩,hg⟩:=aO.get i s al;have dK:=(gH al).1
  have an:∀(j:Nat) u,([Q ⟨s.op.toArray⟩,D A s.args.length c,I U s.num,Q ⟨s.text.toArray⟩,I U s.ty]:List C)[j]? =N u→(aq.alloc (y #[D (N ⟨ap,0,Z⟩) l.length cap,aP] 85)).cell? ⟨ap,i*5+j,Z⟩=N u:=fun j u aS=>by
   rw[(b0.alloc _).cell];have h:=hg j u aS;have Bp:=(gH aS).1;rw[←aB,uc4] at h;split at h
   .simpa using h
   .cases h
  exact ⟨A,c,an 0 _ rfl,an 1 _ rfl,an 2 _ rfl,an 3 _ rfl,an 4 _ rfl,am.keep (fun b gW az=>(un2 aq _ b (ua7 az ak.size)).trans (ak.block b az)) (uc9 ak.size (by simp)) (fun b gW _=>⟨by have:b<w.heap.size:=gW;have:=ak.size;omega,by have:b<w.heap.size:=gW;omega⟩)⟩
 .have bg:cur.toList[i]? =N v:=(by rw[ue9];exact au);have:bV[i]? =N v:=(by rw[←aB,uc4,ua1 hi];exact bg);exact ki0 aO v (ua4 this)
def EdAt.arg {w aq:O} {g ap cap i:Nat} {l:List St} {aP:C} {s:St} (h:EdAt w g ap cap l aP) (al:l[i]? =N s) (ak:H w w aq) (dd:Option ae) (cS:Nat) (bf:aq.ownsRow w 3 1 (D dd s.args.length cS) s.args.length (s.args.map (I U))):
 EdAt (aq.setCell ⟨ap,i*5+1,Z⟩ (D dd s.args.length cS)) g ap cap l aP:=by
 have af:=h.below ak;obtain ⟨cs,aL,bJ,dn⟩:=af.blk;have ch:=h.ne;have ef:=h.ed.lt;have dW:=h.maR;have eI:=h.le;have dK:=(gH al).1;have aw:∀ b,b≠ap→(aq.setCell ⟨ap,i*5+1,Z⟩ (D dd s.args.length cS)).heap[b]? =aq.heap[b]? :=fun b sg=>ud7 aq ⟨ap,i*5+1,Z⟩ _ b sg;have b0:=aL.mac (i*5+1) (D dd s.args.length cS);refine ⟨af.ed.far (p:=⟨ap,i*5+1,Z⟩) ch _,fun j t aB=>?_,⟨_,b0,by rw[un3];exact bJ,fun j v aS au=>?_⟩,eI,h.cap⟩
 .obtain ⟨c6,c,be,b8,cn,c0,c3,am⟩:=af.st j t aB;have an:∀ k,j*5+k≠i*5+1→(aq.setCell ⟨ap,i*5+1,Z⟩ (D dd s.args.length cS)).cell? ⟨ap,j*5+k,Z⟩=aq.cell? ⟨ap,j*5+k,Z⟩:=fun k aw=>by rw[b0.cell,aL.cell,uj6 (fun e=>aw e.symm)]
  have m2:=am.keep (w':=aq.setCell ⟨ap,i*5+1,Z⟩ (D dd s.args.length cS)) (fun b ak _=>aw b ak.2) (by simp) (fun _ ak _=>ak);by_cases jf:i=j
  .subst jf;obtain rfl:t=s:=(by rw[al] at aB;injection aB with aB;exact aB.symm);refine ⟨dd,cS,(an 0 oM).trans be,?_,(an 2 oM).trans cn,(an 3 oM).trans c0,(an 4 oM).trans c3,?_⟩
   .rw[b0.cell,uj5 oM]
   .refine ⟨by simp,fun aD=>?_⟩;obtain ⟨q,aZ,cur,au,qk,rN,dZ,dN,g8,_⟩:=kjE bf aD;injection au with d4 _ f6;subst d4;have ww:q≠ap:=oM;refine ⟨q,0,rfl,⟨oM,ww⟩,by simpa using dZ.lt,fun k u aI=>?_⟩;rw[ue6 (a:=⟨q,0+k,Z⟩) (aw q ww),ud3,dZ.cell,←ue9];rw[←g8,uc4] at aI;split at aI
    .exact aI
    .cases aI
  .exact ⟨c6,c,(an 0 oM).trans be,(an 1 oM).trans b8,(an 2 oM).trans cn,(an 3 oM).trans c0,(an 4 oM).trans c3,m2⟩
 .by_cases jf:j=i*5+1
  .subst jf;rw[uj5 oM] at au;injection au with au;rw[←au];rfl
  .rw[uj6 (fun e=>jf e.symm)] at au;exact dn j v aS au
namespace Oz
def mk (op:List UInt8) (args:List Int) (num:Int) (text:List UInt8) (ty:Int):St:=⟨op,args,num,text,ty⟩
def kwp:St:=⟨[],[],0,[],0⟩
def at_ (l:List St) (a:Int):St:=(l[a.toNat]?).getD kwp
def arg (s:St) (k:Nat):Int:=s.args.getD k 0
def mal:List UInt8:=[108,101,110]
def mbi:List UInt8:=[108,105,110,101,115]
def mbn:List UInt8:=[115,105,122,101]
def ma7:List UInt8:=[99,111,109,109,111,110]
def maT:List UInt8:=[109,105,110]
def maS:List UInt8:=[109,97,120]
def maF:List UInt8:=[43]
def maY:List UInt8:=[45]
def maJ:List UInt8:=[42]
def oEq:List UInt8:=[61,61]
def oNe:List UInt8:=[33,61]
def oLt:List UInt8:=[60]
def oLe:List UInt8:=[60,61]
def mbC:List UInt8:=[97,110,100]
def oOr:List UInt8:=[111,114]
def maL:List UInt8:=[110,111,116]
def maI:List UInt8:=[119,105,116,104,105,110]
def mbz:List UInt8:=[111,118,101,114]
def mb0:List UInt8:=[109,105,110,117,115]
def mbF:List UInt8:=[117,110,105,111,110]
def maO:List UInt8:=[43,43]
def maU:List UInt8:=[114,101,112]
def ma4:List UInt8:=[99,117,116]
def mbd:List UInt8:=[102,105,110,100]
def mbq:List UInt8:=[102,105,114,115,116]
def mab:Int:=1152921504606846976
def ma9 (s:St):Bool:=
 if s.op=kac then decide (s.num≤mab)
 else if s.op=kaF then decide (s.text.length≤65536)
 else decide (s.op∈ [mal,mbn,ma7,maT,maS,oEq,oNe,oLt,oLe,mbC,oOr,maL,maI,mbz,mb0])
def maN (l:List St) (j i:Nat):Bool:=((l.take i).drop (j+1)).all ma9
def maA (l:List St) (i j:Nat):Bool:=decide (i+1<l.length)||maN l j i
def mapA (f:Int→Int) (s:St):St:= { s with args:=s.args.map f }
def mai (l:List St) (i:Nat):List St:=l.take i++(l.drop (i+1)).map (mapA fun a=>if (i:Int)<a then a-1 else a)
def mad (l:List St) (i j:Nat):Option (List St):=
 if maA l i j=J then Z
 else if i+1=l.length then N (l.take (j+1))
 else N (mai (l.take (i+1)++(l.drop (i+1)).map (mapA fun a=>if a=(i:Int) then (j:Int) else a)) i)
def maq (l:List St) (i:Nat) (s:St):List St:=l.take i++s::(l.drop i).map (mapA fun a=>if (i:Int)≤a then a+1 else a)
def maV (l:List St) (i:Nat) (op:List UInt8):Option Nat:=
 let j:=(arg (at_ l i) 0).toNat
 if (at_ l j).op=op∧(kag l).getD j 0=1 then N j else Z
def mbG (l:List St) (a:Int):Option Int:=if (at_ l a).op=kac∧(at_ l a).num≤mab then N (at_ l a).num else Z
def isR (l:List St) (a n:Int):Bool:=decide ((at_ l a).op=kac∧(at_ l a).num=n)
def mbX (l:List St) (a:Int):Bool:=decide ((at_ l a).op=kaF∧(at_ l a).text.length≤65536)
def mbE (l:List St) (a:Int):Bool:=decide ((at_ l a).op=kaF∧(at_ l a).text=[])
def valid (n:Int):Bool:=decide (0≤n∧n≤mab)
def mao (op:List UInt8) (a b:Int):Option Int:=
 if op=maT then N (min a b)
 else if op=maS then N (max a b)
 else if op=maF then (if valid a&&valid b&&decide (a+b≤mab) then N (a+b) else Z)
 else if op=maY then (if valid a&&valid b&&decide (b≤a) then N (a-b) else Z)
 else if op=maJ then (if valid a&&valid b&&decide (a*b≤mab) then N (a*b) else Z)
 else N 0
def maM (l:List St) (i:Nat):Option (List St):=
 let s:=at_ l i
 if s.op = maT ∨ s.op = maS ∨ s.op = maF ∨ s.op = maY ∨ s.op = maJ then
  match mbG l (arg s 0), mbG l (arg s 1) with
  | some a, some b => (mao s.op a b).map fun n => l.set i (mk kac [] n [] 1)
  | _, _ => Z
 else if s.op=mal then (if mbX l (arg s 0) then N (l.set i (mk kac [] (at_ l (arg s 0)).text.length [] 1)) else Z)
 else if s.op=mbi then (if mbX l (arg s 0) then N (l.set i (mk kac [] (((at_ l (arg s 0)).text.filter fun b=>b=10).length+1) [] 1)) else Z)
 else if s.op = maO then
  (if mbX l (arg s 0) && mbX l (arg s 1) && decide ((at_ l (arg s 0)).text.length + (at_ l (arg s 1)).text.length ≤ 65536) then N (l.set i (mk kaF [] 0 ((at_ l (arg s 0)).text ++ (at_ l (arg s 1)).text) 3)) else Z)
 else Z
def orElse (a b:Option (List St)):Option (List St):=match a with
 |some x=>some x
 |none=>b
def maj (l:List St) (i:Nat):Option (List St):=
 let s:=at_ l i
 let uC:=mad l i (arg s 0).toNat
 let DT:=mad l i (arg s 1).toNat
 if s.op=maF then orElse (if isR l (arg s 1) 0 then uC else Z) (if isR l (arg s 0) 0 then DT else Z)
 else if s.op=maY then (if isR l (arg s 1) 0 then uC else Z)
 else if s.op=maJ then orElse (if isR l (arg s 1) 1 then uC else Z) (if isR l (arg s 0) 1 then DT else Z)
 else if s.op=maT∨s.op=maS∨s.op=mbC∨s.op=oOr∨s.op=mbF∨s.op=maI then (if arg s 0=arg s 1 then uC else Z)
 else if s.op=maO then orElse (if mbE l (arg s 1) then uC else Z) (if mbE l (arg s 0) then DT else Z)
 else if s.op=maU then (if isR l (arg s 1) 1 then uC else Z)
 else if s.op = ma4 then
  (let last := at_ l (arg s 2)
   if isR l (arg s 1) 0 && (decide (last.op = mal) && decide (arg last 0 = arg s 0)) then uC else Z)
 else if s.op = maL then
  (let IB := at_ l (arg s 0)
   if IB.op = maL then mad l i (arg IB 0).toNat else Z)
 else Z
def mbZ (op:List UInt8) (a b:Int):Option St:=
 if op=oEq then N (mk oNe [a,b] 0 [] 2)
 else if op=oNe then N (mk oEq [a,b] 0 [] 2)
 else if op=oLt then N (mk oLe [b,a] 0 [] 2)
 else if op=oLe then N (mk oLt [b,a] 0 [] 2)
 else Z
def maB (l:List St) (i:Nat):Option (List St):=
 let s:=at_ l i
 let j:=(arg s 0).toNat
 if s.op≠maL∨(kag l).getD j 0≠1 then Z
 else (mbZ (at_ l j).op (arg (at_ l j) 0) (arg (at_ l j) 1)).map fun t=>mai (l.set i t) j
def maZ (l:List St) (i:Nat):Option (List St):=
 let s:=at_ l i
 if s.op=ma7∧arg s 0=arg s 1 then N (l.set i (mk mal [arg s 0] 0 [] 1)) else Z
def maK (l:List St) (i:Nat):Option (List St):=
 if (at_ l i).op≠mbn then Z
 else match maV l i mbd with
  | none => none
  | some j => if maA l i j = false then none else mad (l.set j (mk kbN (at_ l j).args 0 (at_ l j).text 1)) i j
def mav (l:List St) (i:Nat):Option (List St):=
 if (at_ l i).op≠mbq then Z
 else match maV l i mbd with
  | none => none
  | some j => if maN l j i = false then none else some (mai (l.set i (mk kbk [arg (at_ l j) 0, arg (at_ l i) 1] 0 (at_ l j).text 4)) j)
def maP (l:List St) (i:Nat):Option (List St):=
 if (at_ l i).op≠mal then Z
 else match maV l i ma4 with
  | none => none
  | some j => if maA l i j = false then none else mad (l.set j (mk kbS (at_ l j).args 0 [] 1)) i j
def lenOf (a:Int):St:=mk mal [a] 0 [] 1
def maD (l:List St) (i:Nat):Option (List St):=
 if (at_ l i).op≠mal∨4096≤l.length then Z
 else match maV l i maO with
  | none => none
  | some j => if maA l i j = false then none
   else
    let a := arg (at_ l j) 0
    let b := arg (at_ l j) 1
    mad ((maq (maq l j (lenOf a)) (j + 1) (lenOf b)).set (j + 2) (mk maF [(j : Int), (j : Int) + 1] 0 [] 1)) (i + 2) (j + 2)
def maC (l:List St) (i:Nat):Option (List St):=
 if (at_ l i).op≠mal then Z
 else match maV l i maU with
  | none => none
  | some j => if (at_ l (arg (at_ l j) 1)).op ≠ kac ∨ maA l i j = false then none
   else
    let a := arg (at_ l j) 0
    let t := arg (at_ l j) 1
    mad ((maq l j (lenOf a)).set (j + 1) (mk maJ [(j : Int), t] 0 [] 1)) (i + 1) (j + 1)
def ma0 (l:List St) (i:Nat):Option (List St):=
 if i+1=l.length∨0<(kag l).getD i 0∨ma9 (at_ l i)=J then Z else N (mai l i)
def mbA (s:St):List UInt8×List UInt8×List Int×Int:=(s.op,s.text,[arg s 0,arg s 1,arg s 2],s.num)
def sameAt (l:List St) (i:Nat):Option Nat:=(List.range i).find? fun j=>decide (mbA (at_ l j)=mbA (at_ l i))
def maH (l:List St) (i:Nat):Option (List St):=match sameAt l i with
 |none=>none
 |some j=>mad l i j
def maw (f:List St→Nat→Option (List St)) (l:List St):Option (List St):=(List.range l.length).findSome? (f l)
def mb1:List (List St→Nat→Option (List St)):=[maH,maM,maj,maB,maZ,maK,mav,maP,maD,maC,ma0]
def mam (k:Nat) (l:List St):Option (List St):=match mb1[k]? with
 |some f=>maw f l
 |none=>none
def mba (l:List St):Option (List St):=(List.range 11).findSome? fun k=>mam k l
def ofN:Nat→List St→List St
 |0,l=>l
 | f + 1, l => match mba l with
  | none => l
  | some l' => ofN f l'
example:ofN 10 [mk kac [] 2 [] 1,mk kac [] 3 [] 1,mk maF [0,1] 0 [] 1]=[mk kac [] 5 [] 1]:=by decide+kernel
end Oz
def kak {w:O} {g:Nat} {t:ah} {a b c d e:C} (h:Blk w g t #[a,b,c,d,e]):w.cell? ⟨g,0,Z⟩=N a∧w.cell? ⟨g,1,Z⟩=N b∧w.cell? ⟨g,2,Z⟩=N c∧w.cell? ⟨g,3,Z⟩=N d∧w.cell? ⟨g,4,Z⟩=N e∧
  w.frozen? ⟨g, 0, Z⟩ = J ∧ w.frozen? ⟨g, 1, Z⟩ = J ∧ w.frozen? ⟨g, 2, Z⟩ = J ∧ w.frozen? ⟨g, 3, Z⟩ = J ∧ w.frozen? ⟨g, 4, Z⟩ = J :=
 ⟨h.cell 0, h.cell 1, h.cell 2, h.cell 3, h.cell 4, h.frozen 0, h.frozen 1, h.frozen 2, h.frozen 3, h.frozen 4⟩
def kcx {w w':O} {base e size n:Nat} {v:C} {xs:List C} (h:w.ownsRow base e size v n xs) (aw:∀ g,v.ownBlock=N g→w'.heap[g]? =w.heap[g]?):w'.ownsRow base e size v n xs:=by
 refine ⟨h.1,?_⟩;rcases h.2 with h|⟨g,cap,cur,af,ao,av,bk⟩
 .exact .inl h
 .exact .inr ⟨g,cap,cur,af,ao,(aw g (by rw[af];rfl)).trans av,bk⟩
def stF (w:O) (base:Nat) (cw:List (Option Nat)) (i:Nat):Prop:=base≤i∧i<w.heap.size∧N i∉cw∧∃ cur,Blk w i 3 cur
def klA (h:P:=by exact ⟨(cq 0 oM).trans be,(cq 1 oM).trans b8,(cq 2 oM).trans cn,(cq 3 oM).trans c0,(cq 4 oM).trans c3⟩):=h
def CellsAt (w:O) (ap i:Nat) (s:St) (v:C):Prop:=
 w.cell? ⟨ap,i*5,Z⟩=N (Q ⟨s.op.toArray⟩)∧w.cell? ⟨ap,i*5+1,Z⟩=N v∧w.cell? ⟨ap,i*5+2,Z⟩=N (I U s.num)∧w.cell? ⟨ap,i*5+3,Z⟩=N (Q ⟨s.text.toArray⟩)∧w.cell? ⟨ap,i*5+4,Z⟩=N (I U s.ty)
structure EdX (w:O) (base g ap cap:Nat) (l:List St) (vs:List C) (aP:C):Prop where
 ed:Blk w g 85 #[D (N ⟨ap,0,Z⟩) l.length cap,aP]
 blk:∃ cs,Blk w ap 77 cs∧cs.size=cap*5∧∀ i v,i<l.length*5→cs[i]? =N v→v.oneCell'=K
 len:vs.length=l.length
 cells:∀(i:Nat) (s:St) (v:C),l[i]? =N s→vs[i]? =N v→CellsAt w ap i s v
 own:∀(i:Nat) (s:St) (v:C),l[i]? =N s→vs[i]? =N v→w.ownsRow base 3 1 v s.args.length (s.args.map (I U))
 dis:∀(i j:Nat) (v cH:C),i≠j→vs[i]? =N v→vs[j]? =N cH→v.ownBlock=Z∨v.ownBlock≠cH.ownBlock
 le:l.length≤cap
 cap:l.length≤100000
 hg:base≤g
 hgs:base≤ap
section
variable {w w':O} {base g ap cap:Nat} {l:List St} {vs:List C} {aP:C}
theorem EdX.maR (h:EdX w base g ap cap l vs aP):ap<w.heap.size:=by obtain ⟨cs,ak,_⟩:=h.blk;exact ak.lt
theorem EdX.ne (h:EdX w base g ap cap l vs aP):g≠ap:=by obtain ⟨cs,ak,_⟩:=h.blk;exact h.ed.ne_ ak dC
theorem EdX.apart (h:EdX w base g ap cap l vs aP) {i:Nat} {s:St} {v:C} (al:l[i]? =N s) (au:vs[i]? =N v) {q:Nat} (bj:v.ownBlock=N q):q≠g∧q≠ap:=by
 have bf:=h.own i s v al au;obtain ⟨cs,ak,_⟩:=h.blk;refine ⟨fun e=>?_,fun e=>?_⟩
 .exact ka5 bf h.ed dC (by rw[bj,e])
 .exact ka5 bf ak dC (by rw[bj,e])
theorem EdX.at_ (h:EdX w base g ap cap l vs aP) {i:Nat} {s:St} (al:l[i]? =N s):∃ v,vs[i]? =N v∧CellsAt w ap i s v∧w.ownsRow base 3 1 v s.args.length (s.args.map (I U)):=by have hi:=(gH al).1;have au:vs[i]? =N (vs[i]'(by rw[h.len];exact hi)):=ua3 _;exact ⟨_,au,h.cells i s _ al au,h.own i s _ al au⟩
theorem CellsAt.same {i:Nat} {s:St} {v:C} (h:CellsAt w ap i s v) (aw:w'.heap[ap]? =w.heap[ap]?):CellsAt w' ap i s v:=by obtain ⟨be,b8,cn,c0,c3⟩:=h;have an:∀ j,w'.cell? ⟨ap,j,Z⟩=w.cell? ⟨ap,j,Z⟩:=fun j=>ue6 aw;exact ⟨(an _).trans be,(an _).trans b8,(an _).trans cn,(an _).trans c0,(an _).trans c3⟩
theorem EdX.below (h:EdX w base g ap cap l vs aP) (ak:H w w w'):EdX w' base g ap cap l vs aP:=
 ⟨h.ed.below ak h.ed.lt,by obtain ⟨cs,aL,bJ⟩:=h.blk;exact ⟨cs,aL.below ak aL.lt,bJ⟩,h.len,fun i s v al au=>(h.cells i s v al au).same (ak.block ap h.maR),fun i s v al au=>kaI (h.own i s v al au) ak,h.dis,h.le,h.cap,h.hg,h.hgs⟩
theorem EdX.ma5 (h:EdX w base g ap cap l vs aP):EdAt w g ap cap l aP:=by refine ⟨h.ed,fun i s al=>?_,h.blk,h.le,h.cap⟩;obtain ⟨v,au,⟨be,b8,cn,c0,c3⟩,bf⟩:=h.at_ al;obtain ⟨A,c,rfl⟩:=kaA bf;refine ⟨A,c,be,b8,cn,c0,c3,by simp,fun ax=>?_⟩;obtain ⟨q,cS,ql,_,_,fu,an⟩:=kb3 bf ax;injection ql with d4;subst d4;exact ⟨q,0,rfl,h.apart al au rfl,fu,fun j u aS=>by rw[ud3];exact an j u aS⟩
theorem EdX.setArg (h:EdX w base g ap cap l vs aP) {i k:Nat} {s:St} {v:C} (al:l[i]? =N s) (au:vs[i]? =N v) (aw:k<s.args.length) (x:Int):∃ q c,v=D (N ⟨q,0,Z⟩) s.args.length c∧(∀ a,s.args[k]? =N a→w.cell? ⟨q,k,Z⟩=N (I U a))∧w.frozen? ⟨q,k,Z⟩=J∧base≤q∧
 EdX (w.setCell ⟨q,k,Z⟩ (I U x)) base g ap cap (l.set i { s with args:=s.args.set k x }) vs aP:=by
 have bf:=h.own i s v al au;have dK:=(gH al).1;obtain ⟨q,c,cur,rfl,qk,io,b0,dN,aB,OF⟩:=kjE bf oM;obtain ⟨OG,ww⟩:=h.apart al au rfl;rw[uq5] at aB dN;have jg:∀ j,j<s.args.length→cur[j]? =(s.args.map (I U))[j]? :=fun j aS=>by rw[←aB,uc4,ua1 aS,ue9]
 refine ⟨q,c,rfl,fun a aE=>by rw[b0.cell,jg k aw,ub9,aE];rfl,b0.frozen k,io,?_⟩;have rT:∀ b,b≠q→(w.setCell ⟨q,k,Z⟩ (I U x)).heap[b]? =w.heap[b]? :=fun b ak=>ud7 w ⟨q,k,Z⟩ _ b ak;refine ⟨by rw[ud8];exact h.ed.far (p:=⟨q,k,Z⟩) (fun e=>OG e.symm) _,?_,by rw[ud8];exact h.len,fun j t u h4 aI=>?_,fun j t u h4 aI=>?_,h.dis,by rw[ud8];exact h.le,by rw[ud8];exact h.cap,h.hg,h.hgs⟩
 .obtain ⟨cs,aL,bJ,dn⟩:=h.blk;exact ⟨cs,aL.far (p:=⟨q,k,Z⟩) (fun e=>ww e.symm) _,bJ,by rw[ud8];exact dn⟩
 .by_cases jf:i=j
  .subst jf;rw[ud2 dK] at h4;injection h4 with h4;subst h4;have:=(h.cells i s u al aI).same (rT ap (fun e=>ww e.symm));exact this
  .rw[ue2 jf] at h4;exact (h.cells j t u h4 aI).same (rT ap (fun e=>ww e.symm))
 .by_cases jf:i=j
  .subst jf;rw[ud2 dK] at h4;injection h4 with h4;subst h4;obtain rfl:u=D (N ⟨q,0,Z⟩) s.args.length c:=(by rw[au] at aI;injection aI with aI;exact aI.symm);have dZ:=b0.mac k (I U x);have:=OF _ _ ((s.args.set k x).map (I U)) dZ (by rw[un3]) (by simp) (by rw[uq5,Array.toList_setIfInBounds,List.take_set,aB,up8]);simpa using this
  .rw[ue2 jf] at h4;refine kcx (h.own j t u h4 aI) (fun b ak=>rT b (fun e=>?_));rcases h.dis j i u _ (fun e=>jf e.symm) aI au with aD|aD
   .rw[ak] at aD;cases aD
   .exact aD (by rw[ak,e];rfl)
end
structure FrX (base:Nat) (w w':O):Prop where
 bel:H base w w'
 str:∀ b cs,Blk w b 9 cs→Blk w' b 9 cs
def FrX.refl (base:Nat) (w:O):FrX base w w:=⟨ub5 _ _,fun _ _ h=>h⟩
def FrX.trans {base:Nat} {a b c:O} (h:FrX base a b) (k:FrX base b c):FrX base a c:=⟨h.bel.trans k.bel,fun q cs bj=>k.str q cs (h.str q cs bj)⟩
def FrX.below {base:Nat} {a b c:O} (h:FrX base a b) (k:H b b c) (b0:base≤b.heap.size):FrX base a c:=⟨h.bel.trans (k.mono b0),fun q cs bj=>(h.str q cs bj).below k (h.str q cs bj).lt⟩
def FrX.setCell {base:Nat} {a b:O} (h:FrX base a b) {p:ae} (aO:base≤p.block) {t:ah} {cur:Array C} (ak:Blk b p.block t cur) (aB:t≠9) (u:C):FrX base a (b.setCell p u):=
 ⟨h.bel.setCell aO u,fun q cs bj=>(h.str q cs bj).far (p:=p) (fun e=>(h.str q cs bj).ne_ ak (fun e=>aB e.symm) e) u⟩
def FrX.grown {base g:Nat} {a b:O} (hg:a.grownBy b (N g)) (b0:base≤a.heap.size) (rN:base≤g) {t:ah} {cur:Array C} (ak:Blk a g t cur) (aB:t≠9):FrX base a b:=
 ⟨⟨hg.os,hg.tape,hg.output,hg.size,fun i hi=>hg.block i (ua7 hi b0) (fun e=>by injection e with e;omega)⟩,fun q cs bj=>bj.grown hg (fun e=>by injection e with e;exact bj.ne_ ak (fun e=>aB e.symm) e)⟩
def EdX.erase {w aq aF:O} {base g ap cap i n:Nat} {l:List St} {vs:List C} {aP:C} (h:EdX w base g ap cap l vs aP) (ax:n+1=l.length) (hi:i<n) (iY:w.grownBy aq (N ap)) (eo:Array C) (cm:Blk aq ap 77 eo)
 (dN:∀ cs,Blk w ap 77 cs→eo.size=cs.size∧(∀ q,q<i*5→eo[q]? =cs[q]?)∧(∀ q,i*5≤q→q<n*5→eo[q]? =cs[5+q]?)) (aG:aF=aq.setCell ⟨g,0,Z⟩ (D (N ⟨ap,0,Z⟩) n cap)):EdX aF base g ap cap (l.eraseIdx i) (vs.eraseIdx i) aP∧FrX base w aF:=by
 subst aG;obtain ⟨cs,aL,bJ,dn⟩:=h.blk;obtain ⟨ca,cI,z3⟩:=dN cs aL;have ch:=h.ne;have eI:=h.le;have kX:=h.cap;have q5:=h.len;have qg:Blk aq g 85 #[D (N ⟨ap,0,Z⟩) l.length cap,aP]:=h.ed.grown iY (fun e=>ch (by injection e));have dz:(l.eraseIdx i).length=n:=(by rw[up1];split <;> omega);have hgs:(aq.setCell ⟨g,0,Z⟩ (D (N ⟨ap,0,Z⟩) n cap)).heap[ap]? =aq.heap[ap]? :=ud7 aq ⟨g,0,Z⟩ _ ap (fun e=>ch e.symm)
 have q6:∀ j s v,(l.eraseIdx i)[j]? =N s→(vs.eraseIdx i)[j]? =N v→j<n∧∃ hn,l[hn]? =N s∧vs[hn]? =N v∧(j<i∧hn=j∨i≤j∧hn=j+1):=fun j s v al au=>by
  have dk:=(gH al).1;rw[dz] at dk;rw[List.getElem?_eraseIdx] at al au;by_cases b9:j<i
  .rw[ua1 b9] at al au;exact ⟨dk,j,al,au, .inl ⟨b9,rfl⟩⟩
  .rw[ua0 b9] at al au;exact ⟨dk,j+1,al,au, .inr ⟨oM,rfl⟩⟩
 refine ⟨⟨by rw[dz];exact qg.mac 0 _,⟨eo,cm.far (p:=⟨g,0,Z⟩) (fun e=>ch e.symm) _,ca.trans bJ,fun q v bj au=>?_⟩,by rw[up1,up1,q5],fun j s v al au=>?_,fun j s v al au=>?_,fun a b v cH hz au g0=>?_,by rw[dz];omega,by rw[dz];omega,h.hg,h.hgs⟩,?_⟩
 .rw[dz] at bj;by_cases Aq:q<i*5
  .exact dn q v oM (by rw[←cI q Aq];exact au)
  .exact dn (5+q) v oM (by rw[←z3 q oM bj];exact au)
 .obtain ⟨qZ,hn,fc,g0,an⟩:=q6 j s v al au;obtain ⟨be,b8,cn,c0,c3⟩:=h.cells hn s v fc g0
  have cq:∀ k,k<5→(aq.setCell ⟨g,0,Z⟩ (D (N ⟨ap,0,Z⟩) n cap)).cell? ⟨ap,j*5+k,Z⟩=w.cell? ⟨ap,hn*5+k,Z⟩:=fun k aw=>by
   rw[ue6 (a:=⟨ap,j*5+k,Z⟩) hgs,cm.cell,aL.cell];rcases an with ⟨af,rfl⟩|⟨af,rfl⟩
   .exact cI _ oM
   .rw[z3 _ oM oM,show 5+(j*5+k)=(j+1)*5+k by omega]
  exact klA
 .obtain ⟨_,hn,fc,g0,_⟩:=q6 j s v al au;refine kcx (h.own hn s v fc g0) (fun b ak=>?_);obtain ⟨jV,kZ⟩:=h.apart fc g0 ak;exact (ud7 aq ⟨g,0,Z⟩ _ b jV).trans (iY.block b (kdr (h.own hn s v fc g0) b ak) (fun e=>kZ (by injection e)))
 .have lS:∀ j v,(vs.eraseIdx i)[j]? =N v→∃ hn,vs[hn]? =N v∧(j<i∧hn=j∨i≤j∧hn=j+1):=fun j v au=>by
   rw[List.getElem?_eraseIdx] at au;by_cases b9:j<i
   .rw[ua1 b9] at au;exact ⟨j,au, .inl ⟨b9,rfl⟩⟩
   .rw[ua0 b9] at au;exact ⟨j+1,au, .inr ⟨oM,rfl⟩⟩
  obtain ⟨ib,aE,iV⟩:=lS a v au;obtain ⟨cx,ak,ej⟩:=lS b cH g0;exact h.dis ib cx v cH oM aE ak
 .exact (FrX.grown iY (uc9 h.hgs (ui0 aL.lt)) h.hgs aL dC).setCell (p:=⟨g,0,Z⟩) h.hg qg dC _
def zq6 (h:P:=by go_enter func122,ntmps122;go_wp2_with fail;go_ret;exact ⟨rfl,(ub5 _ _).alloc (nR) _⟩):=h
def ku7 (A:Option ae) (n c:Nat) (num ty:Int) (text:List UInt8) (w:O):L prog 122 #[aa #[Q ⟨#[110,117,109,98,101,114]⟩,D A n c,I U num,Q ⟨text.toArray⟩,I U ty]] w fun e w'=>e=ac (V (decide (num≤Oz.mab)))∧H w w w':=by
 by_cases h:num≤1152921504606846976
 .have am:decide (num≤Oz.mab)=K:=ub3 h;rw[am];clear am;exact zq6
 .have am:decide (num≤Oz.mab)=J:=ua5 h;rw[am];clear am;exact zq6
def ku5 (A:Option ae) (n c:Nat) (num ty:Int) (text:List UInt8) (w:O):L prog 122 #[aa #[Q ⟨#[115,116,114,105,110,103]⟩,D A n c,I U num,Q ⟨text.toArray⟩,I U ty]] w fun e w'=>e=ac (V (decide (text.length≤65536)))∧H w w w':=by
 by_cases h:text.length≤65536
 .rw[ub3 h];have cU:(text.length:Int)≤65536:=oM;clear h;exact zq6
 .rw[ua5 h];have cU:¬((text.length:Int)≤65536):=oM;clear h;exact zq6
def ku8 (op:List UInt8) (ba:op∈([[108,101,110],[115,105,122,101],[99,111,109,109,111,110],[109,105,110],[109,97,120],[61,61],[33,61],[60],[60,61],[97,110,100],[111,114],[110,111,116],[119,105,116,104,105,110],[111,118,101,114],[109,105,110,117,115]]:List (List UInt8))) (A:Option ae) (n c:Nat) (num ty:Int) (text:List UInt8) (w:O):L prog 122 #[aa #[Q ⟨op.toArray⟩,D A n c,I U num,Q ⟨text.toArray⟩,I U ty]] w fun e w'=>e=ac (V K)∧H w w w':=by simp only[uc7,ue3,ui2] at ba;rcases ba with rfl|rfl|rfl|rfl|rfl|rfl|rfl|rfl|rfl|rfl|rfl|rfl|rfl|rfl|rfl;(all_goals go_enter func122,ntmps122;go_wp2_with fail;go_ret;exact ⟨rfl,(ub5 _ _).alloc (nR) _⟩)
def ku6 (op:List UInt8) (aD:op≠kac) (af:op≠kaF) (ba:¬op∈([[108,101,110],[115,105,122,101],[99,111,109,109,111,110],[109,105,110],[109,97,120],[61,61],[33,61],[60],[60,61],[97,110,100],[111,114],[110,111,116],[119,105,116,104,105,110],[111,118,101,114],[109,105,110,117,115]]:List (List UInt8))) (A:Option ae) (n c:Nat) (num ty:Int) (text:List UInt8) (w:O):L prog 122 #[aa #[Q ⟨op.toArray⟩,D A n c,I U num,Q ⟨text.toArray⟩,I U ty]] w fun e w'=>e=ac (V J)∧H w w w':=by simp only[uc7,ue3,ui2,ul6] at ba;obtain ⟨df,bD,dP,li,hf,m3,lV,pz,rU,cv,IC,ID,IE,IF,IG⟩:=ba;have bw:(op== [110,117,109,98,101,114])=J:=ua2.2 aD;have aL:(op== [115,116,114,105,110,103])=J:=ua2.2 af;have fJ:(op== [108,101,110])=J:=ua2.2 df;have fN:(op== [115,105,122,101])=J:=ua2.2 bD;have iy:(op== [99,111,109,109,111,110])=J:=ua2.2 dP;have jD:(op== [109,105,110])=J:=ua2.2 li;have Bq:(op== [109,97,120])=J:=ua2.2 hf;have OH:(op== [61,61])=J:=ua2.2 m3;have OI:(op== [33,61])=J:=ua2.2 lV;have OJ:(op== [60])=J:=ua2.2 pz;have YP:(op== [60,61])=J:=ua2.2 rU;have YQ:(op== [97,110,100])=J:=ua2.2 cv;have YR:(op== [111,114])=J:=ua2.2 IC;have YS:(op== [110,111,116])=J:=ua2.2 ID;have YT:(op== [119,105,116,104,105,110])=J:=ua2.2 IE;have YU:(op== [111,118,101,114])=J:=ua2.2 IF;have YV:(op== [109,105,110,117,115])=J:=ua2.2 IG;clear aD af df bD dP li hf m3 lV pz rU cv IC ID IE IF IG;exact zq6
def koP (s:St) (A:Option ae) (n c:Nat) (w:O):L prog 122 #[aa #[Q ⟨s.op.toArray⟩,D A n c,I U s.num,Q ⟨s.text.toArray⟩,I U s.ty]] w fun e w'=>e=ac (V (Oz.ma9 s))∧H w w w':=by
 obtain ⟨op,args,num,text,ty⟩:=s;unfold Oz.ma9;dsimp only;by_cases aD:op=kac
 .rw[ua1 aD];subst aD;exact ku7 A n c num ty text w
 rw[ua0 aD];by_cases af:op=kaF
 .rw[ua1 af];subst af;exact ku5 A n c num ty text w
 rw[ua0 af];by_cases ao:op∈([[108,101,110],[115,105,122,101],[99,111,109,109,111,110],[109,105,110],[109,97,120],[61,61],[33,61],[60],[60,61],[97,110,100],[111,114],[110,111,116],[119,105,116,104,105,110],[111,118,101,114],[109,105,110,117,115]]:List (List UInt8))
 .have hd:decide (op∈ [Oz.mal,Oz.mbn,Oz.ma7,Oz.maT,Oz.maS,Oz.oEq,Oz.oNe,Oz.oLt,Oz.oLe,Oz.mbC,Oz.oOr,Oz.maL,Oz.maI,Oz.mbz,Oz.mb0])=K:=ub3 ao;rw[hd];exact ku8 op ao A n c num ty text w
 .have hd:decide (op∈ [Oz.mal,Oz.mbn,Oz.ma7,Oz.maT,Oz.maS,Oz.oEq,Oz.oNe,Oz.oLt,Oz.oLe,Oz.mbC,Oz.oOr,Oz.maL,Oz.maI,Oz.mbz,Oz.mb0])=J:=ua5 ao;rw[hd];exact ku6 op aD af ao A n c num ty text w
def koR {l:List St} {j i:Nat} (h:∀ q s,j<q→q<i→l[q]? =N s→Oz.ma9 s=K):Oz.maN l j i=K:=by
 unfold Oz.maN;rw[un1];intro s al;obtain ⟨q,bj⟩:=uh7 al;rw[ud0,uc4] at bj;split at bj
 .exact h (j+1+q) s oM (by assumption) bj
 .cases bj
theorem ku9 {l:List St} {j i q:Nat} {s:St} (af:j<q) (ao:q<i) (al:l[q]? =N s) (h:Oz.ma9 s=J):Oz.maN l j i=J:=by
 cases ak:Oz.maN l j i with
 |false=>rfl
 |true=>unfold Oz.maN at ak;rw[un1] at ak;have bg:s∈(l.take i).drop (j+1):=(by refine ua4 (i:=q-(j+1)) ?_;rw[ud0,uc4,ua1 oM,show j+1+(q-(j+1))=q by omega];exact al);rw[ak s bg] at h;cases h
def kCZ (w:O) (l:List St) (j d f:Nat) (c:C) (wr:O):Prop:=∃ p:Nat,c=I U p∧p≤d∧d-p<f∧Hz (∀ q s,j<q→q<j+1+p→l[q]? =N s→Oz.ma9 s=K)∧Hz (H w w wr)
def koQ (g ap cap:Nat) (l:List St) (aP:C) (w:O) (h:EdAt w g ap cap l aP) (j i:Nat) (b9:j<i) (dK:i≤l.length):
 L prog 119 #[ab (N ⟨g,0,Z⟩),I U j,I U i] w fun e w'=>e=ac (V (Oz.maN l j i))∧H w w w':=by
 have eI:=h.le;have kX:=h.cap;have be:=h.ed.cell 0;simp only[gA,gB] at be;obtain ⟨n,ax⟩:=xE l.length;obtain ⟨d,hd⟩:=xE (i-(j+1));rw[←ax] at be;have dh:=hD h;have bF:=hD ax;have cW:Hz (j+1+d=i):=hD oM;have OK:=hD dK;have cU:(j:Int)+1≤(i:Int):=oM;have bE:(i:Int)≤(cap:Int):=oM;have c2:(0:Int)≤(j:Int)+1:=oM;have j4:i-(j+1)=d:=hd.symm;have YW:j≤100000:=oM;have rV:d≤100000:=oM;have dW:=h.maR;clear h ax hd dK eI;by_cases mi:cap=j+1
 .have OL:d=0:=(by have:=cW.o;omega);subst OL;have kc:=hD (show Oz.maN l j i=K from koR (fun q s af ao _=>by have:=cW.o;omega));subst mi;have kP:j+1-(j+1)=0:=oM;go_enter func119,ntmps119;go_wp2_with fail;go_loopg [8,18] 1 (fun f _ c wr=>c=I U 0∧0<f∧Hz (H w w wr))
  case atStart=>exact ⟨rfl,oM,hD (ub5 _ _)⟩
  case round=>obtain ⟨rfl,IH,aV⟩:=hrel;go_wp2_with fail;go_ret;rw[kc.o];exact ⟨rfl,aV.o⟩
 .go_enter func119,ntmps119;go_wp2_with fail;clear be;go_loopg [8,18] (d+1) (fun f _ c wr=>kCZ w l j d f c wr)
  case atStart=>exact ⟨0,rfl,oM,oM,hD (fun q s af ao _=>by omega),hD (ub5 _ _)⟩
  case round=>
   obtain ⟨p,rfl,aO,Br,b7,aV⟩:=hrel;obtain ⟨f,rfl⟩:=xS gk;by_cases bG:p<d
   .obtain ⟨s,al⟩:∃ s,l[j+1+p]? =N s:=⟨l[j+1+p]'(by have:=cW.o;have:=OK.o;omega),ua3 _⟩;obtain ⟨c6,c,be,b8,cn,c0,c3,_⟩:=dh.o.st _ s al;rw[show (j+1+p)*5=(j+1)*5+p*5 by omega] at be b8 cn c0 c3;have oP:=fun q=>aV.o.cell (p:=⟨ap,q,Z⟩) dW;replace be:=(oP _).trans be;replace b8:=(oP _).trans b8;replace cn:=(oP _).trans cn;replace c0:=(oP _).trans c0;replace c3:=(oP _).trans c3;have eD:(p:Int)<(d:Int):=oM;have eS:=nN p;have uD:=hD al;have oQ:=aV.o.size;have bU:=hD (fun o=>aV.o.alloc oQ o);clear al oP aV;go_wp2_with fail;refine (koP s c6 s.args.length c _).mono ?_;rintro e aF ⟨rfl,bs⟩;have bo:=hD ((bU.o _).trans (bs.mono (bU.o _).size));clear bs bU
    cases h8:Oz.ma9 s with
    |false=>have aH:Oz.maN l j i=J:=ku9 (q:=j+1+p) oM (by have:=cW.o;omega) uD.o h8;have kc:=hD aH;clear aH;go_wp2_with fail;go_ret;rw[kc.o];exact ⟨rfl,bo.o⟩
    |true=>
     have ex:Hz (∀ q s,j<q→q<j+1+(p+1)→l[q]? =N s→Oz.ma9 s=K):=hD (fun q t af ao aB=>by
      by_cases bj:q<j+1+p
      .exact b7.o q t af bj aB
      .have:q=j+1+p:=oM;subst this;have:=aB.symm.trans uD.o;injection this with this;rw[this];exact h8)
     go_wp2_with fail;go_roundg f
     case measure=>omega
     case rel=>exact ⟨p+1,by go_num,oM,oM,ex,bo⟩
   .have oR:p=d:=oM;subst oR;have eD:¬((p:Int)<(p:Int)):=oM;have aH:Oz.maN l j i=K:=koR (fun q s af ao al=>b7.o q s af (by have:=cW.o;omega) al);have kc:=hD aH;clear aH;go_wp2_with fail;go_ret;rw[kc.o];exact ⟨rfl,aV.o⟩
def kaw (f:Int→Int) (i p:Nat) (l:List St):List St:=l.mapIdx fun q s=>if i≤q∧q<i+p then Oz.mapA f s else s
def kjQ (f:Int→Int) (i p:Nat) (l:List St):(kaw f i p l).length=l.length:=by unfold kaw;simp
def keo (f:Int→Int) (i p:Nat) (l:List St) (q:Nat):(kaw f i p l)[q]? =(l[q]?).map fun s=>if i≤q∧q<i+p then Oz.mapA f s else s:=by unfold kaw;rw[List.getElem?_mapIdx]
theorem kjO (f:Int→Int) (i:Nat) (l:List St):kaw f i 0 l=l:=by
 apply uh3;intro q;rw[keo]
 cases l[q]? with
 |none=>rfl
 |some s=>rw[ue5,ua0 oM]
theorem mapFrom_get {f:Int→Int} {i p:Nat} {l:List St} :(kaw f i p l)[i+p]? =l[i+p]? :=by
 rw[keo]
 cases l[i+p]? with
 |none=>rfl
 |some s=>rw[ue5,ua0 oM]
theorem kjP {f:Int→Int} {i p:Nat} {l:List St} {s:St} (h:l[i+p]? =N s):kaw f i (p+1) l=(kaw f i p l).set (i+p) (Oz.mapA f s):=by
 have az:=(gH h).1;apply uh3;intro q;by_cases bj:i+p=q
 .subst bj;rw[ud2 (by rw[kjQ];exact az),keo,h,ue5,ua1 oM]
 .rw[ue2 bj,keo,keo]
  cases l[q]? with
  |none=>rfl
  |some t=>
   rw[ue5,ue5];by_cases an:i≤q∧q<i+p
   .rw[ua1 oM,ua1 an]
   .rw[ua0 oM,ua0 an]
theorem kjR {f:Int→Int} {i p:Nat} {l:List St} (h:i+p=l.length):kaw f i p l=l.take i++(l.drop i).map (Oz.mapA f):=by
 apply uh3;intro q;rw[keo];by_cases bj:q<i
 .rw[ui1 (by rw[ub8];omega),uc4,ua1 bj]
  cases l[q]? with
  |none=>rfl
  |some s=>rw[ue5,ua0 oM]
 .rw[uf4 (by rw[ub8];omega),ub9,ud0,ub8,show i+(q-min i l.length)=q by omega];by_cases fu:q<l.length
  .rw[ua3 fu,ue5,ue5,ua1 oM]
  .rw[ud5 oM];rfl
def kaZ (f:Int→Int) (args:List Int) (k:Nat):List Int:=(args.take k).map f++args.drop k
def khK (f:Int→Int) (args:List Int) (k:Nat):(kaZ f args k).length=args.length:=by unfold kaZ;simp;omega
def argsTo_get {f:Int→Int} {args:List Int} {k:Nat} :(kaZ f args k)[k]? =args[k]? :=by
 unfold kaZ;by_cases h:k<args.length
 .rw[uf4 (by simp;omega),ud0];congr 1;simp;omega
 .rw[ud5 (by simp;omega),ud5 oM]
def khJ {f:Int→Int} {args:List Int} {k:Nat} {a:Int} (h:args[k]? =N a):kaZ f args (k+1)=(kaZ f args k).set k (f a):=by have aw:=(gH h).1;unfold kaZ;rw[ue0,h,us7,uj3,List.map_singleton,ur3 _ _ (by simp;omega),ui9,ub8,show k-min k args.length=0 by omega];have aD:args.drop k=a::args.drop (k+1):=(by rw[ue7 aw];congr 1;rw[ua3 aw] at h;injection h);rw[aD];simp
def kkY {f:Int→Int} {args:List Int} {k:Nat} {a:Int} (h:args[k]? =N a) (b5:f a=a):kaZ f args (k+1)=kaZ f args k:=by
 rw[khJ h,b5];apply uh3;intro q;by_cases bj:k=q
 .subst bj;rw[ud2 (by rw[khK];exact (gH h).1),argsTo_get,h]
 .rw[ue2 bj]
def kkX (f:Int→Int) (args:List Int):kaZ f args 0=args:=by unfold kaZ;simp
def kkZ (f:Int→Int) (args:List Int):kaZ f args args.length=args.map f:=by unfold kaZ;simp
def kvt {l:List St} {i:Nat} (hi:i<l.length):Oz.mai l i=(l.eraseIdx i).take i++((l.eraseIdx i).drop i).map (Oz.mapA fun a=>if (i:Int)<a then a-1 else a):=by unfold Oz.mai;rw[List.eraseIdx_eq_take_drop_succ];have af:(l.take i++l.drop (i+1)).take i=l.take i:=(by rw[ul9 (by rw[ub8];omega),us4,Nat.min_self]);have ao:(l.take i++l.drop (i+1)).drop i=l.drop (i+1):=(by have az:(l.take i).length=i:=(by rw[ub8];omega);have:=List.drop_left (l₁:=l.take i) (l₂:=l.drop (i+1));rwa [az] at this);rw[af,ao]
def khY (h:P:=by subst bj;rw[ud2 (ue1.1 fc).1,fc]):=h
def klp (h:P:=by
 go_wp2_with fail;go_roundg cB
 case measure=>omega
 case rel=>exact ⟨k+1,by go_num,oM,oM,Bs,m4,rW⟩):=h
def klo (h:P:=by
 go_wp2_with fail;go_roundg cB
 case measure=>omega
 case rel=>exact ⟨k+1,by go_num,oM,oM,ix,m4,b4⟩):=h
def kli (h:P:=by
 go_wp2_with fail;go_roundg f
 case measure=>omega
 case rel=>exact ⟨p+1,by go_num,oM,oM,qU,b4⟩):=h
def kio (h:P:=by obtain ⟨b7,dB,j7⟩:=hd3 al au ku.2;have dL:=ku.1;have cU:(p:Int)<(d:Int):=oM;have bE:=nN p;first|guard_hyp OV;have oS:=hD (show i+p<(kaw (fRm i) i p bx).length from (ue1.1 fc).1);have OM:=();exact kiu|guard_hyp O0;have oS:=hD (show i+1+p<(kaw (fRp i j) (i+1) p l).length from (ue1.1 fc).1);have ON:=();exact kiu|have oS:=hD (show i+p<(kaw (fIn i) i p l).length from (ue1.1 fc).1);exact kiu):=h
def kix (h:P:=by
 injection eU with d4 dz cq;clear dz;subst d4 cq;have gK:=iV a (argsTo_get.trans aE);have k1:=ix.o.cell 1;simp only[gA,gB,gC] at k1;have eD:(k:Int)<(s.args.length:Int):=oM;have eS:=nN k
 first
 |guard_hyp OS;have dR:∃ cur,Blk wr q 3 cur:=(kbE (bq.o.own (i+p) _ _ (ud2 oS.o) dB.o) rfl).2;by_cases oE:(i:Int)<a
  .have jW:fRm i a=a-1:=ua1 oE;have m4:Hz (EdX (wr.setCell ⟨q,k,Z⟩ (I U (a-1))) base g ap cap ((kaw (fRm i) i p bx).set (i+p) { s with args:=kaZ (fRm i) s.args (k+1) }) (vs.eraseIdx i) aP):=hD (by have h:=mq;rw[List.set_set] at h;rw[khJ aE,jW];exact h);obtain ⟨cur,b0⟩:=dR;have rW:=hD (b4.o.setCell (p:=⟨q,k,Z⟩) io b0 dC (I U (a-1)));have Bs:=hD (ix.o.far (p:=⟨q,k,Z⟩) (ix.o.ne_ b0 dC) (I U (a-1)));have fn:=uc5 (a-1) oM;clear aE hz iV mq b0;exact klp
  .have jW:fRm i a=a:=ua0 oE;have m4:Hz (EdX wr base g ap cap ((kaw (fRm i) i p bx).set (i+p) { s with args:=kaZ (fRm i) s.args (k+1) }) (vs.eraseIdx i) aP):=hD (by rw[kkY aE jW];exact bq.o);clear aE hz iV mq dR;exact klo
 |guard_hyp OT;have dR:∃ cur,Blk wr q 3 cur:=(kbE (bq.o.own (i+1+p) _ _ (ud2 oS.o) dB.o) rfl).2;by_cases oE:a=(i:Int)
  .have jW:fRp i j a=(j:Int):=ua1 oE;have m4:Hz (EdX (wr.setCell ⟨q,k,Z⟩ (I U j)) base g ap cap ((kaw (fRp i j) (i+1) p l).set (i+1+p) { s with args:=kaZ (fRp i j) s.args (k+1) }) vs aP):=hD (by have h:=mq;rw[List.set_set] at h;rw[khJ aE,jW];exact h);obtain ⟨cur,b0⟩:=dR;have rW:=hD (b4.o.setCell (p:=⟨q,k,Z⟩) io b0 dC (I U j));have Bs:=hD (ix.o.far (p:=⟨q,k,Z⟩) (ix.o.ne_ b0 dC) (I U j));clear aE hz iV mq b0 jW;subst oE;exact klp
  .have jW:fRp i j a=a:=ua0 oE;have m4:Hz (EdX wr base g ap cap ((kaw (fRp i j) (i+1) p l).set (i+1+p) { s with args:=kaZ (fRp i j) s.args (k+1) }) vs aP):=hD (by rw[kkY aE jW];exact bq.o);have ch:(a==(i:Int))=J:=ua2.2 oE;clear aE hz iV mq dR jW;exact klo
 |have dR:∃ cur,Blk wr q 3 cur:=(kbE (bq.o.own (i+p) _ _ (ud2 oS.o) dB.o) rfl).2;by_cases oE:(i:Int)≤a
  .have jW:fIn i a=a+1:=ua1 oE;have m4:Hz (EdX (wr.setCell ⟨q,k,Z⟩ (I U (a+1))) base g ap cap ((kaw (fIn i) i p l).set (i+p) { s with args:=kaZ (fIn i) s.args (k+1) }) vs aP):=hD (by have h:=mq;rw[List.set_set] at h;rw[khJ aE,jW];exact h);obtain ⟨cur,b0⟩:=dR;obtain ⟨rW,Bs,OO⟩:=hd3 (b4.o.setCell (p:=⟨q,k,Z⟩) io b0 dC (I U (a+1))) (ix.o.far (p:=⟨q,k,Z⟩) (ix.o.ne_ b0 dC) (I U (a+1))) (f7.o.far (p:=⟨q,k,Z⟩) (f7.o.ne_ b0 dC) (I U (a+1)))
   have OP:Hz ((wr.setCell ⟨q,k,Z⟩ (I U (a+1))).ownsRow base 3 1 (D oY xs.length oZ) xs.length (xs.map (I U))):=hD (kcx oT.o (fun b ak=>ud7 wr ⟨q,k,Z⟩ _ b (fun e=>by
    rcases cW.o _ _ dB.o with aD|aD
    .rw[ak] at aD;cases aD
    .exact aD (by rw[ak,e];rfl))))
   have fn:=uc5 (a+1) oM;clear aE hz iV mq b0 jW;go_wp2_with fail;go_roundg cB
   case measure=>omega
   case rel=>exact ⟨k+1,by go_num,oM,oM,Bs,m4,rW,OO,OP⟩
  .have jW:fIn i a=a:=ua0 oE;have m4:Hz (EdX wr base g ap cap ((kaw (fIn i) i p l).set (i+p) { s with args:=kaZ (fIn i) s.args (k+1) }) vs aP):=hD (by rw[kkY aE jW];exact bq.o);clear aE hz iV mq dR jW;go_wp2_with fail;go_roundg cB
   case measure=>omega
   case rel=>exact ⟨k+1,by go_num,oM,oM,ix,m4,b4,f7,oT⟩):=h
def kiu (h:P:=by
 have eL:=hD (fun o=>bq.o.below (kax wr o));have ln:=hD (fun o=>b4.o.below (kax wr o) (uc9 bq.o.hg (ui0 bq.o.ed.lt)))
 first
 |guard_hyp OM
  have m5:Hz ((kaw (fRm i) i p bx).set (i+p) { s with args:=kaZ (fRm i) s.args 0 } =kaw (fRm i) i p bx):=hD (by
   rw[kkX];apply uh3;intro q;by_cases bj:i+p=q
   .exact khY
   .rw[ue2 bj])
  clear al fc au ku bf bq b4;go_upto_region 4 with (fail);have OQ:=();exact kiK
 |guard_hyp ON
  have m5:Hz ((kaw (fRp i j) (i+1) p l).set (i+1+p) { s with args:=kaZ (fRp i j) s.args 0 } =kaw (fRp i j) (i+1) p l):=hD (by
   rw[kkX];apply uh3;intro q;by_cases bj:i+1+p=q
   .exact khY
   .rw[ue2 bj])
  clear al fc au ku bf bq b4;go_upto_region 9 with (fail);have OR:=();exact kiK
 |have bU:=hD (fun o=>f7.o.below (kax wr o) f7.o.lt);have lW:=hD (fun o=>kaI oT.o (kax wr o))
  have m5:Hz ((kaw (fIn i) i p l).set (i+p) { s with args:=kaZ (fIn i) s.args 0 } =kaw (fIn i) i p l):=hD (by
   rw[kkX];apply uh3;intro q;by_cases bj:i+p=q
   .exact khY
   .rw[ue2 bj])
  clear al fc au ku bf bq b4 f7 oT;go_upto_region 4 with (fail);exact kiK):=h
def kiK (h:P:=by
 obtain ⟨cT,gd⟩:=xE (wr.alloc (y #[Q ⟨s.op.toArray⟩,D A s.args.length c,I U s.num,Q ⟨s.text.toArray⟩,I U s.ty] 77));rw[←gd];have jE:=bM gd;have bY:=jE.cell 1;simp only[gA,gB,gC] at bY;have sW:=hD jE
 first
 |guard_hyp OQ;have qj:Hz (EdX cT base g ap cap ((kaw (fRm i) i p bx).set (i+p) { s with args:=kaZ (fRm i) s.args 0 }) (vs.eraseIdx i) aP):=hD (by rw[m5.o,gd];exact eL.o _);have sX:Hz (FrX base w cT):=hD (by rw[gd];exact ln.o _);clear gd jE eL ln m5 be b8 cn c0 c3;go_wp2_with fail;clear bY;go_loopg [6,7,33] (s.args.length+1) (fun f _ _ cS jK=>ksr base g ap cap (fRm i) i p bx s (vs.eraseIdx i) aP w wr #[Q ⟨s.op.toArray⟩,D A s.args.length c,I U s.num,Q ⟨s.text.toArray⟩,I U s.ty] f cS jK)
  case atStart=>exact ⟨0,rfl,oM,oM,sW,qj,sX⟩
  case round=>
   clear sW qj sX;obtain ⟨k,rfl,aw,fo,ix,bq,b4⟩:=hrel;obtain ⟨cB,rfl⟩:=xS gk;by_cases gp:k<s.args.length
   .obtain ⟨a,aE⟩:∃ a,s.args[k]? =N a:=⟨s.args[k],ua3 gp⟩;have hz:=j7.o a (ua4 aE);obtain ⟨q,aZ,eU,iV,wu,io,mq⟩:=bq.o.setArg (i:=i+p) (k:=k) (ud2 oS.o) dB.o (show k<(kaZ (fRm i) s.args k).length by rw[khK];exact gp) (a-1);have OS:=();exact kix
   .have hh:k=s.args.length:=oM;subst hh;have eD:¬((s.args.length:Int)<(s.args.length:Int)):=oM;have qU:Hz (EdX wr base g ap cap (kaw (fRm i) i (p+1) bx) (vs.eraseIdx i) aP):=hD (by have h:=bq.o;rw[kkZ] at h;rw[sN.o];exact h);exact kli
 |guard_hyp OR;have qj:Hz (EdX cT base g ap cap ((kaw (fRp i j) (i+1) p l).set (i+1+p) { s with args:=kaZ (fRp i j) s.args 0 }) vs aP):=hD (by rw[m5.o,gd];exact eL.o _);have sX:Hz (FrX base w cT):=hD (by rw[gd];exact ln.o _);clear gd jE eL ln m5 be b8 cn c0 c3;go_wp2_with fail;clear bY;go_loopg [9,10,49] (s.args.length+1) (fun f _ _ cS jK=>ksr base g ap cap (fRp i j) (i+1) p l s vs aP w wr #[Q ⟨s.op.toArray⟩,D A s.args.length c,I U s.num,Q ⟨s.text.toArray⟩,I U s.ty] f cS jK)
  case atStart=>exact ⟨0,rfl,oM,oM,sW,qj,sX⟩
  case round=>
   clear sW qj sX;obtain ⟨k,rfl,aw,fo,ix,bq,b4⟩:=hrel;obtain ⟨cB,rfl⟩:=xS gk;by_cases gp:k<s.args.length
   .obtain ⟨a,aE⟩:∃ a,s.args[k]? =N a:=⟨s.args[k],ua3 gp⟩;have hz:=j7.o a (ua4 aE);obtain ⟨q,aZ,eU,iV,wu,io,mq⟩:=bq.o.setArg (i:=i+1+p) (k:=k) (ud2 oS.o) dB.o (show k<(kaZ (fRp i j) s.args k).length by rw[khK];exact gp) (j:Int);have OT:=();exact kix
   .have hh:k=s.args.length:=oM;subst hh;have eD:¬((s.args.length:Int)<(s.args.length:Int)):=oM;have qU:Hz (EdX wr base g ap cap (kaw (fRp i j) (i+1) (p+1) l) vs aP):=hD (by have h:=bq.o;rw[kkZ] at h;rw[sN.o];exact h);exact kli
 |have qj:Hz (EdX cT base g ap cap ((kaw (fIn i) i p l).set (i+p) { s with args:=kaZ (fIn i) s.args 0 }) vs aP):=hD (by rw[m5.o,gd];exact eL.o _);have sX:Hz (FrX base w cT):=hD (by rw[gd];exact ln.o _);have II:Hz (Blk cT w 77 #[Q ⟨op.toArray⟩,D oY xs.length oZ,I U num,Q ⟨text.toArray⟩,I U ty]):=hD (by rw[gd];exact bU.o _);have wx:Hz (cT.ownsRow base 3 1 (D oY xs.length oZ) xs.length (xs.map (I U))):=hD (by rw[gd];exact lW.o _);clear gd jE eL ln bU lW m5 be b8 cn c0 c3;go_wp2_with fail;clear bY;go_loopg [8,9,24] (s.args.length+1) (fun f _ _ cS jK=>kDh base g ap cap (fIn i) i p l s vs aP w wr #[Q ⟨s.op.toArray⟩,D A s.args.length c,I U s.num,Q ⟨s.text.toArray⟩,I U s.ty] w.heap.size #[Q ⟨op.toArray⟩,D oY xs.length oZ,I U num,Q ⟨text.toArray⟩,I U ty] (D oY xs.length oZ) xs f cS jK)
  case atStart=>exact ⟨0,rfl,oM,oM,sW,qj,sX,II,wx⟩
  case round=>
   clear sW qj sX II wx;obtain ⟨k,rfl,aw,fo,ix,bq,b4,f7,oT⟩:=hrel;obtain ⟨cB,rfl⟩:=xS gk;by_cases gp:k<s.args.length
   .obtain ⟨a,aE⟩:∃ a,s.args[k]? =N a:=⟨s.args[k],ua3 gp⟩;have hz:=j7.o a (ua4 aE);obtain ⟨q,aZ,eU,iV,wu,io,mq⟩:=bq.o.setArg (i:=i+p) (k:=k) (ud2 oS.o) dB.o (show k<(kaZ (fIn i) s.args k).length by rw[khK];exact gp) (a+1);exact kix
   .have hh:k=s.args.length:=oM;subst hh;have eD:¬((s.args.length:Int)<(s.args.length:Int)):=oM;have qU:Hz (EdX wr base g ap cap (kaw (fIn i) i (p+1) l) vs aP):=hD (by have h:=bq.o;rw[kkZ] at h;rw[sN.o];exact h);go_wp2_with fail;go_roundg f
    case measure=>omega
    case rel=>exact ⟨p+1,by go_num,oM,oM,qU,b4,f7,oT⟩):=h
def fRm (i:Nat) (a:Int):Int:=if (i:Int)<a then a-1 else a
def ksq (base g ap cap:Nat) (f0:Int→Int) (i d:Nat) (bx:List St) (vs:List C) (aP:C) (w:O) (f:Nat) (c:C) (wr:O):Prop:=∃ p:Nat,c=I U p∧p≤d∧d-p<f∧Hz (EdX wr base g ap cap (kaw f0 i p bx) vs aP)∧Hz (FrX base w wr)
def ksr (base g ap cap:Nat) (f0:Int→Int) (i p:Nat) (bx:List St) (s:St) (vs:List C) (aP:C) (w:O) (dt:Nat) (Az:Array C) (f:Nat) (c:C) (wr:O):Prop:=∃ k:Nat,c=I U k∧k≤s.args.length∧s.args.length-k<f∧Hz (Blk wr dt 77 Az)∧Hz (EdX wr base g ap cap ((kaw f0 i p bx).set (i+p) { s with args:=kaZ f0 s.args k }) vs aP)∧Hz (FrX base w wr)
def khg (base g ap cap i:Nat) (l:List St) (vs:List C) (aP:C) (w:O) (h:EdX w base g ap cap l vs aP) (hi:i+1<l.length) (ak:∀ s∈l,s.args.length≤3∧∀ a∈s.args,0≤a∧a≤100000):
 L prog 116 #[ab (N ⟨g,0,Z⟩),I U i] w fun e w'=>e=ac (ag #[])∧EdX w' base g ap cap (Oz.mai l i) (vs.eraseIdx i) aP∧FrX base w w':=by
 obtain ⟨cs,aL,bJ,dn⟩:=h.blk;have eI:=h.le;have kX:=h.cap;have be:=h.ed.cell 0;simp only[gA,gB] at be;obtain ⟨n,ax⟩:∃ n,n+1=l.length:=⟨l.length-1,oM⟩;obtain ⟨m,bg⟩:=xE (n+1);have kW:i<n:=oM;have hd:=kAU ap n i cap cs w aL bJ kW oM oM (fun q v bj au=>dn q v oM au);rw[←bg] at hd;rw[←ax,←bg] at be;have rX:n≤100000:=oM;have Bt:((i+1:Nat):Int)=(i:Int)+1:=oM;rw[Bt] at hd;obtain ⟨cW,dh,bF,a8,dc,IJ⟩:=hd6 hd h ax aL kW (kvt (l:=l) (i:=i) oM);have ef:=h.ed.lt;have uE:=hD h.ne;have ew:(l.eraseIdx i).length=n:=(by rw[up1];split <;> omega);have cm:∀ s∈l.eraseIdx i,s.args.length≤3∧∀ a∈s.args,0≤a∧a≤100000:=fun s al=>ak s (List.mem_of_mem_eraseIdx al);have IK:n<cap:=oM;obtain ⟨bx,DU⟩:=xE (l.eraseIdx i);rw[←DU] at ew cm IJ;obtain ⟨q7,OU,ev⟩:=hd3 ew DU cm;clear hd h aL bJ dn ak ax bg ew cm DU hi eI;go_enter func116,ntmps116;go_wp2_with fail;refine cW.o.mono ?_;rintro e aq ⟨rfl,iY,eo,cm,gZ,i1,f6⟩;obtain ⟨aF,bW⟩:=xE (aq.setCell ⟨g,0,Z⟩ (D (N ⟨ap,0,Z⟩) n cap));have aB:=dh.o.erase bF.o dc.o iY eo cm (fun Cs aD=>by have:Cs=cs:=(by have:=aD.symm.trans a8.o;injection this with this;injection this);subst this;exact ⟨gZ,i1,f6⟩) bW;rw[←OU.o] at aB;have eY:=hD aB.1;have b4:=hD aB.2;have qg:Blk aq g 85 #[D (N ⟨ap,0,Z⟩) l.length cap,aP]:=dh.o.ed.grown iY (fun e=>uE.o (by injection e));have bu:=qg.cell 0;simp only[gA,gB] at bu;have bY:=qg.frozen 0;have e1:=hD bW;clear iY cm gZ i1 f6 aB qg bW cW;go_upto_region 1 with (fail);rw[←e1.o];have z0:=eY.o.ed.cell 0;simp only[gA,gB] at z0;rw[q7.o] at z0;obtain ⟨d,hd⟩:=xE (n-i);have AR:n-i=d:=hd.symm;have AS:¬(cap=i):=oM;have wk:(i:Int)≤(n:Int):=oM;have Ij:=nN i;have wl:(n:Int)≤(cap:Int):=oM;have sY:Hz (i+d=n):=hD (by have:=dc.o;omega);have rV:d≤100000:=oM;have sZ:Hz (EdX aF base g ap cap (kaw (fRm i) i 0 bx) (vs.eraseIdx i) aP):=hD (by rw[kjO];exact eY.o);clear bu bY be e1 hd;go_wp2_with fail;clear z0;go_loopg [5,6,7,26,33] (d+1) (fun f _ _ _ c _ wr=>ksq base g ap cap (fRm i) i d bx (vs.eraseIdx i) aP w f c wr)
 case atStart=>exact ⟨0,rfl,oM,oM,sZ,b4⟩
 case round=>
  clear sZ b4;obtain ⟨p,rfl,aO,Br,bq,b4⟩:=hrel;obtain ⟨f,rfl⟩:=xS gk;by_cases bG:p<d
  .obtain ⟨s,al⟩:∃ s,bx[i+p]? =N s:=⟨bx[i+p]'(by have:=q7.o;have:=sY.o;omega),ua3 _⟩;have fc:(kaw (fRm i) i p bx)[i+p]? =N s:=mapFrom_get.trans al;have ku:=ev.o s (ua4 al);obtain ⟨v,au,⟨be,b8,cn,c0,c3⟩,bf⟩:=bq.o.at_ fc;obtain ⟨A,c,rfl⟩:=kaA bf;rw[show (i+p)*5=i*5+p*5 by omega] at be b8 cn c0 c3;have sN:=hD (kjP (f:=fRm i) al);have OV:=();exact kio
  .have oR:p=d:=oM;subst oR;have cU:¬((p:Int)<(p:Int)):=oM;have qU:Hz (EdX wr base g ap cap (Oz.mai l i) (vs.eraseIdx i) aP):=hD (by have h:=bq.o;rw[kjR (by rw[q7.o];exact sY.o)] at h;rw[IJ.o];exact h);go_wp2_with fail;refine bodyPost_end (v:=ag #[]) (by simp[results,results116,go_sem]) rfl ?_;exact ⟨rfl,qU.o,b4.o⟩
def kfK (g ap cap:Nat) (l:List St) (aP:C) (w:O) (h:EdAt w g ap cap l aP) (j i:Nat) (b9:j<i) (dK:i<l.length):
 L prog 118 #[ab (N ⟨g,0,Z⟩),I U i,I U j] w fun e w'=>e=ac (V (Oz.maA l i j))∧H w w w':=by
 have eI:=h.le;have kX:=h.cap;have be:=h.ed.cell 0;simp only[gA,gB] at be;have b7:=hD (koQ g ap cap l aP w h j i b9 (ui0 dK));obtain ⟨n,ax⟩:=xE l.length;rw[←ax] at be kX dK;have fn:=uc5 ((n:Int)-1) oM;by_cases hk:i+1<n
 .have aH:Oz.maA l i j=K:=(by unfold Oz.maA;rw[←ax,ub3 hk];rfl);have a1:=hD aH;have cU:(i:Int)<(n:Int)-1:=oM;clear h ax aH hk;go_enter func118,ntmps118;go_wp2_with fail;go_ret;rw[a1.o];exact ⟨rfl,ub5 _ _⟩
 .have aH:Oz.maA l i j=Oz.maN l j i:=(by unfold Oz.maA;rw[←ax,ua5 hk];rfl);have a1:=hD aH;have cU:¬((i:Int)<(n:Int)-1):=oM;clear h ax aH hk;go_enter func118,ntmps118;go_wp2_with fail;refine b7.o.mono ?_;rintro e aF ⟨rfl,bs⟩;have bo:=hD bs;rw[←a1.o];obtain ⟨b,ak⟩:=xE (Oz.maA l i j);rw[←ak];have aV:=hD ak;clear bs ak b7;go_wp2_with fail;go_ret;rw[←aV.o];exact ⟨rfl,bo.o⟩
def EdX.cut {w:O} {base g ap cap:Nat} {l:List St} {vs:List C} {aP:C} (h:EdX w base g ap cap l vs aP) {k:Nat} (aw:k≤l.length):EdX (w.setCell ⟨g,0,Z⟩ (D (N ⟨ap,0,Z⟩) k cap)) base g ap cap (l.take k) (vs.take k) aP∧FrX base w (w.setCell ⟨g,0,Z⟩ (D (N ⟨ap,0,Z⟩) k cap)):=by
 obtain ⟨cs,aL,bJ,dn⟩:=h.blk;have ch:=h.ne;have eI:=h.le;have kX:=h.cap;have gp:(l.take k).length=k:=(by rw[ub8];omega);have hgs:(w.setCell ⟨g,0,Z⟩ (D (N ⟨ap,0,Z⟩) k cap)).heap[ap]? =w.heap[ap]? :=ud7 w ⟨g,0,Z⟩ _ ap (fun e=>ch e.symm)
 have lS:∀ {α:Type} (xs:List α) (q:Nat) (x:α),(xs.take k)[q]? =N x→xs[q]? =N x:=fun xs q x aA=>by
  rw[uc4] at aA;split at aA
  .exact aA
  .cases aA
 refine ⟨⟨by rw[gp];exact h.ed.mac 0 _,⟨cs,aL.far (p:=⟨g,0,Z⟩) (fun e=>ch e.symm) _,bJ,fun q v bj au=>dn q v oM au⟩,by rw[ub8,ub8,h.len],fun q s v al au=>(h.cells q s v (lS l q s al) (lS vs q v au)).same hgs,fun q s v al au=>?_,fun a b v cH hz au g0=>h.dis a b v cH hz (lS vs a v au) (lS vs b cH g0),oM,oM,h.hg,h.hgs⟩,(FrX.refl base w).setCell (p:=⟨g,0,Z⟩) h.hg h.ed dC _⟩;have fc:=lS l q s al;have g0:=lS vs q v au;exact kcx (h.own q s v fc g0) (fun b ak=>ud7 w ⟨g,0,Z⟩ _ b (h.apart fc g0 ak).1)
def khX (h:P:=by go_wp2_with fail;go_ret;unfold RepEnd;rw[cC.o];exact ⟨rfl,a7.o⟩):=h
def fRp (i j:Nat) (a:Int):Int:=if a=(i:Int) then (j:Int) else a
theorem kxu {f:Int→Int} {i p:Nat} {l:List St} {t:St} (h:t∈kaw f i p l):∃ s∈l,t=s∨t=Oz.mapA f s:=by
 obtain ⟨q,bj⟩:=uh7 h;rw[keo] at bj
 cases az:l[q]? with
 |none=>rw[az] at bj;cases bj
 |some s=>
  rw[az,ue5] at bj;injection bj with bj;refine ⟨s,ua4 az,?_⟩;split at bj
  .exact .inr bj.symm
  .exact .inl bj.symm
def RepEnd (base g ap cap:Nat) (l:List St) (vs:List C) (aP:C) (r:Option (List St)) (w:O) (e:Ending) (w':O):Prop:=e=ac (V r.isSome)∧match r with
 |none=>H w w w'
 |some l'=>(∃ qE,EdX w' base g ap cap l' qE aP)∧FrX base w w'
theorem kc6 (base g ap cap i j:Nat) (l:List St) (vs:List C) (aP:C) (w:O) (h:EdX w base g ap cap l vs aP) (b9:j<i) (dK:i<l.length) (ak:∀ s∈l,s.args.length≤3∧∀ a∈s.args,0≤a∧a≤100000):
 L prog 110 #[ab (N ⟨g,0,Z⟩),I U i,I U j] w (RepEnd base g ap cap l vs aP (Oz.mad l i j) w):=by
 have eI:=h.le;have kX:=h.cap;have ic:=hD (kfK g ap cap l aP w h.ma5 j i b9 dK);obtain ⟨jh,ej⟩:=xE (Oz.maA l i j);rw[←ej] at ic;obtain ⟨n,ax⟩:=xE l.length;obtain ⟨R,aH⟩:=xE (Oz.mad l i j);rw[←aH];obtain ⟨a1,ji,bF,dh,ev⟩:=hd5 aH ej ax.symm h ak;have f5:base≤w.heap.size:=uc9 h.hg (ui0 h.ed.lt);have ef:=h.ed.lt;rw[←ax] at kX dK eI;clear h ej ax aH ak;go_enter func110,ntmps110;go_wp2_with fail;refine ic.o.mono ?_;rintro e aq ⟨rfl,cm⟩;obtain ⟨ml,a7,yv⟩:=hd3 (dh.o.below cm) cm ((FrX.refl base w).below cm f5);have cJ:=cm.size;clear cm ic
 cases jh with
 |false=>have cC:Hz (R=Z):=hD (by rw[a1.o];unfold Oz.mad;rw[ua1 ji.o.symm]);exact khX
 |true=>
  have be:=ml.o.ed.cell 0;simp only[gA,gB] at be;rw[bF.o] at be;have wu:=ml.o.ed.frozen 0;by_cases hk:i+1=n
  .have cC:Hz (R=N (l.take (j+1))):=hD (by rw[a1.o];unfold Oz.mad;rw[ua0 (by rw[←ji.o];simp),ua1 (by rw[bF.o];exact hk)]);have hcut:=ml.o.cut (k:=j+1) (by rw[bF.o];omega);have OW:=hD hcut.1;have OX:=hD (yv.o.trans hcut.2);have cU:((i:Int)==(n:Int)-1)=K:=(by rw[ut1];omega);have bE:(j:Int)+1≤(cap:Int):=oM;have c2:(0:Int)≤(j:Int)+1:=oM;have fn:=uc5 ((n:Int)-1) oM;clear hcut;go_wp2_with fail;go_ret;unfold RepEnd;rw[cC.o];exact ⟨rfl,⟨_,OW.o⟩,OX.o⟩
  .have cC:Hz (R=N (Oz.mai (l.take (i+1)++(l.drop (i+1)).map (Oz.mapA (fRp i j))) i)):=hD (by rw[a1.o];unfold Oz.mad;rw[ua0 (by rw[←ji.o];simp),ua0 (by rw[bF.o];exact hk)];rfl);obtain ⟨d,hd⟩:=xE (n-(i+1));have AR:n-(i+1)=d:=hd.symm;have sY:Hz (i+1+d=n):=hD oM;have AS:¬(cap=i+1):=oM;have cU:((i:Int)==(n:Int)-1)=J:=ua2.2 oM;have OY:¬((i:Int)=(n:Int)-1):=oM;have bE:(i:Int)+1≤(n:Int):=oM;have c2:(0:Int)≤(i:Int)+1:=oM;have j4:(n:Int)≤(cap:Int):=oM;have fn:=uc5 ((n:Int)-1) oM;have rV:d≤100000:=oM;have yw:i+1<l.length:=(by rw[bF.o];omega);have OZ:=hD yw;have sZ:Hz (EdX aq base g ap cap (kaw (fRp i j) (i+1) 0 l) vs aP):=hD (by rw[kjO];exact ml.o);clear hd yw wu;go_wp2_with fail;clear be fn cU OY;go_loopg [8,9,10,42,49] (d+1) (fun f _ _ _ c _ wr=>ksq base g ap cap (fRp i j) (i+1) d l vs aP w f c wr)
   case atStart=>exact ⟨0,rfl,oM,oM,sZ,yv⟩
   case round=>
    clear sZ yv;obtain ⟨p,rfl,aO,Br,bq,b4⟩:=hrel;obtain ⟨f,rfl⟩:=xS gk;by_cases bG:p<d
    .obtain ⟨s,al⟩:∃ s,l[i+1+p]? =N s:=⟨l[i+1+p]'(by have:=bF.o;have:=sY.o;omega),ua3 _⟩;have fc:(kaw (fRp i j) (i+1) p l)[i+1+p]? =N s:=mapFrom_get.trans al;have ku:=ev.o s (ua4 al);obtain ⟨v,au,⟨be,b8,cn,c0,c3⟩,bf⟩:=bq.o.at_ fc;obtain ⟨A,c,rfl⟩:=kaA bf;rw[show (i+1+p)*5=(i+1)*5+p*5 by omega] at be b8 cn c0 c3;have sN:=hD (kjP (f:=fRp i j) al);have O0:=();exact kio
    .have oR:p=d:=oM;subst oR;have eD:¬((p:Int)<(p:Int)):=oM
     have lX:=hD (khg base g ap cap i (kaw (fRp i j) (i+1) p l) vs aP wr bq.o (by rw[kjQ];exact OZ.o) (fun t aB=>by
      obtain ⟨s,al,an⟩:=kxu aB;have ku:=ev.o s al;rcases an with rfl|rfl
      .exact ku
      .refine ⟨by unfold Oz.mapA;simpa using ku.1,fun a aE=>?_⟩;unfold Oz.mapA at aE;obtain ⟨b,ak,rfl⟩:=uh8.1 aE;have:=ku.2 b ak;unfold fRp;split <;> omega))
     go_wp2_with fail;refine lX.o.mono ?_;rintro e dl ⟨rfl,ss,oz⟩;have qm:=hD ss;have yx:=hD (b4.o.trans oz);clear ss oz lX;go_wp2_with fail;go_ret;unfold RepEnd;rw[cC.o];have fi:=qm.o;rw[kjR (by rw[bF.o];exact sY.o)] at fi;exact ⟨rfl,⟨_,fi⟩,yx.o⟩
def zq4 (h:P:=by
 rw[aH.out];go_enter func111,ntmps111;go_wp2_with fail;go_quiet (fail);go_wp2_with fail;go_ret2
 first|exact ⟨rfl,kbm ((ub5 _ _).alloc (nR) _) _⟩|(refine ⟨?_,kbm ((ub5 _ _).alloc (nR) _) _⟩;have h:¬(num≤1152921504606846976):=(by have:=qd.o;omega);simp[h])):=h
def kiH (h:P:=by rw[aH.out];(first|guard_hyp yy;go_enter func113,ntmps113|guard_hyp yz;go_enter func115,ntmps115|go_enter func114,ntmps114);go_wp2_with fail;go_ret;exact ⟨rfl,ub5 _ _⟩):=h
def kil (h:P:=by
 have dK:=(gH al).1;have be:=h.ed.cell 0;simp only[gA,gB] at be;obtain ⟨c6,c,bu,bY,cP,c8,dj,_⟩:=h.st i s al;obtain ⟨m,bg⟩:=xE l.length;rw[←bg] at be dK;obtain ⟨op,args,num,text,ty⟩:=s;dsimp only at bu bY cP c8 dj ⊢;have cU:(i:Int)<(m:Int):=oM;have bE:=nN i;clear h al bg;first|guard_hyp O1;by_cases aD:op=kac|by_cases aD:op=kaF
 .subst aD;first|guard_hyp yy;unfold kaF at bu;by_cases af:text.length≤65536|guard_hyp yz;unfold kaF at bu;by_cases af:text=[]|unfold kac at bu;by_cases af:num=n
  ·(first|guard_hyp yy;have aH:=hD (show decide (kaF=kaF∧text.length≤65536)=K from ub3 ⟨rfl,af⟩);have av:(text.length:Int)≤65536:=oM|guard_hyp yz;have aH:=hD (show decide (kaF=kaF∧text=[])=K from ub3 ⟨rfl,af⟩);subst af|have aH:=hD (show decide (kac=kac∧num=n)=K from ub3 ⟨rfl,af⟩);subst af);exact kiH
  ·(first|guard_hyp yy;have aH:=hD (show decide (kaF=kaF∧text.length≤65536)=J from ua5 (fun h=>af h.2));have av:¬((text.length:Int)≤65536):=oM|guard_hyp yz;have aH:=hD (show decide (kaF=kaF∧text=[])=J from ua5 (fun h=>af h.2));have av:(text== [])=J:=ua2.2 af|have aH:=hD (show decide (kac=kac∧num=n)=J from ua5 (fun h=>af h.2));have av:(num==n)=J:=ua2.2 af);exact kiH
 ·(first|guard_hyp yy;have aH:=hD (show decide (op=kaF∧text.length≤65536)=J from ua5 (fun h=>aD h.1));have ao:(op== [115,116,114,105,110,103])=J:=ua2.2 aD|guard_hyp yz;have aH:=hD (show decide (op=kaF∧text=[])=J from ua5 (fun h=>aD h.1));have ao:(op== [115,116,114,105,110,103])=J:=ua2.2 aD|have aH:=hD (show decide (op=kac∧num=n)=J from ua5 (fun h=>aD h.1));have ao:(op== [110,117,109,98,101,114])=J:=ua2.2 aD);exact kiH):=h
section
variable (g ap cap i:Nat) (l:List St) (aP:C) (s:St) (w:O)
theorem ker (h:EdAt w g ap cap l aP) (al:l[i]? =N s) (n:Int):
 L prog 114 #[ab (N ⟨g,0,Z⟩),I U i,I U n] w fun e w'=>e=ac (V (decide (s.op=kac∧s.num=n)))∧H w w w':=by
 have O1:=();exact kil
theorem kqr (h:EdAt w g ap cap l aP) (al:l[i]? =N s):
 L prog 113 #[ab (N ⟨g,0,Z⟩),I U i] w fun e w'=>e=ac (V (decide (s.op=kaF∧s.text.length≤65536)))∧H w w w':=by
 have yy:=();exact kil
theorem kqs (h:EdAt w g ap cap l aP) (al:l[i]? =N s):
 L prog 115 #[ab (N ⟨g,0,Z⟩),I U i] w fun e w'=>e=ac (V (decide (s.op=kaF∧s.text=[])))∧H w w w':=by
 have yz:=();exact kil
theorem kpR (h:EdAt w g ap cap l aP) (al:l[i]? =N s):
 L prog 111 #[ab (N ⟨g,0,Z⟩),I U i] w fun e w'=>e=ac (ag #[I .i64 s.num,V (decide (s.op=kac∧s.num≤Oz.mab))])∧H w w w':=by
 have dK:=(gH al).1;have be:=h.ed.cell 0;simp only[gA,gB] at be;obtain ⟨c6,c,bu,bY,cP,c8,dj,_⟩:=h.st i s al;obtain ⟨m,bg⟩:=xE l.length;rw[←bg] at be dK;obtain ⟨op,args,num,text,ty⟩:=s;dsimp only at bu bY cP c8 dj ⊢;have cU:(i:Int)<(m:Int):=oM;have bE:=nN i;clear h al bg;by_cases aD:op=kac
 .subst aD;unfold kac at bu;by_cases af:num≤Oz.mab
  .have aH:=hD (show decide (kac=kac∧num≤Oz.mab)=K from ub3 ⟨rfl,af⟩);have av:num≤1152921504606846976:=af;exact zq4
  .have aH:=hD (show decide (kac=kac∧num≤Oz.mab)=J from ua5 (fun h=>af h.2));have av:¬(num≤1152921504606846976):=af;have qd:=hD av;exact zq4
 .have aH:=hD (show decide (op=kac∧num≤Oz.mab)=J from ua5 (fun h=>aD h.1));have ao:(op== [110,117,109,98,101,114])=J:=ua2.2 aD;exact zq4
end
def kh6 (h:P:=by
 go_enter func117,ntmps117;go_wp2_with fail;go_quiet (fail);go_wp2_with fail;go_ret2
 exact ⟨rfl,kbm (ub5 _ _) _⟩):=h
def keO (g ap bz cap i j:Nat) (l:List St) (AA:List Int) (s t:St) (w:O) (h:EdAt w g ap cap l (D (N ⟨bz,0,Z⟩) l.length l.length)) (aI:Blk w bz 3 (kau AA)) (jj:AA.length=l.length) (al:l[i]? =N s) (aS:s.args[0]? =N (j:Int)) (aB:l[j]? =N t) (op:List UInt8):
 L prog 117 #[ab (N ⟨g,0,Z⟩),I U i,Q ⟨op.toArray⟩] w fun e w'=>e=ac (ag #[I .i64 j,V (decide (t.op=op∧AA.getD j 0=1))])∧H w w w':=by
 have dK:=(gH al).1;have dk:=(gH aB).1;have dL:=(gH aS).1;have be:=h.ed.cell 0;have b8:=h.ed.cell 1;simp only[gA,gB,gC] at be b8;obtain ⟨c6,c,_,bY,_,_,_,am⟩:=h.st i s al;obtain ⟨YX,YY,z0,_,_,_,_,_⟩:=h.st j t aB;obtain ⟨fj,oa,rfl,_,e0,iV⟩:=RdF.int am aS;have gK:w.cell? ⟨fj,oa,Z⟩=N (I U j):=(by simpa using iV);have f3:w.cell? ⟨bz,j,Z⟩=N (I U (AA.getD j 0)):=(by rw[aI.cell];exact kgU oM);obtain ⟨u,nG⟩:=xE (AA.getD j 0);obtain ⟨m,bg⟩:=xE l.length;obtain ⟨IL,DV⟩:=xE s.args.length;obtain ⟨uF,gO⟩:=xE t.op;rw[←nG] at f3 ⊢;rw[←gO] at z0 ⊢;rw[←bg] at be b8 dK dk;rw[←DV] at bY dL;have cU:(i:Int)<(m:Int):=oM;have bE:=nN i;have c2:(j:Int)<(m:Int):=oM;have j4:=nN j;have mi:(0:Int)<(IL:Int):=oM;have kP:0<IL:=oM;clear h aI jj al aS aB am iV nG bg DV gO;by_cases aD:uF=op
 .subst aD;by_cases af:u=1
  .subst af;have aH:=hD (show decide (uF=uF∧(1:Int)=1)=K by simp);rw[aH.out];exact kh6
  .have aH:=hD (show decide (uF=uF∧u=1)=J by simp[af]);rw[aH.out];have ao:(u==1)=J:=ua2.2 af;exact kh6
 .have aH:=hD (show decide (uF=op∧u=1)=J by simp[aD]);rw[aH.out];have ao:(uF==op)=J:=ua2.2 aD;exact kh6
def klD (h:P:=by clear h aI al ak au bf nG ax aH hk oU;go_enter func77,ntmps77;go_wp2_with fail;go_ret;unfold RepEnd;rw[cC.o];exact ⟨rfl,ub5 _ _⟩):=h
def kal {l:List St} {i:Nat} {s:St} (h:l[i]? =N s):Oz.at_ l (i:Int)=s:=by unfold Oz.at_;rw[ub7,h];rfl
theorem ks2 (base g ap bz cap i:Nat) (l:List St) (vs:List C) (s:St) (w:O) (h:EdX w base g ap cap l vs (D (N ⟨bz,0,Z⟩) l.length l.length)) (aI:Blk w bz 3 (kau (kag l))) (al:l[i]? =N s) (ak:∀ s∈l,s.args.length≤3∧∀ a∈s.args,0≤a∧a≤100000):
 L prog 77 #[ab (N ⟨g,0,Z⟩),I U i] w (RepEnd base g ap cap l vs (D (N ⟨bz,0,Z⟩) l.length l.length) (Oz.ma0 l i) w):=by
 have dK:=(gH al).1;have kX:=h.cap;have f5:base≤w.heap.size:=uc9 h.hg (ui0 h.ed.lt);have be:=h.ed.cell 0;have b8:=h.ed.cell 1;simp only[gA,gB,gC] at be b8;obtain ⟨v,au,⟨bu,bY,cP,c8,dj⟩,bf⟩:=h.at_ al;obtain ⟨A,c,rfl⟩:=kaA bf;have jj:(kag l).length=l.length:=kgT l _;have f3:w.cell? ⟨bz,i,Z⟩=N (I U ((kag l).getD i 0)):=(by rw[aI.cell];exact kgU oM);obtain ⟨R,aH⟩:=xE (Oz.ma0 l i);rw[←aH];unfold Oz.ma0 at aH;rw[kal al] at aH;obtain ⟨u,nG⟩:=xE ((kag l).getD i 0);rw[←nG] at f3 aH;obtain ⟨n,ax⟩:=xE l.length;rw[←ax] at dK kX aH h be b8 ⊢;obtain ⟨dh,bF,ev⟩:=hd3 h ax ak;have fn:=uc5 ((n:Int)-1) oM;have cU:(i:Int)<(n:Int):=oM;have bE:=nN i;have ef:=h.ed.lt;have oU:=hD (koP s A s.args.length c w);by_cases hk:i+1=n
 .have cC:Hz (R=Z):=hD (by rw[aH,ua1 (.inl hk)]);have bw:((i:Int)==(n:Int)-1)=K:=(by rw[ut1];omega);exact klD
 have bw:((i:Int)==(n:Int)-1)=J:=ua2.2 oM;by_cases ht:0<u
 .have cC:Hz (R=Z):=hD (by rw[aH,ua1 (.inr (.inl ht))]);exact klD
 cases h8:Oz.ma9 s with
 |false=>have cC:Hz (R=Z):=hD (by rw[aH,ua1 (.inr (.inr h8))]);rw[h8] at oU;clear h aI al ak au bf nG ax aH hk;go_enter func77,ntmps77;go_wp2_with fail;refine oU.o.mono ?_;rintro e aq ⟨rfl,cm⟩;have a7:=hD cm;clear cm;exact khX
 |true=>have cC:Hz (R=N (Oz.mai l i)):=hD (by rw[aH,ua0 (by rw[h8];simp only[ul6];exact ⟨hk,ht,by simp⟩)]);rw[h8] at oU;have dc:Hz (i+1<l.length):=hD oM;clear h aI al ak au bf nG ax aH hk;go_enter func77,ntmps77;go_wp2_with fail;refine oU.o.mono ?_;rintro e aq ⟨rfl,cm⟩;have yv:=hD ((FrX.refl base w).below cm f5);have lX:=hD (khg base g ap cap i l vs (D (N ⟨bz,0,Z⟩) n n) aq (dh.o.below cm) dc.o ev.o);clear cm oU;go_wp2_with fail;refine lX.o.mono ?_;rintro e aF ⟨rfl,ir,mW⟩;have hx:=hD ir;have iL:=hD (yv.o.trans mW);clear ir mW lX;go_wp2_with fail;go_ret;unfold RepEnd;rw[cC.o];exact ⟨rfl,⟨_,hx.o⟩,iL.o⟩
def FrX.setCells {base ap:Nat} {w:O} {cs:Array C} (ak:Blk w ap 77 cs) (hg:base≤ap) (b0:base≤w.heap.size) (o:Nat) (xs:List C):FrX base w (w.setCells ap o xs):=FrX.grown (kc9 xs o w) b0 hg ak dC
def EdX.put {w:O} {base g ap cap i:Nat} {l:List St} {vs:List C} {aP:C} (h:EdX w base g ap cap l vs aP) (hi:i<l.length) (s':St) (cH:C) (bf:w.ownsRow base 3 1 cH s'.args.length (s'.args.map (I U)))
 (hd:∀ j v,j≠i→vs[j]? =N v→cH.ownBlock=Z∨v.ownBlock≠cH.ownBlock):
 EdX (w.setCells ap (i*5) [Q ⟨s'.op.toArray⟩,cH,I U s'.num,Q ⟨s'.text.toArray⟩,I U s'.ty]) base g ap cap (l.set i s') (vs.set i cH) aP∧FrX base w (w.setCells ap (i*5) [Q ⟨s'.op.toArray⟩,cH,I U s'.num,Q ⟨s'.text.toArray⟩,I U s'.ty]):=by
 obtain ⟨cs,aL,bJ,dn⟩:=h.blk;obtain ⟨A,c,rfl⟩:=kaA bf;obtain ⟨eo,ca,cI,z3,z4⟩:=kdF [Q ⟨s'.op.toArray⟩,D A s'.args.length c,I U s'.num,Q ⟨s'.text.toArray⟩,I U s'.ty] (i*5) w cs aL;have hg:=kc9 (g:=ap) [Q ⟨s'.op.toArray⟩,D A s'.args.length c,I U s'.num,Q ⟨s'.text.toArray⟩,I U s'.ty] (i*5) w;have ch:=h.ne;have eI:=h.le;have q5:=h.len;have Bu:i<vs.length:=oM;have O2:(D A s'.args.length c).ownBlock≠N ap:=ka5 bf aL dC;refine ⟨⟨by rw[ud8];exact h.ed.grown hg (fun e=>ch (by injection e)),⟨eo,ca,cI.trans bJ,fun q v bj au=>?_⟩,by rw[ud8,ud8];exact q5,fun j s v al au=>?_,fun j s v al au=>?_,fun a b v cH hz au g0=>?_,by rw[ud8];exact eI,by rw[ud8];exact h.cap,h.hg,h.hgs⟩,FrX.setCells aL h.hgs (uc9 h.hgs (ui0 aL.lt)) _ _⟩
 .rw[ud8] at bj;by_cases kW:q<i*5∨i*5+5≤q
  .exact dn q v bj (by rw[←z4 q (by simpa using kW)];exact au)
  .have:=z3 (q-i*5) (by simp;omega) oM;rw[show i*5+(q-i*5)=q by omega,au] at this;have bg:=ua4 this.symm;simp only[uc7,ue3,ui2] at bg;rcases bg with rfl|rfl|rfl|rfl|rfl <;> rfl
 .by_cases jf:i=j
  .subst jf;rw[ud2 hi] at al;rw[ud2 Bu] at au;injection al with al;injection au with au;subst al au;have an:∀ k,k<5→(w.setCells ap (i*5) [Q ⟨s'.op.toArray⟩,D A s'.args.length c,I U s'.num,Q ⟨s'.text.toArray⟩,I U s'.ty]).cell? ⟨ap,i*5+k,Z⟩=([Q ⟨s'.op.toArray⟩,D A s'.args.length c,I U s'.num,Q ⟨s'.text.toArray⟩,I U s'.ty]:List C)[k]? :=fun k aw=>by rw[ca.cell,z3 k (by simpa using aw) oM]
   exact ⟨an 0 oM,an 1 oM,an 2 oM,an 3 oM,an 4 oM⟩
  .rw[ue2 jf] at al au;obtain ⟨be,b8,cn,c0,c3⟩:=h.cells j s v al au;have an:∀ k,k<5→(w.setCells ap (i*5) [Q ⟨s'.op.toArray⟩,D A s'.args.length c,I U s'.num,Q ⟨s'.text.toArray⟩,I U s'.ty]).cell? ⟨ap,j*5+k,Z⟩=w.cell? ⟨ap,j*5+k,Z⟩:=fun k aw=>by rw[ca.cell,aL.cell,z4 _ (by simp;omega)]
   exact ⟨(an 0 oM).trans be,(an 1 oM).trans b8,(an 2 oM).trans cn,(an 3 oM).trans c0,(an 4 oM).trans c3⟩
 .by_cases jf:i=j
  .subst jf;rw[ud2 hi] at al;rw[ud2 Bu] at au;injection al with al;injection au with au;subst al au;exact kcx bf (fun b ak=>hg.block b (kdr bf b ak) (fun e=>O2 (by rw[ak];exact e)))
  .rw[ue2 jf] at al au;have Bv:=h.own j s v al au;exact kcx Bv (fun b ak=>hg.block b (kdr Bv b ak) (fun e=>(h.apart al au ak).2 (by injection e)))
 .by_cases oE:i=a
  .subst oE;rw[ud2 Bu] at au;injection au with au;subst au;rw[ue2 hz] at g0;rcases hd b cH (fun e=>hz e.symm) g0 with aD|aD
   .exact .inl aD
   .exact .inr (fun e=>aD e.symm)
  .rw[ue2 oE] at au;by_cases yw:i=b
   .subst yw;rw[ud2 Bu] at g0;injection g0 with g0;subst g0;rcases hd a v (fun e=>oE e.symm) au with aD|aD
    .cases m0:v.ownBlock with
     |none=>exact .inl rfl
     |some q=>exact .inr (fun e=>by rw[aD] at e;cases e)
    .exact .inr aD
   .rw[ue2 yw] at g0;exact h.dis a b v cH hz au g0
def zq3 (h:P:=by exact ⟨aL.frozen _,aL.frozen _,aL.frozen _,aL.frozen _,aL.frozen _⟩):=h
def klF (h:P:=by go_enter func71,ntmps71;go_wp2_with fail;go_quiet (fail);go_wp2_with fail;go_ret;unfold RepEnd;rw[cC.o];exact ⟨rfl,kbm ((kax _ _)) _⟩):=h
def kaH (base g:Nat) (aP:C) (r:Option (List St)) (w:O) (e:Ending) (w':O):Prop:=e=ac (V r.isSome)∧match r with
 |none=>H w w w'
 |some l'=>(∃ e5 fE qE,EdX w' base g e5 fE l' qE aP)∧FrX base w w'
theorem RepEnd.ru {base g ap cap:Nat} {l:List St} {vs:List C} {aP:C} {r:Option (List St)} {w w':O} {e:Ending} (h:RepEnd base g ap cap l vs aP r w e w'):kaH base g aP r w e w':=by
 unfold RepEnd at h;unfold kaH;refine ⟨h.1,?_⟩
 cases r with
 |none=>exact h.2
 |some l'=>exact ⟨⟨ap,cap,h.2.1⟩,h.2.2⟩
def EdX.maz {w:O} {base g ap cap:Nat} {l:List St} {vs:List C} {aP:C} (h:EdX w base g ap cap l vs aP):base≤w.heap.size:=uc9 h.hg (ui0 h.ed.lt)
def kfN (w:O) (zs:List Int) (ax:zs.length≤100):(w.alloc (y (zs.map (I U)).toArray 3)).ownsRow w.heap.size 3 1 (D (N ⟨w,0,Z⟩) zs.length zs.length) zs.length (zs.map (I U)):=
 ⟨by simp, .inr ⟨w.heap.size,zs.length,(zs.map (I U)).toArray,rfl,nR,us5 w _,nR,by unfold maxLen;omega,by simp,by rw[uq5,ui7 (by simp)]⟩⟩
theorem EdX.ma2 {w aq:O} {base g ap cap i:Nat} {l:List St} {vs:List C} {aP:C} (h:EdX w base g ap cap l vs aP) (ak:H w w aq) (hi:i<l.length) (s':St) (cH:C) (bf:aq.ownsRow w 3 1 cH s'.args.length (s'.args.map (I U))):
 EdX (aq.setCells ap (i*5) [Q ⟨s'.op.toArray⟩,cH,I U s'.num,Q ⟨s'.text.toArray⟩,I U s'.ty]) base g ap cap (l.set i s') (vs.set i cH) aP∧FrX base w (aq.setCells ap (i*5) [Q ⟨s'.op.toArray⟩,cH,I U s'.num,Q ⟨s'.text.toArray⟩,I U s'.ty]):=by
 have f5:base≤w.heap.size:=uc9 h.hg (ui0 h.ed.lt)
 have aO:=(h.below ak).put hi s' cH (bf.mono f5) (fun j v aS au=>by
  cases hvo:cH.ownBlock with
  |none=>exact .inl rfl
  |some q=>
   refine .inr (fun e=>?_);have bj:=kbE bf hvo
   cases al:l[j]? with
   |none=>have:=(gH au).1;rw[h.len] at this;rw[ua3 this] at al;cases al
   |some s=>have:=kdr (h.own j s v al au) q (e ▸ rfl);omega)
 exact ⟨aO.1,((FrX.refl base w).below ak f5).trans aO.2⟩
theorem koM {g:Nat} (x:Obj):∀(vs:List C) (o:Nat) (w:O),g<w.heap.size→(w.alloc x).setCells g o vs=(w.setCells g o vs).alloc x
 |[],_,_,_=>rfl
 |v::vs,o,w,h=>by unfold World.setCells;rw[World.setCell_alloc_past x g o v h];exact koM x vs (o+1) _ (by simpa using h)
def EdX.mb9 {w:O} {base g ap cap i:Nat} {l:List St} {vs:List C} {aP:C} (h:EdX w base g ap cap l vs aP) (hi:i<l.length) (s':St) (ax:s'.args.length≤100):
 EdX ((w.setCells ap (i*5) [Q ⟨s'.op.toArray⟩,D (N ⟨w,0,Z⟩) s'.args.length s'.args.length,I U s'.num,Q ⟨s'.text.toArray⟩,I U s'.ty]).alloc (y (s'.args.map (I U)).toArray 3)) base g ap cap (l.set i s') (vs.set i (D (N ⟨w,0,Z⟩) s'.args.length s'.args.length)) aP∧FrX base w ((w.setCells ap (i*5) [Q ⟨s'.op.toArray⟩,D (N ⟨w,0,Z⟩) s'.args.length s'.args.length,I U s'.num,Q ⟨s'.text.toArray⟩,I U s'.ty]).alloc (y (s'.args.map (I U)).toArray 3)):=by
 rw[←koM _ _ _ _ h.maR];exact h.ma2 (kax w _) hi s' _ (kfN w s'.args ax)
def kBb (base g ap cap i:Nat) (l:List St) (vs:List C) (aP:C) (s:St) (w:O) (h:EdX w base g ap cap l vs aP) (al:l[i]? =N s) (ak:s.op=Oz.ma7→2≤s.args.length):
 L prog 71 #[ab (N ⟨g,0,Z⟩),I U i] w (RepEnd base g ap cap l vs aP (Oz.maZ l i) w):=by
 have dK:=(gH al).1;have f5:base≤w.heap.size:=uc9 h.hg (ui0 h.ed.lt);have be:=h.ed.cell 0;simp only[gA,gB,gC] at be;obtain ⟨v,au,⟨bu,bY,cP,c8,dj⟩,bf⟩:=h.at_ al;obtain ⟨A,c,rfl⟩:=kaA bf;obtain ⟨R,aH⟩:=xE (Oz.maZ l i);rw[←aH];unfold Oz.maZ at aH;rw[kal al] at aH;obtain ⟨n,ax⟩:=xE l.length;have cU:(i:Int)<(n:Int):=oM;have bE:=nN i;have kW:i<n:=oM;rw[←ax] at be;have ef:=h.ed.lt;have dW:=h.maR;have dh:=hD h;by_cases ba:s.op=Oz.ma7
 .have dL:=ak ba;obtain ⟨a,aE⟩:∃ a,s.args[0]? =N a:=⟨_,ua3 oM⟩;obtain ⟨b,bs⟩:∃ b,s.args[1]? =N b:=⟨_,ua3 oM⟩;have fY:Oz.arg s 0=a:=(by unfold Oz.arg;rw[ub6,aE];rfl);have eT:Oz.arg s 1=b:=(by unfold Oz.arg;rw[ub6,bs];rfl);obtain ⟨q,cS,ql,_,io,fu,an⟩:=kb3 bf oM;injection ql with d4 hh cq;clear hh;subst d4 cq;have z0:w.cell? ⟨q,0,Z⟩=N (I U a):=an 0 _ (by rw[ub9,aE];rfl);have ca:w.cell? ⟨q,1,Z⟩=N (I U b):=an 1 _ (by rw[ub9,bs];rfl);obtain ⟨k,aw⟩:=xE s.args.length;have eD:(0:Int)<(k:Int):=oM;have eS:(1:Int)<(k:Int):=oM;have il:0<k:=oM;have ma:1<k:=oM;rw[←aw] at bY;obtain ⟨num,iW⟩:=xE s.num;obtain ⟨text,lY⟩:=xE s.text;obtain ⟨ty,fb⟩:=xE s.ty;dsimp only at aH;rw[ba,fY,eT] at aH;rw[ba] at bu;rw[←iW] at cP;rw[←lY] at c8;rw[←fb] at dj;unfold Oz.ma7 at bu;clear h al ak au bf ax an aE bs aw iW lY fb fY eT dL;by_cases hz:a=b
  .subst hz;have cC:Hz (R=N (l.set i (Oz.mk Oz.mal [a] 0 [] 1))):=hD (by rw[aH,ua1 ⟨rfl,rfl⟩]);clear aH ba;go_enter func71,ntmps71;go_wp2_with fail;go_quiet (fail);go_wp2_with fail;obtain ⟨aq,aQ⟩:=xE ((w.alloc (y #[Q ⟨#[99,111,109,109,111,110]⟩,D (N ⟨q,0,Z⟩) k c,I U num,Q ⟨text.toArray⟩,I U ty] 77)).drewN nq);rw[←aQ];have cm:H w w aq:=(by rw[aQ];exact kbm (kax _ _) _);have lZ:Blk aq w 77 #[Q ⟨#[99,111,109,109,111,110]⟩,D (N ⟨q,0,Z⟩) k c,I U num,Q ⟨text.toArray⟩,I U ty]:=(by rw[aQ];exact (Blk.new _ _ _).drewN _);have bb:=lZ.cell 1;simp only[gA,gB,gC] at bb;have ml:=hD (dh.o.below cm);have aN:=(cm.cell (p:=⟨g,0,Z⟩) ef).trans be;have bi:=(cm.cell (p:=⟨ap,_,Z⟩) dW).trans bu;have aW:=(cm.cell (p:=⟨ap,_,Z⟩) dW).trans bY;have bc:=(cm.cell (p:=⟨ap,_,Z⟩) dW).trans cP;have br:=(cm.cell (p:=⟨ap,_,Z⟩) dW).trans c8;have bL:=(cm.cell (p:=⟨ap,_,Z⟩) dW).trans dj;have bw:=(cm.cell (p:=⟨q,0,Z⟩) fu).trans z0;obtain ⟨f0,b2,cB,dS,eJ⟩:aq.frozen? ⟨ap,i*5,Z⟩=J∧aq.frozen? ⟨ap,i*5+1,Z⟩=J∧aq.frozen? ⟨ap,i*5+2,Z⟩=J∧aq.frozen? ⟨ap,i*5+3,Z⟩=J∧aq.frozen? ⟨ap,i*5+4,Z⟩=J:=(by obtain ⟨cs,aL,_⟩:=ml.o.blk;exact zq3);have IM:=cm.size;have iY:=ml.o.maR;have fW:=ml.o.ed.lt;have mb:=lZ.lt;have s8:q<aq.heap.size:=oM;have a7:=hD cm;clear aQ cm lZ be bu bY cP c8 dj z0 ca;have aO:=ml.o.mb9 (i:=i) dK (Oz.mk Oz.mal [a] 0 [] 1) (by show 1≤100;decide);have cp:=hD aO.1;have b4:=hD (((FrX.refl base w).below a7.o f5).trans aO.2);clear aO;go_region
   go_wp2_with fail;go_ret;unfold RepEnd;rw[cC.o];exact ⟨rfl,⟨_,cp.o.below ((ub5 _ _).drew)⟩,b4.o.below ((ub5 _ _).drew) cp.o.maz⟩
  .have cC:Hz (R=Z):=hD (by rw[aH,ua0 (fun h=>hz h.2)]);have aL:(a==b)=J:=ua2.2 hz;clear aH ba;exact klF
 .have cC:Hz (R=Z):=hD (by rw[aH,ua0 (fun h=>ba h.1)]);have aL:(s.op== [99,111,109,109,111,110])=J:=ua2.2 ba;clear h al ak au bf ax aH ba;exact klF
def kh5 (h:P:=by go_wp2_with fail;go_ret;unfold RepEnd;rw[cC.o];exact ⟨rfl,bo.o⟩):=h
def kgu (h:P:=by go_wp2_with fail;go_ret;unfold RepEnd;rw[cC.o];exact ⟨rfl,bU.o⟩):=h
def kgt (h:P:=by go_wp2_with fail;go_ret;unfold RepEnd;rw[cC.o];exact ⟨rfl,cA.o⟩):=h
def klJ (h:P:=by have bd:(aq.setCell ⟨w,1,Z⟩ (D (N ⟨aq,0,Z⟩) 2 2)).heap.size=aq.heap.size:=(by simp);rw[bd] at h;exact (h.mono a7.o.size).drew):=h
def klE (h:P:=by clear jk ke;have cC:Hz (R=N bX):=hD (by rw[a1.o];rfl);go_wp2_with fail;go_ret;unfold RepEnd;rw[cC.o];exact ⟨rfl,⟨_,m6.o⟩,f4.o⟩):=h
def kmB (h:P:=by obtain ⟨hj,lp,mr,a1⟩:=hd4 be a0 aY aH;rw[ba] at bu;(first|guard_hyp JW;unfold Oz.maI at bu|guard_hyp JV;unfold Oz.oOr at bu|guard_hyp JU;unfold Oz.mbC at bu|guard_hyp JT;unfold Oz.maS at bu|guard_hyp JS;unfold Oz.maT at bu|unfold Oz.mbF at bu);first|guard_hyp O9;have O3:=();exact knp|clear DJ;exact knp):=h
def kmA (h:P:=by have av:e=ac (V J)∧H aF aF a6:=av;obtain ⟨rfl,b3⟩:=av;have bU:=bT bo b3;clear b3;have cC:Hz (R=Z):=hD a1.o;exact kgu):=h
def kmS (h:P:=by
 have cU:(i:Int)<(n:Int):=oM;have bE:=nN i;have ef:=h.ed.lt;have dW:=h.maR;obtain ⟨num,iW⟩:=xE s.num;obtain ⟨text,lY⟩:=xE s.text;obtain ⟨ty,fb⟩:=xE s.ty;obtain ⟨k,aw⟩:=xE s.args.length;rw[←iW] at cP;rw[←lY] at c8;rw[←fb] at dj;rw[←aw] at bY;obtain ⟨q,cS,ql,_,io,fu,an⟩:=kb3 bf oM;injection ql with d4 hh cq;clear hh;subst d4 cq;have a0:w.cell? ⟨q,0,Z⟩=N (I U bO):=an 0 _ (by rw[ub9,ec];rfl);have l0:Oz.arg s 0=(bO:Int):=(by unfold Oz.arg;rw[ub6,ec];rfl);have eD:(0:Int)<(k:Int):=oM;have YZ:0<k:=oM
 first
 |guard_hyp Rm
  first
  |guard_hyp Rl;(first|guard_hyp k6;have aY:w.cell? ⟨q,1,Z⟩=N (I U cc):=an 1 _ (by rw[ub9,eG];rfl);have lq:Oz.arg s 1=(cc:Int):=(by unfold Oz.arg;rw[ub6,eG];rfl);have eS:(1:Int)<(k:Int):=oM;have Bw:1<k:=oM|skip);have ms:=hD (fun w h=>kqr g ap cap bO l aP t0 w h cE);(first|guard_hyp k6;have iw:=hD (fun w h=>kqr g ap cap cc l aP bb w h dy)|skip);dsimp only at aH;(first|guard_hyp k6;rw[ba,ua0 dC,ua0 dC,ua0 dC,ua1 rfl,l0,lq] at aH|guard_hyp zq;rw[ba,ua0 dC,ua1 rfl,l0] at aH|rw[ba,ua0 dC,ua0 dC,ua1 rfl,l0] at aH);unfold Oz.mbX at aH;(first|guard_hyp k6;rw[kal cE,kal dy] at aH|rw[kal cE] at aH);rw[ba] at bu;(first|guard_hyp k6;unfold Oz.maO at bu|guard_hyp zq;unfold Oz.mal at bu|unfold Oz.mbi at bu);obtain ⟨v0,Ds,⟨_,_,_,gV,_⟩,_⟩:=h.at_ cE;(first|guard_hyp k6;obtain ⟨dX,jy,⟨_,_,_,iA,_⟩,_⟩:=h.at_ dy|skip);have dk:=(gH cE).1;(first|guard_hyp k6;have IN:=(gH dy).1;rw[←ax] at dk IN|rw[←ax] at dk);have c2:(bO:Int)<(n:Int):=oM;have j4:=nN bO;(first|guard_hyp k6;have mi:(cc:Int)<(n:Int):=oM;have kP:=nN cc;have wi:bO<n:=oM;have wj:cc<n:=oM;have ye:i<n:=oM|skip);obtain ⟨T,dr⟩:=xE t0.text;(first|guard_hyp k6;obtain ⟨uG,k2⟩:=xE bb.text|skip);rw[←dr] at gV aH;(first|guard_hyp k6;rw[←k2] at iA aH|skip);have zaa:=hD dr;(first|guard_hyp k6;have O4:=hD k2|skip);obtain ⟨a1,hj,kY⟩:=hd3 aH be gV;(first|guard_hyp k6;have yA:=hD iA;have gw:Hz (w.cell? ⟨ap,i*5,Z⟩=N (Q ⟨#[43,43]⟩)∧w.cell? ⟨ap,i*5+1,Z⟩=N (D (N ⟨q,0,Z⟩) k c)∧w.cell? ⟨ap,i*5+2,Z⟩=N (I U num)∧w.cell? ⟨ap,i*5+3,Z⟩=N (Q ⟨text.toArray⟩)∧w.cell? ⟨ap,i*5+4,Z⟩=N (I U ty)):=hD ⟨bu,bY,cP,c8,dj⟩|guard_hyp zq;have gw:Hz (w.cell? ⟨ap,i*5,Z⟩=N (Q ⟨#[108,101,110]⟩)∧w.cell? ⟨ap,i*5+1,Z⟩=N (D (N ⟨q,0,Z⟩) k c)∧w.cell? ⟨ap,i*5+2,Z⟩=N (I U num)∧w.cell? ⟨ap,i*5+3,Z⟩=N (Q ⟨text.toArray⟩)∧w.cell? ⟨ap,i*5+4,Z⟩=N (I U ty)):=hD ⟨bu,bY,cP,c8,dj⟩|have gw:Hz (w.cell? ⟨ap,i*5,Z⟩=N (Q ⟨#[108,105,110,101,115]⟩)∧w.cell? ⟨ap,i*5+1,Z⟩=N (D (N ⟨q,0,Z⟩) k c)∧w.cell? ⟨ap,i*5+2,Z⟩=N (I U num)∧w.cell? ⟨ap,i*5+3,Z⟩=N (Q ⟨text.toArray⟩)∧w.cell? ⟨ap,i*5+4,Z⟩=N (I U ty)):=hD ⟨bu,bY,cP,c8,dj⟩);have lp:=hD a0;(first|guard_hyp k6;have mr:=hD aY;clear h al au bf ax ba az ec cE eG dy aw iW lY fb an l0 a0 lq aY aH Ds jy gV iA dk IN dr k2|clear h al au bf ax ba az ec cE aw iW lY fb an l0 a0 aH Ds gV dk dr);go_enter func68,ntmps68;(first|guard_hyp k6;go_upto_region 28 with (fail);obtain ⟨aq,aQ⟩:=xE (w.alloc (y #[Q ⟨#[43,43]⟩,D (N ⟨q,0,Z⟩) k c,I U num,Q ⟨text.toArray⟩,I U ty] 77))|guard_hyp zq;go_upto_region 19 with (fail);obtain ⟨aq,aQ⟩:=xE (w.alloc (y #[Q ⟨#[108,101,110]⟩,D (N ⟨q,0,Z⟩) k c,I U num,Q ⟨text.toArray⟩,I U ty] 77))|go_upto_region 19 with (fail);obtain ⟨aq,aQ⟩:=xE (w.alloc (y #[Q ⟨#[108,105,110,101,115]⟩,D (N ⟨q,0,Z⟩) k c,I U num,Q ⟨text.toArray⟩,I U ty] 77)));rw[←aQ];have cm:=bA aQ;have lZ:=bM aQ;have a7:=hD cm;have d3:=hD lZ;have s1:=lZ.cell 1;simp only[gA,gB,gC] at s1;have dt:=(cm.cell (p:=⟨q,0,Z⟩) fu).trans lp.o;(first|guard_hyp k6;have cL:=(cm.cell (p:=⟨q,1,Z⟩) fu).trans mr.o;clear aQ cm lZ be bu bY cP c8 dj|have n8:=hD (ms.o aq (dh.o.below cm).ma5);clear aQ cm lZ be bu bY cP c8 dj ms);go_wp2_with fail;(first|guard_hyp k6;go_quiet (fail);go_upto_region 29 with (fail);obtain ⟨aF,bW⟩:=xE (aq.drewN nq);rw[←bW];have bo:Hz (H w w aF):=hD (by rw[bW];exact kbm a7.o _);clear bW s1 dt cL a7 d3|refine n8.o.mono ?_;rintro e aF ⟨rfl,bs⟩;have bo:=bT a7 bs;have nH:=d3.o.below bs d3.o.lt;have s2:=nH.cell 0;simp only[gA,gB,gC] at s2);have gV:=(bo.o.cell (p:=⟨ap,_,Z⟩) dW).trans kY.o;(first|guard_hyp k6;have iA:=(bo.o.cell (p:=⟨ap,_,Z⟩) dW).trans yA.o|skip);have d8:=(bo.o.cell (p:=⟨g,0,Z⟩) ef).trans hj.o;(first|guard_hyp k6|clear bs nH s1 dt n8 a7 d3;rw[←zaa.o]);obtain ⟨z0,ds⟩:=xE (decide (t0.op=kaF∧T.length≤65536));(first|guard_hyp k6;obtain ⟨ca,cJ⟩:=xE (decide (bb.op=kaF∧uG.length≤65536));rw[←ds,←cJ] at a1;have qn:Hz (∀ d os,L prog 113 #[ab (N ⟨g,0,Z⟩),I U bO] (Go.Sort.grow (redrawn aF d) os) fun e sr=>e=ac (V z0)∧∃ p:Regrown,sr=Go.Sort.grow (redrawn aF p.d) p.os):=hD (fun d os=>ur0 (by have h:=ms.o _ ((dh.o.below bo.o).ma5.below (uk1 aF d os));rw[←zaa.o,←ds] at h;exact h));have d3:Hz (∀ d os,L prog 113 #[ab (N ⟨g,0,Z⟩),I U cc] (Go.Sort.grow (redrawn aF d) os) fun e sr=>e=ac (V ca)∧∃ p:Regrown,sr=Go.Sort.grow (redrawn aF p.d) p.os):=hD (fun d os=>ur0 (by have h:=iw.o _ ((dh.o.below bo.o).ma5.below (uk1 aF d os));rw[←O4.o,←cJ] at h;exact h))|rw[←ds] at a1 ⊢);have yB:=hD ds
   first
   |guard_hyp k6;have dv:=hD cJ;clear ms iw ds cJ
    cases z0 with
    |false=>have cC:Hz (R=Z):=hD (by rw[a1.o];rfl);exact kgK
    |true=>
    cases ca with
    |false=>have cC:Hz (R=Z):=hD (by rw[a1.o];rfl);exact kgK
    |true=>
    have Y0:=(ug4 yB.o.symm).2;have Y1:=(ug4 dv.o.symm).2;have fn:=uc5 ((T.length:Int)+(uG.length:Int)) oM;by_cases dz:T.length+uG.length≤65536
    .obtain ⟨Bx,DW⟩:=xE (T++uG);have cC:Hz (R=N (l.set i (Oz.mk kaF [] 0 Bx 3))):=hD (by rw[a1.o,ua1 (by simpa using dz),DW]);have By:∀ W:O,(Op.stringOp .add ⟨T.toArray⟩ ⟨uG.toArray⟩).run prog W= .ok (Q ⟨Bx.toArray⟩) W:=fun W=>by rw[run_string_add_sum W _ _ (by simp[ByteArray.size];omega),ByteArray.mk_append_mk,DW]
     clear DW;have hd:(T.length:Int)+(uG.length:Int)≤65536:=oM;have O5:=();exact kgK
    .have cC:Hz (R=Z):=hD (by rw[a1.o,ua0 (by simpa using dz)]);have hd:¬((T.length:Int)+(uG.length:Int)≤65536):=oM;exact kgK
   |guard_hyp zq;clear ds
    cases z0 with
    |false=>have cC:Hz (R=Z):=hD (by rw[a1.o];rfl);exact kh5
    |true=>have cC:Hz (R=N (l.set i (Oz.mk kac [] T.length [] 1))):=hD (by rw[a1.o];rfl);clear d8;have d8:=(bo.o.cell (p:=⟨g,0,Z⟩) ef).trans hj.o;have gu:=bo;have O6:=();exact kiz
   |clear ds
    cases z0 with
    |false=>have cC:Hz (R=Z):=hD (by rw[a1.o];rfl);exact kh5
    |true=>have bd:=(ug4 yB.o.symm).2;have ia:(T.filter fun b=>b=10).length≤T.length:=ur1 _ _;obtain ⟨m,bg⟩:=xE ((T.filter fun b=>b=10).length);rw[←bg] at ia;have cC:Hz (R=N (l.set i (Oz.mk kac [] (m+1) [] 1))):=hD (by rw[a1.o,bg];rfl);have uH:Hz (∀ w:O,L prog 88 #[Q ⟨T.toArray⟩,Q ⟨#[10]⟩] w fun e w'=>e=ac (I U m)∧w'=w):=hD (fun w=>by refine (Tryz.strings_Count_one ⟨T.toArray⟩ 10 w).mono ?_;rintro e w' ⟨aG,fn⟩;refine ⟨?_,fn⟩;rw[aG,bg];congr 2;unfold Lib.countByte;rw[List.count_eq_length_filter];rfl);have fn:=uc5 ((m:Int)+1) oM;clear bg bd;go_wp2_with fail;refine (uH.o _).mono ?_;rintro e c7 ⟨rfl,jn⟩;rw[jn];clear jn c7;clear gV s2 d8;have gu:=bo;have O7:=();exact kiz
  |have aY:w.cell? ⟨q,1,Z⟩=N (I U cc):=an 1 _ (by rw[ub9,eG];rfl);have lq:Oz.arg s 1=(cc:Int):=(by unfold Oz.arg;rw[ub6,eG];rfl);have eS:(1:Int)<(k:Int):=oM;have Bw:1<k:=oM;have ms:=hD (fun w h=>kpR g ap cap bO l aP t0 w h cE);have iw:=hD (fun w h=>kpR g ap cap cc l aP bb w h dy);dsimp only at aH;rw[ba,ua1 dC,l0,lq] at aH;unfold Oz.mbG at aH;rw[kal cE,kal dy] at aH;rw[ba] at bu;(first|guard_hyp zm;unfold Oz.maT at bu|guard_hyp zp;unfold Oz.maJ at bu|guard_hyp zo;unfold Oz.maY at bu|guard_hyp zn;unfold Oz.maF at bu|unfold Oz.maS at bu);have a1:=hD aH;have hj:=hD be;(first|guard_hyp zm;have gw:Hz (w.cell? ⟨ap,i*5,Z⟩=N (Q ⟨#[109,105,110]⟩)∧w.cell? ⟨ap,i*5+1,Z⟩=N (D (N ⟨q,0,Z⟩) k c)∧w.cell? ⟨ap,i*5+2,Z⟩=N (I U num)∧w.cell? ⟨ap,i*5+3,Z⟩=N (Q ⟨text.toArray⟩)∧w.cell? ⟨ap,i*5+4,Z⟩=N (I U ty)):=hD ⟨bu,bY,cP,c8,dj⟩|guard_hyp zp;have gw:Hz (w.cell? ⟨ap,i*5,Z⟩=N (Q ⟨#[42]⟩)∧w.cell? ⟨ap,i*5+1,Z⟩=N (D (N ⟨q,0,Z⟩) k c)∧w.cell? ⟨ap,i*5+2,Z⟩=N (I U num)∧w.cell? ⟨ap,i*5+3,Z⟩=N (Q ⟨text.toArray⟩)∧w.cell? ⟨ap,i*5+4,Z⟩=N (I U ty)):=hD ⟨bu,bY,cP,c8,dj⟩|guard_hyp zo;have gw:Hz (w.cell? ⟨ap,i*5,Z⟩=N (Q ⟨#[45]⟩)∧w.cell? ⟨ap,i*5+1,Z⟩=N (D (N ⟨q,0,Z⟩) k c)∧w.cell? ⟨ap,i*5+2,Z⟩=N (I U num)∧w.cell? ⟨ap,i*5+3,Z⟩=N (Q ⟨text.toArray⟩)∧w.cell? ⟨ap,i*5+4,Z⟩=N (I U ty)):=hD ⟨bu,bY,cP,c8,dj⟩|guard_hyp zn;have gw:Hz (w.cell? ⟨ap,i*5,Z⟩=N (Q ⟨#[43]⟩)∧w.cell? ⟨ap,i*5+1,Z⟩=N (D (N ⟨q,0,Z⟩) k c)∧w.cell? ⟨ap,i*5+2,Z⟩=N (I U num)∧w.cell? ⟨ap,i*5+3,Z⟩=N (Q ⟨text.toArray⟩)∧w.cell? ⟨ap,i*5+4,Z⟩=N (I U ty)):=hD ⟨bu,bY,cP,c8,dj⟩|have gw:Hz (w.cell? ⟨ap,i*5,Z⟩=N (Q ⟨#[109,97,120]⟩)∧w.cell? ⟨ap,i*5+1,Z⟩=N (D (N ⟨q,0,Z⟩) k c)∧w.cell? ⟨ap,i*5+2,Z⟩=N (I U num)∧w.cell? ⟨ap,i*5+3,Z⟩=N (Q ⟨text.toArray⟩)∧w.cell? ⟨ap,i*5+4,Z⟩=N (I U ty)):=hD ⟨bu,bY,cP,c8,dj⟩);have lp:=hD a0;have mr:=hD aY;clear h al au bf ax ba az ec eG cE dy aw iW lY fb an l0 lq a0 aY aH;go_enter func68,ntmps68;go_upto_region 8 with (fail);(first|guard_hyp zm;obtain ⟨aq,aQ⟩:=xE (w.alloc (y #[Q ⟨#[109,105,110]⟩,D (N ⟨q,0,Z⟩) k c,I U num,Q ⟨text.toArray⟩,I U ty] 77))|guard_hyp zp;obtain ⟨aq,aQ⟩:=xE (w.alloc (y #[Q ⟨#[42]⟩,D (N ⟨q,0,Z⟩) k c,I U num,Q ⟨text.toArray⟩,I U ty] 77))|guard_hyp zo;obtain ⟨aq,aQ⟩:=xE (w.alloc (y #[Q ⟨#[45]⟩,D (N ⟨q,0,Z⟩) k c,I U num,Q ⟨text.toArray⟩,I U ty] 77))|guard_hyp zn;obtain ⟨aq,aQ⟩:=xE (w.alloc (y #[Q ⟨#[43]⟩,D (N ⟨q,0,Z⟩) k c,I U num,Q ⟨text.toArray⟩,I U ty] 77))|obtain ⟨aq,aQ⟩:=xE (w.alloc (y #[Q ⟨#[109,97,120]⟩,D (N ⟨q,0,Z⟩) k c,I U num,Q ⟨text.toArray⟩,I U ty] 77)));rw[←aQ];have cm:=bA aQ;have lZ:=bM aQ;have a7:=hD cm;have d3:=hD lZ;have s1:=lZ.cell 1;simp only[gA,gB,gC] at s1;have dt:=(cm.cell (p:=⟨q,0,Z⟩) fu).trans lp.o;have n8:=hD (ms.o aq (dh.o.below cm).ma5);clear aQ cm lZ be bu bY cP c8 dj ms;go_wp2_with fail;refine n8.o.mono ?_;rintro e aF ⟨rfl,bs⟩;have bo:=bT a7 bs;have nH:=d3.o.below bs d3.o.lt;have ex:=hD nH;have s2:=nH.cell 1;simp only[gA,gB,gC] at s2;have cL:=(bo.o.cell (p:=⟨q,1,Z⟩) fu).trans mr.o;have n9:=hD (iw.o aF (dh.o.below bo.o).ma5);clear bs nH s1 dt n8 iw a7 d3;obtain ⟨z0,ds⟩:=xE (decide (t0.op=kac∧t0.num≤Oz.mab));rw[←ds];have yB:=hD ds;clear ds;go_wp2_with fail;refine n9.o.mono ?_;rintro e a6 ⟨rfl,b3⟩;have bU:=bT bo b3;have IP:=ex.o.below b3 ex.o.lt;have s3:=IP.cell 0;simp only[gA,gB] at s3;clear b3 IP s2 cL n9 bo ex;obtain ⟨ca,cJ⟩:=xE (decide (bb.op=kac∧bb.num≤Oz.mab));rw[←cJ];have dv:=hD cJ;clear cJ;obtain ⟨x,aA⟩:=xE t0.num;obtain ⟨aC,bp⟩:=xE bb.num;obtain ⟨kv,nI,ms,iw⟩:=hd4 aA bp gh e2;rw[←aA,←bp];clear aA bp gh e2
   cases z0 with
   |false=>have bd:=uh9 yB.o.symm;have cC:Hz (R=Z):=hD (by rw[a1.o,ua0 bd]);clear bd;exact kgu
   |true=>
   have bd:=ug4 yB.o.symm
   cases ca with
   |false=>have cJ:=uh9 dv.o.symm;have cC:Hz (R=Z):=hD (by rw[a1.o,ua1 bd,ua0 cJ]);clear bd cJ;exact kgu
   |true=>
   have cJ:=ug4 dv.o.symm;(first|guard_hyp zm;have s9:=hD (kge Oz.maT dC x aC (by rw[kv.o];exact ms.o) (by rw[kv.o];exact bd.2) (by rw[nI.o];exact iw.o) (by rw[nI.o];exact cJ.2) a6);have lX:Hz (R=(Oz.mao Oz.maT x aC).map fun n=>l.set i (Oz.mk kac [] n [] 1)):=hD (by rw[a1.o,ua1 bd,ua1 cJ,←kv.o,←nI.o])|guard_hyp zp;have s9:=hD (kge Oz.maJ dC x aC (by rw[kv.o];exact ms.o) (by rw[kv.o];exact bd.2) (by rw[nI.o];exact iw.o) (by rw[nI.o];exact cJ.2) a6);have lX:Hz (R=(Oz.mao Oz.maJ x aC).map fun n=>l.set i (Oz.mk kac [] n [] 1)):=hD (by rw[a1.o,ua1 bd,ua1 cJ,←kv.o,←nI.o])|guard_hyp zo;have s9:=hD (kge Oz.maY dC x aC (by rw[kv.o];exact ms.o) (by rw[kv.o];exact bd.2) (by rw[nI.o];exact iw.o) (by rw[nI.o];exact cJ.2) a6);have lX:Hz (R=(Oz.mao Oz.maY x aC).map fun n=>l.set i (Oz.mk kac [] n [] 1)):=hD (by rw[a1.o,ua1 bd,ua1 cJ,←kv.o,←nI.o])|guard_hyp zn;have s9:=hD (kge Oz.maF dC x aC (by rw[kv.o];exact ms.o) (by rw[kv.o];exact bd.2) (by rw[nI.o];exact iw.o) (by rw[nI.o];exact cJ.2) a6);have lX:Hz (R=(Oz.mao Oz.maF x aC).map fun n=>l.set i (Oz.mk kac [] n [] 1)):=hD (by rw[a1.o,ua1 bd,ua1 cJ,←kv.o,←nI.o])|have s9:=hD (kge Oz.maS dC x aC (by rw[kv.o];exact ms.o) (by rw[kv.o];exact bd.2) (by rw[nI.o];exact iw.o) (by rw[nI.o];exact cJ.2) a6);have lX:Hz (R=(Oz.mao Oz.maS x aC).map fun n=>l.set i (Oz.mk kac [] n [] 1)):=hD (by rw[a1.o,ua1 bd,ua1 cJ,←kv.o,←nI.o]));clear bd cJ;go_wp2_with fail;refine s9.o.mono ?_;clear s9;rintro e aK ⟨bv,kg⟩;have cA:=bT bU bv;(first|guard_hyp zm;obtain ⟨o,bf⟩:=xE (Oz.mao Oz.maT x aC)|guard_hyp zp;obtain ⟨o,bf⟩:=xE (Oz.mao Oz.maJ x aC)|guard_hyp zo;obtain ⟨o,bf⟩:=xE (Oz.mao Oz.maY x aC)|guard_hyp zn;obtain ⟨o,bf⟩:=xE (Oz.mao Oz.maF x aC)|obtain ⟨o,bf⟩:=xE (Oz.mao Oz.maS x aC));rw[←bf] at kg;have c1:=hD bf;clear bv s3 bf
   cases o with
   |none=>obtain ⟨z,rfl⟩:=kg;have cC:Hz (R=Z):=hD (by rw[lX.o,←c1.o];rfl);exact kgt
   |some m=>dsimp only at kg;subst kg;have cC:Hz (R=N (l.set i (Oz.mk kac [] m [] 1))):=hD (by rw[lX.o,←c1.o];rfl);have gu:=cA;exact kiz
 |first
  |guard_hyp RC;have aY:w.cell? ⟨q,1,Z⟩=N (I U cc):=an 1 _ (by rw[ub9,eG];rfl);have lq:Oz.arg s 1=(cc:Int):=(by unfold Oz.arg;rw[ub6,eG];rfl);have eS:(1:Int)<(k:Int):=oM;have Bw:1<k:=oM;rw[l0,lq] at aH;(first|guard_hyp Cm;rw[ba,ua0 dC,ua0 dC,ua0 dC,ua0 dC,ua1 dC] at aH;obtain ⟨ca,cJ⟩:=xE (decide (bb.op=kaF∧bb.text=[]));have rY:Oz.mbE l (cc:Int)=ca:=(by unfold Oz.mbE;rw[kal dy,cJ]);have n9:Hz (∀ w:O,EdAt w g ap cap l aP→L prog 115 #[ab (N ⟨g,0,Z⟩),I U cc] w fun e w'=>e=ac (V ca)∧H w w w'):=hD (fun w h=>by rw[cJ];exact kqs g ap cap cc l aP bb w h dy)|guard_hyp Ck;rw[ba,ua1 dC] at aH;obtain ⟨ca,cJ⟩:=xE (decide (bb.op=kac∧bb.num=0));have rY:Oz.isR l (cc:Int) 0=ca:=(by unfold Oz.isR;rw[kal dy,cJ]);have n9:Hz (∀ w:O,EdAt w g ap cap l aP→L prog 114 #[ab (N ⟨g,0,Z⟩),I U cc,I U 0] w fun e w'=>e=ac (V ca)∧H w w w'):=hD (fun w h=>by rw[cJ];exact ker g ap cap cc l aP bb w h dy 0)|guard_hyp Cl;rw[ba,ua0 dC,ua0 dC,ua1 dC] at aH;obtain ⟨ca,cJ⟩:=xE (decide (bb.op=kac∧bb.num=1));have rY:Oz.isR l (cc:Int) 1=ca:=(by unfold Oz.isR;rw[kal dy,cJ]);have n9:Hz (∀ w:O,EdAt w g ap cap l aP→L prog 114 #[ab (N ⟨g,0,Z⟩),I U cc,I U 1] w fun e w'=>e=ac (V ca)∧H w w w'):=hD (fun w h=>by rw[cJ];exact ker g ap cap cc l aP bb w h dy 1)|guard_hyp tG;rw[ba,ua0 dC,ua1 dC] at aH;obtain ⟨ca,cJ⟩:=xE (decide (bb.op=kac∧bb.num=0));have rY:Oz.isR l (cc:Int) 0=ca:=(by unfold Oz.isR;rw[kal dy,cJ]);have n9:Hz (∀ w:O,EdAt w g ap cap l aP→L prog 114 #[ab (N ⟨g,0,Z⟩),I U cc,I U 0] w fun e w'=>e=ac (V ca)∧H w w w'):=hD (fun w h=>by rw[cJ];exact ker g ap cap cc l aP bb w h dy 0)|rw[ba,ua0 dC,ua0 dC,ua0 dC,ua0 dC,ua0 dC,ua1 dC] at aH;obtain ⟨ca,cJ⟩:=xE (decide (bb.op=kac∧bb.num=1));have rY:Oz.isR l (cc:Int) 1=ca:=(by unfold Oz.isR;rw[kal dy,cJ]);have n9:Hz (∀ w:O,EdAt w g ap cap l aP→L prog 114 #[ab (N ⟨g,0,Z⟩),I U cc,I U 1] w fun e w'=>e=ac (V ca)∧H w w w'):=hD (fun w h=>by rw[cJ];exact ker g ap cap cc l aP bb w h dy 1));rw[rY] at aH;clear cJ rY;(first|guard_hyp Cm;obtain ⟨z0,ds⟩:=xE (decide (t0.op=kaF∧t0.text=[]));have ta:Oz.mbE l (bO:Int)=z0:=(by unfold Oz.mbE;rw[kal cE,ds]);have n8:Hz (∀ w:O,EdAt w g ap cap l aP→L prog 115 #[ab (N ⟨g,0,Z⟩),I U bO] w fun e w'=>e=ac (V z0)∧H w w w'):=hD (fun w h=>by rw[ds];exact kqs g ap cap bO l aP t0 w h cE);rw[ta] at aH;clear ds ta|guard_hyp Ck;obtain ⟨z0,ds⟩:=xE (decide (t0.op=kac∧t0.num=0));have ta:Oz.isR l (bO:Int) 0=z0:=(by unfold Oz.isR;rw[kal cE,ds]);have n8:Hz (∀ w:O,EdAt w g ap cap l aP→L prog 114 #[ab (N ⟨g,0,Z⟩),I U bO,I U 0] w fun e w'=>e=ac (V z0)∧H w w w'):=hD (fun w h=>by rw[ds];exact ker g ap cap bO l aP t0 w h cE 0);rw[ta] at aH;clear ds ta|guard_hyp Cl;obtain ⟨z0,ds⟩:=xE (decide (t0.op=kac∧t0.num=1));have ta:Oz.isR l (bO:Int) 1=z0:=(by unfold Oz.isR;rw[kal cE,ds]);have n8:Hz (∀ w:O,EdAt w g ap cap l aP→L prog 114 #[ab (N ⟨g,0,Z⟩),I U bO,I U 1] w fun e w'=>e=ac (V z0)∧H w w w'):=hD (fun w h=>by rw[ds];exact ker g ap cap bO l aP t0 w h cE 1);rw[ta] at aH;clear ds ta|skip);obtain ⟨r0,nJ⟩:=xE (Oz.mad l i bO);have gY:Hz (∀ w:O,EdX w base g ap cap l vs aP→L prog 110 #[ab (N ⟨g,0,Z⟩),I U i,I U bO] w (RepEnd base g ap cap l vs aP r0 w)):=hD (fun w h=>by rw[nJ];exact kc6 base g ap cap i bO l vs aP w h hi0 dc.o ev.o);rw[ub7,←nJ] at aH;clear nJ;(first|(first|guard_hyp tG|guard_hyp zu)|obtain ⟨d5,kT⟩:=xE (Oz.mad l i cc);have nK:Hz (∀ w:O,EdX w base g ap cap l vs aP→L prog 110 #[ab (N ⟨g,0,Z⟩),I U i,I U cc] w (RepEnd base g ap cap l vs aP d5 w)):=hD (fun w h=>by rw[kT];exact kc6 base g ap cap i cc l vs aP w h hi1 dc.o ev.o);rw[ub7,←kT] at aH;clear kT);obtain ⟨hj,lp,mr,a1⟩:=hd4 be a0 aY aH;rw[ba] at bu;(first|guard_hyp Cm;unfold Oz.maO at bu|guard_hyp Ck;unfold Oz.maF at bu|guard_hyp Cl;unfold Oz.maJ at bu|guard_hyp tG;unfold Oz.maY at bu|unfold Oz.maU at bu);clear h al ak au bf ax ba az aw iW lY fb an aH ec cE hi0 l0 a0 eG dy hi1 lq aY;go_enter func69,ntmps69;(first|guard_hyp Cm;go_upto_region 17 with (fail);obtain ⟨aq,aQ⟩:=xE (w.alloc (y #[Q ⟨#[43,43]⟩,D (N ⟨q,0,Z⟩) k c,I U num,Q ⟨text.toArray⟩,I U ty] 77))|guard_hyp Ck;go_upto_region 4 with (fail);obtain ⟨aq,aQ⟩:=xE (w.alloc (y #[Q ⟨#[43]⟩,D (N ⟨q,0,Z⟩) k c,I U num,Q ⟨text.toArray⟩,I U ty] 77))|guard_hyp Cl;go_upto_region 8 with (fail);obtain ⟨aq,aQ⟩:=xE (w.alloc (y #[Q ⟨#[42]⟩,D (N ⟨q,0,Z⟩) k c,I U num,Q ⟨text.toArray⟩,I U ty] 77))|guard_hyp tG;go_upto_region 6 with (fail);obtain ⟨aq,aQ⟩:=xE (w.alloc (y #[Q ⟨#[45]⟩,D (N ⟨q,0,Z⟩) k c,I U num,Q ⟨text.toArray⟩,I U ty] 77))|go_upto_region 19 with (fail);obtain ⟨aq,aQ⟩:=xE (w.alloc (y #[Q ⟨#[114,101,112]⟩,D (N ⟨q,0,Z⟩) k c,I U num,Q ⟨text.toArray⟩,I U ty] 77)));rw[←aQ];have a7:=bB aQ;have d3:=bN aQ;clear aQ be bu bY cP c8 dj;have s1:=d3.o.cell 1;simp only[gA,gB,gC] at s1;have uI:=(a7.o.cell (p:=⟨q,0,Z⟩) fu).trans lp.o;have yC:=(a7.o.cell (p:=⟨q,1,Z⟩) fu).trans mr.o;go_wp2_with fail;refine (n9.o aq (dh.o.below a7.o).ma5).mono ?_;rintro e aF ⟨rfl,bs⟩;have bo:=bT a7 bs;have ex:=hD (d3.o.below bs d3.o.lt);clear s1 uI yC;clear bs
   cases ca with
   |false=>
    (first|(first|guard_hyp tG|guard_hyp zu);have cC:Hz (R=Z):=hD (by rw[a1.o];rfl)|have s2:=ex.o.cell 1;simp only[gA,gB,gC] at s2;have yD:=(bo.o.cell (p:=⟨q,0,Z⟩) fu).trans lp.o;have yE:=(bo.o.cell (p:=⟨q,1,Z⟩) fu).trans mr.o);go_wp2_with fail
    first
    |(first|guard_hyp tG|guard_hyp zu);go_ret;unfold RepEnd;rw[cC.o];exact ⟨rfl,bo.o⟩
    |refine (n8.o aF (dh.o.below bo.o).ma5).mono ?_;rintro e a6 ⟨rfl,b3⟩;have bU:=bT bo b3;have eA:=hD (ex.o.below b3 ex.o.lt);clear s2 yD yE;clear b3
     cases z0 with
     |false=>have cC:Hz (R=Z):=hD (by rw[a1.o];rfl);exact kgu
     |true=>
      have s3:=eA.o.cell 1;simp only[gA,gB,gC] at s3;have yF:=(bU.o.cell (p:=⟨q,0,Z⟩) fu).trans lp.o;have yG:=(bU.o.cell (p:=⟨q,1,Z⟩) fu).trans mr.o;go_wp2_with fail;refine (nK.o a6 (dh.o.below bU.o)).mono ?_;intro e aK av;clear s3 yF yG
      cases d5 with
      |none=>have av:e=ac (V J)∧H a6 a6 aK:=av;obtain ⟨rfl,bv⟩:=av;have cA:=bT bU bv;have fO:=hD (eA.o.below bv eA.o.lt);clear bv;have cC:Hz (R=Z):=hD (by rw[a1.o];rfl);exact kgt
      |some bX=>have av:e=ac (V K)∧(∃ ip,EdX aK base g ap cap bX ip aP)∧FrX base a6 aK:=av;obtain ⟨rfl,⟨ip,jk⟩,ke⟩:=av;have m6:=hD jk;have f4:=hD (((FrX.refl base w).below bU.o f5).trans ke);exact klE
   |true=>
    have s2:=ex.o.cell 1;simp only[gA,gB,gC] at s2;have yD:=(bo.o.cell (p:=⟨q,0,Z⟩) fu).trans lp.o;have yE:=(bo.o.cell (p:=⟨q,1,Z⟩) fu).trans mr.o;go_wp2_with fail;refine (gY.o aF (dh.o.below bo.o)).mono ?_;intro e a6 av;clear s2 yD yE
    cases r0 with
    |none=>
     have av:e=ac (V J)∧H aF aF a6:=av;obtain ⟨rfl,b3⟩:=av;have bU:=bT bo b3;have eA:=hD (ex.o.below b3 ex.o.lt);clear b3;(first|(first|guard_hyp tG|guard_hyp zu);have cC:Hz (R=Z):=hD (by rw[a1.o];rfl)|have s3:=eA.o.cell 1;simp only[gA,gB,gC] at s3;have yF:=(bU.o.cell (p:=⟨q,0,Z⟩) fu).trans lp.o;have yG:=(bU.o.cell (p:=⟨q,1,Z⟩) fu).trans mr.o);go_wp2_with fail
     first
     |(first|guard_hyp tG|guard_hyp zu);go_ret;unfold RepEnd;rw[cC.o];exact ⟨rfl,bU.o⟩
     |refine (n8.o a6 (dh.o.below bU.o).ma5).mono ?_;rintro e aK ⟨rfl,bv⟩;have cA:=bT bU bv;have fO:=hD (eA.o.below bv eA.o.lt);clear s3 yF yG;clear bv
      cases z0 with
      |false=>have cC:Hz (R=Z):=hD (by rw[a1.o];rfl);exact kgt
      |true=>
       have s4:=fO.o.cell 1;simp only[gA,gB,gC] at s4;have DX:=(cA.o.cell (p:=⟨q,0,Z⟩) fu).trans lp.o;have DY:=(cA.o.cell (p:=⟨q,1,Z⟩) fu).trans mr.o;go_wp2_with fail;refine (nK.o aK (dh.o.below cA.o)).mono ?_;intro e bm av;clear s4 DX DY
       cases d5 with
       |none=>exact km3
       |some bX=>exact km6
    |some bX=>have O8:=();exact km9
  |guard_hyp RD;have aY:w.cell? ⟨q,1,Z⟩=N (I U cc):=an 1 _ (by rw[ub9,eG];rfl);have lq:Oz.arg s 1=(cc:Int):=(by unfold Oz.arg;rw[ub6,eG];rfl);have eS:(1:Int)<(k:Int):=oM;have Bw:1<k:=oM;rw[l0,lq] at aH;rw[ba,ua0 dC,ua0 dC,ua0 dC,ua1 dC] at aH;obtain ⟨r0,nJ⟩:=xE (Oz.mad l i bO);have gY:Hz (∀ w:O,EdX w base g ap cap l vs aP→L prog 110 #[ab (N ⟨g,0,Z⟩),I U i,I U bO] w (RepEnd base g ap cap l vs aP r0 w)):=hD (fun w h=>by rw[nJ];exact kc6 base g ap cap i bO l vs aP w h hi0 dc.o ev.o);rw[ub7,←nJ] at aH;clear nJ;by_cases DJ:bO=cc
   .subst DJ;rw[ua1 rfl] at aH;have O9:=();exact kmB
   .have aL:((bO:Int)==(cc:Int))=J:=ua2.2 oM;rw[ua0 oM] at aH;exact kmB
  |guard_hyp RE;have aY:w.cell? ⟨q,1,Z⟩=N (I U cc):=an 1 _ (by rw[ub9,eG];rfl);have lq:Oz.arg s 1=(cc:Int):=(by unfold Oz.arg;rw[ub6,eG];rfl);have eS:(1:Int)<(k:Int):=oM;have Bw:1<k:=oM;have bh:w.cell? ⟨q,2,Z⟩=N (I U jH):=an 2 _ (by rw[ub9,ly];rfl);have Bz:Oz.arg s 2=(jH:Int):=(by unfold Oz.arg;rw[ub6,ly];rfl);have il:(2:Int)<(k:Int):=oM;have Y2:2<k:=oM;rw[l0,lq,Bz] at aH;rw[ba,ua0 dC,ua0 dC,ua0 dC,ua0 dC,ua0 dC,ua0 dC,ua1 dC] at aH;rw[kal fK] at aH;obtain ⟨ca,cJ⟩:=xE (decide (bb.op=kac∧bb.num=0));have rY:Oz.isR l (cc:Int) 0=ca:=(by unfold Oz.isR;rw[kal dy,cJ]);have n9:Hz (∀ w:O,EdAt w g ap cap l aP→L prog 114 #[ab (N ⟨g,0,Z⟩),I U cc,I U 0] w fun e w'=>e=ac (V ca)∧H w w w'):=hD (fun w h=>by rw[cJ];exact ker g ap cap cc l aP bb w h dy 0);rw[rY] at aH;clear cJ rY;obtain ⟨r0,nJ⟩:=xE (Oz.mad l i bO);have gY:Hz (∀ w:O,EdX w base g ap cap l vs aP→L prog 110 #[ab (N ⟨g,0,Z⟩),I U i,I U bO] w (RepEnd base g ap cap l vs aP r0 w)):=hD (fun w h=>by rw[nJ];exact kc6 base g ap cap i bO l vs aP w h hi0 dc.o ev.o);rw[ub7,←nJ] at aH;clear nJ;obtain ⟨eb,eU,⟨z0,ca,cI,z3,z4⟩,f8⟩:=h.at_ fK;obtain ⟨fD,aZ,rfl⟩:=kaA f8;obtain ⟨bS,cu⟩:=xE db.args.length;rw[←cu] at ca;obtain ⟨X,d6⟩:=xE db.text;rw[←d6] at z3;obtain ⟨oV,mu⟩:=xE db.num;rw[←mu] at cI;obtain ⟨oW,mv⟩:=xE db.ty;rw[←mv] at z4;have dk:=(gH fK).1;rw[←ax] at dk;have c2:(jH:Int)<(n:Int):=oM;have j4:=nN jH;have mi:jH<n:=oM;(first|guard_hyp vc;obtain ⟨r,bC,gj,_,wy,hl,jX⟩:=kb3 f8 (by have:=(gH bg).1;omega);injection gj with d4 hh cq;clear hh;subst d4 cq;have cr:w.cell? ⟨r,0,Z⟩=N (I U m):=jX 0 _ (by rw[ub9,bg];rfl);have em:Oz.arg db 0=(m:Int):=(by unfold Oz.arg;rw[ub6,bg];rfl);have fd:0<bS:=(by have:=(gH bg).1;omega);have IQ:(0:Int)<(bS:Int):=oM;rw[gP] at z0;unfold Oz.mal at z0;clear jX;subst kw;have dH:(decide (db.op=Oz.mal)&&decide (Oz.arg db 0=(m:Int)))=K:=(by rw[ub3 gP,em,ub3 rfl];rfl);have dM:((m:Int)==(m:Int))=K:=by simp|guard_hyp JX;obtain ⟨r,bC,gj,_,wy,hl,jX⟩:=kb3 f8 (by have:=(gH bg).1;omega);injection gj with d4 hh cq;clear hh;subst d4 cq;have cr:w.cell? ⟨r,0,Z⟩=N (I U m):=jX 0 _ (by rw[ub9,bg];rfl);have em:Oz.arg db 0=(m:Int):=(by unfold Oz.arg;rw[ub6,bg];rfl);have fd:0<bS:=(by have:=(gH bg).1;omega);have IQ:(0:Int)<(bS:Int):=oM;rw[gP] at z0;unfold Oz.mal at z0;clear jX;have dH:(decide (db.op=Oz.mal)&&decide (Oz.arg db 0=(bO:Int)))=J:=(by rw[em,ua5 (p:=(m:Int)=(bO:Int)) (fun e=>kw oM)];simp);have dM:((m:Int)==(bO:Int))=J:=ua2.2 oM|have dH:(decide (db.op=Oz.mal)&&decide (Oz.arg db 0=(bO:Int)))=J:=(by rw[ua5 gP];rfl);have dM:(db.op== [108,101,110])=J:=ua2.2 gP);rw[dH] at aH;obtain ⟨hj,lp,mr,BA,a1⟩:=hd5 be a0 aY bh aH;rw[ba] at bu;unfold Oz.ma4 at bu;(first|guard_hyp vc;have ho:=hD cr;clear h al ak au bf ax ba az aw iW lY fb an aH ec cE hi0 l0 a0 eG dy hi1 lq aY ly fK hi2 Bz bh eU f8 cu d6 mu mv dk dH gP bg em fd|guard_hyp JX;have ho:=hD cr;clear h al ak au bf ax ba az aw iW lY fb an aH ec cE hi0 l0 a0 eG dy hi1 lq aY ly fK hi2 Bz bh eU f8 cu d6 mu mv dk dH gP bg em fd kw|clear h al ak au bf ax ba az aw iW lY fb an aH ec cE hi0 l0 a0 eG dy hi1 lq aY ly fK hi2 Bz bh eU f8 cu d6 mu mv dk dH gP);go_enter func69,ntmps69;go_upto_region 21 with (fail);obtain ⟨aq,aQ⟩:=xE (w.alloc (y #[Q ⟨#[99,117,116]⟩,D (N ⟨q,0,Z⟩) k c,I U num,Q ⟨text.toArray⟩,I U ty] 77));rw[←aQ];have a7:=bB aQ;have d3:=bN aQ;clear aQ be bu bY cP c8 dj;have d8:=(a7.o.cell (p:=⟨g,0,Z⟩) ef).trans hj.o;have g1:=(a7.o.cell (p:=⟨ap,_,Z⟩) dW).trans z0;have eN:=(a7.o.cell (p:=⟨ap,_,Z⟩) dW).trans ca;have gV:=(a7.o.cell (p:=⟨ap,_,Z⟩) dW).trans cI;have iA:=(a7.o.cell (p:=⟨ap,_,Z⟩) dW).trans z3;have tb:=(a7.o.cell (p:=⟨ap,_,Z⟩) dW).trans z4;have s1:=d3.o.cell 1;simp only[gA,gB,gC] at s1;have uI:=(a7.o.cell (p:=⟨q,0,Z⟩) fu).trans lp.o;have yC:=(a7.o.cell (p:=⟨q,1,Z⟩) fu).trans mr.o;have Pa:=(a7.o.cell (p:=⟨q,2,Z⟩) fu).trans BA.o;have bx:=d3.o.lt;have et:g<aq.heap.size:=ua7 ef a7.o.size;have lf:ap<aq.heap.size:=ua7 dW a7.o.size;have tc:q<aq.heap.size:=ua7 fu a7.o.size;go_region
   clear bx et lf tc;(first|guard_hyp Cn;obtain ⟨aF,bW⟩:=xE ((aq.alloc (y #[Q ⟨db.op.toArray⟩,D fD bS aZ,I U oV,Q ⟨X.toArray⟩,I U oW] 77)).drew)|obtain ⟨aF,bW⟩:=xE ((aq.alloc (y #[Q ⟨#[108,101,110]⟩,D (N ⟨r,0,Z⟩) bS aZ,I U oV,Q ⟨X.toArray⟩,I U oW] 77)).drew));rw[←bW];have bs:H aq aq aF:=(by rw[bW];exact (kax _ _).drew);have bo:=bT a7 bs;have ex:=hD (d3.o.below bs d3.o.lt);(first|guard_hyp Cn;have uJ:Hz (Blk aF aq 77 #[Q ⟨db.op.toArray⟩,D fD bS aZ,I U oV,Q ⟨X.toArray⟩,I U oW]):=hD (by rw[bW];exact (Blk.new _ _ _).drew)|have uJ:Hz (Blk aF aq 77 #[Q ⟨#[108,101,110]⟩,D (N ⟨r,0,Z⟩) bS aZ,I U oV,Q ⟨X.toArray⟩,I U oW]):=hD (by rw[bW];exact (Blk.new _ _ _).drew));clear bW bs d8 g1 eN gV iA tb z0 ca cI z3 z4;clear s1 uI yC Pa;have aT:=uJ.o.cell 0;have aU:=uJ.o.cell 1;simp only[gA,gB,gC] at aT aU;(first|guard_hyp Cn|have DZ:=(bo.o.cell (p:=⟨r,0,Z⟩) hl).trans ho.o);have s2:=ex.o.cell 1;simp only[gA,gB,gC] at s2;have yD:=(bo.o.cell (p:=⟨q,0,Z⟩) fu).trans lp.o;have yE:=(bo.o.cell (p:=⟨q,1,Z⟩) fu).trans mr.o;have Pb:=(bo.o.cell (p:=⟨q,2,Z⟩) fu).trans BA.o;go_wp2_with fail;go_quiet (fail);go_upto_region 23 with (fail);obtain ⟨a6,cl⟩:=xE (aF.drewN nq);rw[←cl];have bU:Hz (H w w a6):=hD (by rw[cl];exact kbm bo.o _);have eA:Hz (Blk a6 w 77 #[Q ⟨#[99,117,116]⟩,D (N ⟨q,0,Z⟩) k c,I U num,Q ⟨text.toArray⟩,I U ty]):=hD (by rw[cl];exact ex.o.drewN _);clear cl aT aU;clear s2 yD yE Pb;(first|guard_hyp Cn|clear DZ);have s3:=eA.o.cell 1;simp only[gA,gB,gC] at s3;have yF:=(bU.o.cell (p:=⟨q,0,Z⟩) fu).trans lp.o;have yG:=(bU.o.cell (p:=⟨q,1,Z⟩) fu).trans mr.o;have Pc:=(bU.o.cell (p:=⟨q,2,Z⟩) fu).trans BA.o;go_wp2_with fail;refine (n9.o a6 (dh.o.below bU.o).ma5).mono ?_;rintro e aK ⟨rfl,bv⟩;have cA:=bT bU bv;(first|guard_hyp vc;have fO:=hD (eA.o.below bv eA.o.lt)|clear bv);clear s3 yF yG Pc;first|guard_hyp vc;clear bv|have cC:Hz (R=Z):=hD (by rw[a1.o];cases ca <;> rfl)
   cases ca with
   |false=>(first|guard_hyp vc;have cC:Hz (R=Z):=hD (by rw[a1.o];rfl)|skip);exact kgt
   |true=>
    (first|guard_hyp vc;have s4:=fO.o.cell 1;simp only[gA,gB,gC] at s4;have DX:=(cA.o.cell (p:=⟨q,0,Z⟩) fu).trans lp.o;have DY:=(cA.o.cell (p:=⟨q,1,Z⟩) fu).trans mr.o;have Pd:=(cA.o.cell (p:=⟨q,2,Z⟩) fu).trans BA.o|skip);go_wp2_with fail
    first
    |guard_hyp vc;refine (gY.o aK (dh.o.below cA.o)).mono ?_;intro e bm av;clear s4 DX DY Pd
     cases r0 with
     |none=>exact km3
     |some bX=>exact km6
    |go_ret;unfold RepEnd;rw[cC.o];exact ⟨rfl,cA.o⟩
  |rw[l0] at aH;have lq:=True.intro;rw[ba,ua0 dC,ua0 dC,ua0 dC,ua0 dC,ua0 dC,ua0 dC,ua0 dC,ua1 dC] at aH;rw[kal cE] at aH;obtain ⟨eb,eU,⟨z0,ca,cI,z3,z4⟩,f8⟩:=h.at_ cE;obtain ⟨fD,aZ,rfl⟩:=kaA f8;obtain ⟨bS,cu⟩:=xE t0.args.length;rw[←cu] at ca;obtain ⟨X,d6⟩:=xE t0.text;rw[←d6] at z3;obtain ⟨oV,mu⟩:=xE t0.num;rw[←mu] at cI;obtain ⟨oW,mv⟩:=xE t0.ty;rw[←mv] at z4;have dk:=(gH cE).1;rw[←ax] at dk;have c2:(bO:Int)<(n:Int):=oM;have j4:=nN bO;have mi:bO<n:=oM;(first|guard_hyp w1;obtain ⟨r,bC,gj,_,wy,hl,jX⟩:=kb3 f8 (by have:=(gH bg).1;omega);injection gj with d4 hh cq;clear hh;subst d4 cq;have cr:w.cell? ⟨r,0,Z⟩=N (I U m):=jX 0 _ (by rw[ub9,bg];rfl);have em:Oz.arg t0 0=(m:Int):=(by unfold Oz.arg;rw[ub6,bg];rfl);have fd:0<bS:=(by have:=(gH bg).1;omega);have IQ:(0:Int)<(bS:Int):=oM;rw[gP] at z0;unfold Oz.maL at z0;clear jX;rw[ua1 gP,em] at aH;obtain ⟨r0,nJ⟩:=xE (Oz.mad l i m);have gY:Hz (∀ w:O,EdX w base g ap cap l vs aP→L prog 110 #[ab (N ⟨g,0,Z⟩),I U i,I U m] w (RepEnd base g ap cap l vs aP r0 w)):=hD (fun w h=>by rw[nJ];exact kc6 base g ap cap i m l vs aP w h Bn dc.o ev.o);rw[ub7,←nJ] at aH;clear nJ|rw[ua0 gP] at aH;have dM:(t0.op== [110,111,116])=J:=ua2.2 gP);obtain ⟨hj,lp,a1⟩:=hd3 be a0 aH;rw[ba] at bu;unfold Oz.maL at bu;(first|guard_hyp w1;have ho:=hD cr;clear h al ak au bf ax ba az aw iW lY fb an aH ec cE hi0 l0 lq a0 eU f8 cu d6 mu mv dk gP bg em fd|clear h al ak au bf ax ba az aw iW lY fb an aH ec cE hi0 l0 lq a0 eU f8 cu d6 mu mv dk gP);go_enter func69,ntmps69;go_upto_region 25 with (fail);obtain ⟨aq,aQ⟩:=xE (w.alloc (y #[Q ⟨#[110,111,116]⟩,D (N ⟨q,0,Z⟩) k c,I U num,Q ⟨text.toArray⟩,I U ty] 77));rw[←aQ];have a7:=bB aQ;have d3:=bN aQ;clear aQ be bu bY cP c8 dj;have d8:=(a7.o.cell (p:=⟨g,0,Z⟩) ef).trans hj.o;have g1:=(a7.o.cell (p:=⟨ap,_,Z⟩) dW).trans z0;have eN:=(a7.o.cell (p:=⟨ap,_,Z⟩) dW).trans ca;have gV:=(a7.o.cell (p:=⟨ap,_,Z⟩) dW).trans cI;have iA:=(a7.o.cell (p:=⟨ap,_,Z⟩) dW).trans z3;have tb:=(a7.o.cell (p:=⟨ap,_,Z⟩) dW).trans z4;have s1:=d3.o.cell 1;simp only[gA,gB,gC] at s1;have uI:=(a7.o.cell (p:=⟨q,0,Z⟩) fu).trans lp.o;have bx:=d3.o.lt;have et:g<aq.heap.size:=ua7 ef a7.o.size;have lf:ap<aq.heap.size:=ua7 dW a7.o.size;have tc:q<aq.heap.size:=ua7 fu a7.o.size;go_region
   clear bx et lf tc;(first|guard_hyp w1;obtain ⟨aF,bW⟩:=xE ((aq.alloc (y #[Q ⟨#[110,111,116]⟩,D (N ⟨r,0,Z⟩) bS aZ,I U oV,Q ⟨X.toArray⟩,I U oW] 77)).drew)|obtain ⟨aF,bW⟩:=xE ((aq.alloc (y #[Q ⟨t0.op.toArray⟩,D fD bS aZ,I U oV,Q ⟨X.toArray⟩,I U oW] 77)).drew));rw[←bW];have bs:H aq aq aF:=(by rw[bW];exact (kax _ _).drew);have bo:=bT a7 bs;have ex:=hD (d3.o.below bs d3.o.lt);(first|guard_hyp w1;have uJ:Hz (Blk aF aq 77 #[Q ⟨#[110,111,116]⟩,D (N ⟨r,0,Z⟩) bS aZ,I U oV,Q ⟨X.toArray⟩,I U oW]):=hD (by rw[bW];exact (Blk.new _ _ _).drew)|have uJ:Hz (Blk aF aq 77 #[Q ⟨t0.op.toArray⟩,D fD bS aZ,I U oV,Q ⟨X.toArray⟩,I U oW]):=hD (by rw[bW];exact (Blk.new _ _ _).drew));clear bW bs d8 g1 eN gV iA tb z0 ca cI z3 z4;clear s1 uI;have aT:=uJ.o.cell 0;(first|guard_hyp w1;have aU:=uJ.o.cell 1;simp only[gA,gB,gC] at aT aU;have DZ:=(bo.o.cell (p:=⟨r,0,Z⟩) hl).trans ho.o|simp only[gA,gB,gC] at aT;have cC:Hz (R=Z):=a1);go_wp2_with fail
   first
   |guard_hyp w1;refine (gY.o aF (dh.o.below bo.o)).mono ?_;intro e a6 av;clear aT aU DZ
    cases r0 with
    |none=>exact kmA
    |some bX=>exact km9
   |go_ret;unfold RepEnd;rw[cC.o];exact ⟨rfl,bo.o⟩):=h
def kiy (h:P:=by
 obtain ⟨v,au,⟨bu,bY,cP,c8,dj⟩,bf⟩:=h.at_ al;obtain ⟨A,c,rfl⟩:=kaA bf;obtain ⟨eb,eU,⟨z0,ca,cI,z3,z4⟩,f8⟩:=h.at_ aB;obtain ⟨fD,aZ,rfl⟩:=kaA f8;have jj:(kag l).length=l.length:=kgT l _
 first
 |guard_hyp Pq;(first|guard_hyp uR;have a8:=hD (keO g ap bz cap i j l (kag l) s t w h.ma5 aI jj al aS aB Oz.maU);unfold Oz.maU at a8;obtain ⟨z,bd⟩:=xE (decide (t.op=Oz.maU∧(kag l).getD j 0=1))|guard_hyp uP;have a8:=hD (keO g ap bz cap i j l (kag l) s t w h.ma5 aI jj al aS aB Oz.ma4);unfold Oz.ma4 at a8;obtain ⟨z,bd⟩:=xE (decide (t.op=Oz.ma4∧(kag l).getD j 0=1))|(first|guard_hyp yU|guard_hyp yW);have a8:=hD (keO g ap bz cap i j l (kag l) s t w h.ma5 aI jj al aS aB Oz.maO);unfold Oz.maO at a8;obtain ⟨z,bd⟩:=xE (decide (t.op=Oz.maO∧(kag l).getD j 0=1))|have a8:=hD (keO g ap bz cap i j l (kag l) s t w h.ma5 aI jj al aS aB Oz.mbd);unfold Oz.mbd at a8;obtain ⟨z,bd⟩:=xE (decide (t.op=Oz.mbd∧(kag l).getD j 0=1)));have ob:=bd;(first|guard_hyp uR;unfold Oz.maU at ob|guard_hyp uP;unfold Oz.ma4 at ob|(first|guard_hyp yU|guard_hyp yW);unfold Oz.maO at ob|unfold Oz.mbd at ob);rw[←ob] at a8;(first|guard_hyp uR;obtain ⟨R,aH⟩:=xE (Oz.maC l i)|guard_hyp yT;obtain ⟨R,aH⟩:=xE (Oz.mav l i)|guard_hyp uP;obtain ⟨R,aH⟩:=xE (Oz.maP l i)|guard_hyp Ec;obtain ⟨R,aH⟩:=xE (Oz.maK l i)|obtain ⟨R,aH⟩:=xE (Oz.maD l i));rw[←aH];(first|guard_hyp uR;unfold Oz.maC Oz.maV at aH|guard_hyp yT;unfold Oz.mav Oz.maV at aH|guard_hyp uP;unfold Oz.maP Oz.maV at aH|guard_hyp Ec;unfold Oz.maK Oz.maV at aH|unfold Oz.maD Oz.maV at aH);have Pe:=();exact kl3
 |guard_hyp Pv;have a8:=hD (keO g ap bz cap i j l (kag l) s t w h.ma5 aI jj al aS aB Oz.maU);unfold Oz.maU at a8;obtain ⟨z,bd⟩:=xE (decide (t.op=Oz.maU∧(kag l).getD j 0=1));have ob:=bd;unfold Oz.maU at ob;rw[←ob] at a8;obtain ⟨R,aH⟩:=xE (Oz.maC l i);rw[←aH];unfold Oz.maC Oz.maV at aH;exact kl3
 |have f3:w.cell? ⟨bz,j,Z⟩=N (I U ((kag l).getD j 0)):=(by rw[aI.cell];exact kgU oM);obtain ⟨q,cS,ql,_,io,fu,an⟩:=kb3 bf oM;injection ql with d4 hh cq;clear hh;subst d4 cq;have a0:w.cell? ⟨q,0,Z⟩=N (I U j):=an 0 _ (by rw[ub9,aS];rfl);obtain ⟨R,aH⟩:=xE (Oz.maB l i);rw[←aH];unfold Oz.maB at aH;have qo:Oz.arg s 0=(j:Int):=(by unfold Oz.arg;rw[ub6,aS];rfl);rw[kal al] at aH;dsimp only at aH;rw[qo,ub7,kal aB] at aH;obtain ⟨u,nG⟩:=xE ((kag l).getD j 0);rw[←nG] at f3 aH;obtain ⟨n,ax⟩:=xE l.length;rw[←ax] at dK dk kX be b8;obtain ⟨dh,bF,ev⟩:=hd3 h ax ak;have cU:(i:Int)<(n:Int):=oM;have bE:=nN i;have c2:(j:Int)<(n:Int):=oM;have j4:=nN j;have mi:j<n:=oM;have kP:i<n:=oM;have ef:=h.ed.lt;have dW:=h.maR;have Y3:=aI.lt;obtain ⟨k,aw⟩:=xE s.args.length;have eD:(0:Int)<(k:Int):=oM;have il:0<k:=oM;rw[←aw] at bY;obtain ⟨bS,cu⟩:=xE t.args.length;have fS:=hD cu;rw[←cu] at ca
  first
  |guard_hyp Ri;have fY:Oz.arg t 0=a:=(by unfold Oz.arg;rw[ub6,fK];rfl);have eT:Oz.arg t 1=b:=(by unfold Oz.arg;rw[ub6,jL];rfl);have fd:2≤bS:=(by have:=(gH jL).1;omega);have ma:(0:Int)<(bS:Int):=oM;have un:(1:Int)<(bS:Int):=oM;have yH:0<bS:=oM;have yI:1<bS:=oM;obtain ⟨r,bC,gj,_,wy,hl,jX⟩:=kb3 f8 oM;injection gj with d4 hh cq;clear hh;subst d4 cq;have dt:w.cell? ⟨r,0,Z⟩=N (I U a):=jX 0 _ (by rw[ub9,fK];rfl);have cL:w.cell? ⟨r,1,Z⟩=N (I U b):=jX 1 _ (by rw[ub9,jL];rfl);clear jX;have oX:u=1:=nG.trans d9;rw[ba,oX] at aH;rw[cE] at z0;rw[ba] at bu;rw[oX] at f3;(first|guard_hyp va;unfold Oz.oEq at z0|guard_hyp vb;unfold Oz.oNe at z0|guard_hyp zl;unfold Oz.oLe at z0|unfold Oz.oLt at z0);unfold Oz.maL at bu;rw[fY,eT,cE] at aH;(first|guard_hyp va;have cC:Hz (R=N (Oz.mai (l.set i (Oz.mk Oz.oNe [a,b] 0 [] 2)) j)):=hD (by rw[aH,ua0 (by simp)];rfl)|guard_hyp vb;have cC:Hz (R=N (Oz.mai (l.set i (Oz.mk Oz.oEq [a,b] 0 [] 2)) j)):=hD (by rw[aH,ua0 (by simp)];rfl)|guard_hyp zl;have cC:Hz (R=N (Oz.mai (l.set i (Oz.mk Oz.oLt [b,a] 0 [] 2)) j)):=hD (by rw[aH,ua0 (by simp)];rfl)|have cC:Hz (R=N (Oz.mai (l.set i (Oz.mk Oz.oLe [b,a] 0 [] 2)) j)):=hD (by rw[aH,ua0 (by simp)];rfl));have dc:Hz (i<l.length):=hD oM;have lj:Hz (j+1<l.length):=hD oM
   first
   |guard_hyp va
    have qp:Hz (∀ s∈l.set i (Oz.mk Oz.oNe [a,b] 0 [] 2),s.args.length≤3∧∀ a∈s.args,0≤a∧a≤100000):=hD (fun s' fc=>by
     rcases uh5 fc with af|rfl
     .exact ak s' af
     .refine ⟨by show 2≤3;decide,fun x aA=>?_⟩;have ao:=(ak t (ua4 aB)).2;have av:=ao a (ua4 fK);have bk:=ao b (ua4 jL);simp only[Oz.mk,uc7,ue3,ui2] at aA;(rcases aA with rfl|rfl <;> assumption))
   |guard_hyp vb
    have qp:Hz (∀ s∈l.set i (Oz.mk Oz.oEq [a,b] 0 [] 2),s.args.length≤3∧∀ a∈s.args,0≤a∧a≤100000):=hD (fun s' fc=>by
     rcases uh5 fc with af|rfl
     .exact ak s' af
     .refine ⟨by show 2≤3;decide,fun x aA=>?_⟩;have ao:=(ak t (ua4 aB)).2;have av:=ao a (ua4 fK);have bk:=ao b (ua4 jL);simp only[Oz.mk,uc7,ue3,ui2] at aA;(rcases aA with rfl|rfl <;> assumption))
   |guard_hyp zl
    have qp:Hz (∀ s∈l.set i (Oz.mk Oz.oLt [b,a] 0 [] 2),s.args.length≤3∧∀ a∈s.args,0≤a∧a≤100000):=hD (fun s' fc=>by
     rcases uh5 fc with af|rfl
     .exact ak s' af
     .refine ⟨by show 2≤3;decide,fun x aA=>?_⟩;have ao:=(ak t (ua4 aB)).2;have av:=ao a (ua4 fK);have bk:=ao b (ua4 jL);simp only[Oz.mk,uc7,ue3,ui2] at aA;(rcases aA with rfl|rfl <;> assumption))
   |have qp:Hz (∀ s∈l.set i (Oz.mk Oz.oLe [b,a] 0 [] 2),s.args.length≤3∧∀ a∈s.args,0≤a∧a≤100000):=hD (fun s' fc=>by
     rcases uh5 fc with af|rfl
     .exact ak s' af
     .refine ⟨by show 2≤3;decide,fun x aA=>?_⟩;have ao:=(ak t (ua4 aB)).2;have av:=ao a (ua4 fK);have bk:=ao b (ua4 jL);simp only[Oz.mk,uc7,ue3,ui2] at aA;(rcases aA with rfl|rfl <;> assumption))
   clear h al aB ak au bf eU f8 nG ax aS qo an aw cu ba d9 oX aE fK jL aH fY eT cE jj aI;go_enter func70,ntmps70;go_wp2_with fail;(first|guard_hyp va;obtain ⟨aq,aQ⟩:=xE (w.alloc (y #[Q ⟨#[33,61]⟩,D Z 0 0,I U 0,Q ⟨#[]⟩,I U 2] 77))|guard_hyp vb;obtain ⟨aq,aQ⟩:=xE (w.alloc (y #[Q ⟨#[61,61]⟩,D Z 0 0,I U 0,Q ⟨#[]⟩,I U 2] 77))|guard_hyp zl;obtain ⟨aq,aQ⟩:=xE (w.alloc (y #[Q ⟨#[60]⟩,D Z 0 0,I U 0,Q ⟨#[]⟩,I U 2] 77))|obtain ⟨aq,aQ⟩:=xE (w.alloc (y #[Q ⟨#[60,61]⟩,D Z 0 0,I U 0,Q ⟨#[]⟩,I U 2] 77)));rw[←aQ];have cm:=bA aQ;have lZ:=bM aQ;have bb:=lZ.cell 1;simp only[gA,gB,gC] at bb;have db:=lZ.frozen 1;have bw:=(cm.cell (p:=⟨r,0,Z⟩) hl).trans dt;have aL:=(cm.cell (p:=⟨r,1,Z⟩) hl).trans cL;have iY:=lZ.lt;have fW:r<aq.heap.size:=oM;have ch:¬(r=w.heap.size):=oM;have D0:¬(w.heap.size=r):=oM;obtain ⟨a7,m1,hj⟩:=hd3 cm lZ be;have gw:Hz (w.cell? ⟨ap,i*5,Z⟩=N (Q ⟨#[110,111,116]⟩)∧w.cell? ⟨ap,i*5+1,Z⟩=N (D (N ⟨q,0,Z⟩) k c)∧w.cell? ⟨ap,i*5+2,Z⟩=N (I U s.num)∧w.cell? ⟨ap,i*5+3,Z⟩=N (Q ⟨s.text.toArray⟩)∧w.cell? ⟨ap,i*5+4,Z⟩=N (I U s.ty)):=hD ⟨bu,bY,cP,c8,dj⟩;clear aQ cm lZ be b8 bu bY cP c8 dj f3 z0 ca cI z3 z4 a0 dt cL;(first|(first|guard_hyp va|guard_hyp vb);have f8:((aq.setCell ⟨w,1,Z⟩ (D (N ⟨aq,0,Z⟩) 2 2)).alloc (y #[I .i64 a,I U b] 3)).drew.ownsRow w.heap.size 3 1 (D (N ⟨aq,0,Z⟩) 2 2) 2 [I .i64 a,I U b]:=(by have h:=kfN (aq.setCell ⟨w,1,Z⟩ (D (N ⟨aq,0,Z⟩) 2 2)) [a,b] (by show 2≤100;decide);exact klJ);have bs:H w w ((aq.setCell ⟨w,1,Z⟩ (D (N ⟨aq,0,Z⟩) 2 2)).alloc (y #[I .i64 a,I U b] 3)).drew:=((a7.o.setCell (p:=⟨w,1,Z⟩) (nR) _).alloc (by have:=a7.o.size;simpa using this) _).drew;have D1:=((m1.o.mac 1 (D (N ⟨aq,0,Z⟩) 2 2)).alloc (y #[I .i64 a,I U b] 3)).drew|have f8:((aq.setCell ⟨w,1,Z⟩ (D (N ⟨aq,0,Z⟩) 2 2)).alloc (y #[I .i64 b,I U a] 3)).drew.ownsRow w.heap.size 3 1 (D (N ⟨aq,0,Z⟩) 2 2) 2 [I .i64 b,I U a]:=(by have h:=kfN (aq.setCell ⟨w,1,Z⟩ (D (N ⟨aq,0,Z⟩) 2 2)) [b,a] (by show 2≤100;decide);exact klJ);have bs:H w w ((aq.setCell ⟨w,1,Z⟩ (D (N ⟨aq,0,Z⟩) 2 2)).alloc (y #[I .i64 b,I U a] 3)).drew:=((a7.o.setCell (p:=⟨w,1,Z⟩) (nR) _).alloc (by have:=a7.o.size;simpa using this) _).drew;have D1:=((m1.o.mac 1 (D (N ⟨aq,0,Z⟩) 2 2)).alloc (y #[I .i64 b,I U a] 3)).drew);obtain ⟨hM,bo,wz⟩:=hd3 f8 bs D1;clear f8 bs D1;go_region
   (first|(first|guard_hyp va|guard_hyp vb);obtain ⟨aF,bW⟩:=xE (((aq.setCell ⟨w,1,Z⟩ (D (N ⟨aq,0,Z⟩) 2 2)).alloc (y #[I .i64 a,I U b] 3)).drew)|obtain ⟨aF,bW⟩:=xE (((aq.setCell ⟨w,1,Z⟩ (D (N ⟨aq,0,Z⟩) 2 2)).alloc (y #[I .i64 b,I U a] 3)).drew));rw[←bW] at hM bo wz ⊢;have aN:=(bo.o.cell (p:=⟨g,0,Z⟩) ef).trans hj.o;have f6:=fun m=>bo.o.cell (p:=⟨ap,m,Z⟩) dW;have bi:=(f6 _).trans gw.o.1;have aW:=(f6 _).trans gw.o.2.1;have bc:=(f6 _).trans gw.o.2.2.1;have br:=(f6 _).trans gw.o.2.2.2.1;have bL:=(f6 _).trans gw.o.2.2.2.2;have fJ:=wz.o.cell 0;have fN:=wz.o.cell 1;have iy:=wz.o.cell 2;have jD:=wz.o.cell 3;have Bq:=wz.o.cell 4;simp only[gE,gF,gG,gA,gB,gC] at fJ fN iy jD Bq;obtain ⟨f0,b2,cB,dS,eJ⟩:aF.frozen? ⟨ap,i*5,Z⟩=J∧aF.frozen? ⟨ap,i*5+1,Z⟩=J∧aF.frozen? ⟨ap,i*5+2,Z⟩=J∧aF.frozen? ⟨ap,i*5+3,Z⟩=J∧aF.frozen? ⟨ap,i*5+4,Z⟩=J:=(by obtain ⟨cs,aL,_⟩:=(dh.o.below bo.o).blk;exact zq3);(first|guard_hyp va;have aO:=dh.o.ma2 bo.o dc.o (Oz.mk Oz.oNe [a,b] 0 [] 2) _ hM.o|guard_hyp vb;have aO:=dh.o.ma2 bo.o dc.o (Oz.mk Oz.oEq [a,b] 0 [] 2) _ hM.o|guard_hyp zl;have aO:=dh.o.ma2 bo.o dc.o (Oz.mk Oz.oLt [b,a] 0 [] 2) _ hM.o|have aO:=dh.o.ma2 bo.o dc.o (Oz.mk Oz.oLe [b,a] 0 [] 2) _ hM.o);have cp:=hD aO.1;have b4:=hD aO.2;clear aO f6 bW bw aL bb db;go_wp2_with fail;go_region
   have lX:=hD (khg base g ap cap j _ _ _ _ (cp.o.below (ub5 _ _).drew) (by rw[ud8];exact lj.o) qp.o);have ln:=hD (b4.o.below (ub5 _ _).drew cp.o.maz);clear cp b4 bi aW bc br bL fJ fN iy jD Bq f0 b2 cB dS eJ aN;go_wp2_with fail;refine lX.o.mono ?_;rintro e a6 ⟨rfl,y3,zX⟩;have eL:=hD y3;have l1:=hD (ln.o.trans zX);clear y3 zX lX;go_wp2_with fail;go_ret;unfold RepEnd;rw[cC.o];exact ⟨rfl,⟨_,eL.o⟩,l1.o⟩
  |first
   |guard_hyp Cf;have oX:u=1:=nG.trans d9;rw[ba,oX] at aH
   |have oX:u≠1:=fun e=>d9 (nG.symm.trans e)
   rw[ba] at bu;(first|guard_hyp Cf;rw[oX] at f3|skip);unfold Oz.maL at bu;(first|guard_hyp Cf;have cC:Hz (R=Z):=hD (by rw[aH,ua0 (by simp)];unfold Oz.mbZ;rw[ua0 aD,ua0 af,ua0 ao,ua0 av];rfl);have bw:(t.op== [61,61])=J:=ua2.2 aD;have aL:(t.op== [33,61])=J:=ua2.2 af;have bJ:(t.op== [60])=J:=ua2.2 ao;have dn:(t.op== [60,61])=J:=ua2.2 av;clear h al aB ak au bf eU f8 nG ax aS qo an aw cu ba d9 oX aE aH aD af ao av jj aI|have cC:Hz (R=Z):=hD (by rw[aH,ua1 (.inr oX)]);have bw:(u==1)=J:=ua2.2 oX;clear h al aB ak au bf eU f8 nG ax aS qo an aw cu ba d9 oX aE aH jj aI);go_enter func70,ntmps70;go_wp2_with fail;go_ret;unfold RepEnd;rw[cC.o];first|guard_hyp Cf;exact ⟨rfl,kax _ _⟩|exact ⟨rfl,ub5 _ _⟩):=h
def kfu (h:P:=by
 have dL:=kaV an al 1 (by rw[ba];kernel_rfl);obtain ⟨j,t,aS,b9,aB,_,_⟩:=kbi an al (k:=0) oM
 first
 |guard_hyp Ps;exact kxt base g ap bz cap i j l vs s t w h aI al aB aS b9 (kck an) ba
 |guard_hyp Pu;exact kx7 base g ap bz cap i j l vs s t w h aI al aB aS b9 (kck an) ba
 |guard_hyp Pw;by_cases bd:t.op=Oz.maO
  .have BB:=kaV an aB 2 (by rw[bd];kernel_rfl);obtain ⟨a,_,aE,_⟩:=kbi an aB (k:=0) oM;obtain ⟨b,_,ak,_⟩:=kbi an aB (k:=1) oM;exact kxV base g ap bz cap i j l vs s t w h aI al aB aS b9 (kck an) ba oM (fun s al=>⟨(kdv an s al).1,fun a aE=>by have:=(kdv an s al).2 a aE;omega⟩) a b aE ak
  .exact kxU base g ap bz cap i j l vs s t w h aI al aB aS b9 (kck an) ba oM bd
 |guard_hyp Px;have eI:=(kfa an).2.1;by_cases bd:t.op=Oz.maU∧(kag l).getD j 0=1
  .have BB:=kaV an aB 2 (by rw[bd.1];kernel_rfl);obtain ⟨a,_,aE,_⟩:=kbi an aB (k:=0) oM;obtain ⟨mw,hT,ak,_,td,_,_⟩:=kbi an aB (k:=1) oM;have dG:∀ s∈l,s.args.length≤3∧∀ a∈s.args,0≤a∧a≤4096:=fun s al=>⟨(kdv an s al).1,fun a aE=>by have:=(kdv an s al).2 a aE;omega⟩;by_cases nv:hT.op=kac
   .exact kx2 base g ap bz cap i j l vs s t w h aI al aB aS b9 (kck an) ba eI dG a mw hT aE ak td bd nv
   .exact kx0 base g ap bz cap i j l vs s t w h aI al aB aS b9 (kck an) ba eI dG a mw hT aE ak td bd nv
  .exact kx1 base g ap bz cap i j l vs s t w h aI al aB aS b9 (kck an) ba bd
 |have ak:=kck an;by_cases d9:(kag l).getD j 0=1
  .by_cases aD:t.op=Oz.oEq∨t.op=Oz.oNe∨t.op=Oz.oLt∨t.op=Oz.oLe
   .have fK:t.args.length=2:=kaV an aB 2 (by rcases aD with e|e|e|e <;> rw[e] <;> kernel_rfl);obtain ⟨a,_,aE,_⟩:=kbi an aB (k:=0) oM;obtain ⟨b,_,bs,_⟩:=kbi an aB (k:=1) oM;rcases aD with e|e|e|e
    .exact kwW base g ap bz cap i j l vs s t w h aI al aB aS b9 oM ak ba d9 a b e aE bs
    .exact kwV base g ap bz cap i j l vs s t w h aI al aB aS b9 oM ak ba d9 a b e aE bs
    .exact kwU base g ap bz cap i j l vs s t w h aI al aB aS b9 oM ak ba d9 a b e aE bs
    .exact kwT base g ap bz cap i j l vs s t w h aI al aB aS b9 oM ak ba d9 a b e aE bs
   .simp only[ul6] at aD;exact kwN base g ap bz cap i j l vs s t w h aI al aB aS b9 oM ak ba d9 aD.1 aD.2.1 aD.2.2.1 aD.2.2.2
  .exact kwP base g ap bz cap i j l vs s t w h aI al aB aS b9 oM ak ba d9):=h
def kd2 (h:P:=by have dK:=(gH al).1;have be:=h.ed.cell 0;simp only[gA,gB] at be;obtain ⟨v,au,⟨bu,bY,cP,c8,dj⟩,bf⟩:=h.at_ al;(first|guard_hyp zv;obtain ⟨A,c,rfl⟩:=kaA bf;obtain ⟨R,aH⟩:=xE (Oz.maj l i)|guard_hyp Cg;obtain ⟨R,aH⟩:=xE (Oz.maB l i)|guard_hyp Ee;obtain ⟨R,aH⟩:=xE (Oz.maP l i)|guard_hyp Ed;obtain ⟨R,aH⟩:=xE (Oz.maK l i)|guard_hyp Ef;obtain ⟨R,aH⟩:=xE (Oz.mav l i)|guard_hyp yV;obtain ⟨R,aH⟩:=xE (Oz.maC l i)|obtain ⟨R,aH⟩:=xE (Oz.maD l i));rw[←aH];(first|guard_hyp zv;unfold Oz.maj at aH|guard_hyp Cg;unfold Oz.maB at aH|guard_hyp Ee;unfold Oz.maP at aH|guard_hyp Ed;unfold Oz.maK at aH|guard_hyp Ef;unfold Oz.mav at aH|guard_hyp yV;unfold Oz.maC at aH|unfold Oz.maD at aH);rw[kal al] at aH;(first|guard_hyp zv;dsimp only at aH;have cC:Hz (R=Z):=hD (by rw[aH,ua0 aD,ua0 af,ua0 ao,ua0 (by simp only[ul6];exact ⟨av,bk,cb,dE,fi,hv⟩),ua0 gM,ua0 py,ua0 n6,ua0 oK])|guard_hyp Cg;dsimp only at aH;have cC:Hz (R=Z):=hD (by rw[aH,ua1 (.inl ba)])|guard_hyp yV;have cC:Hz (R=Z):=hD (by rw[aH,ua1 (ba)])|guard_hyp I2;have cC:Hz (R=Z):=hD (by rw[aH,ua1 (.inl ba)])|have cC:Hz (R=Z):=hD (by rw[aH,ua1 ba]));obtain ⟨n,ax⟩:=xE l.length;rw[←ax] at dK be;have cU:(i:Int)<(n:Int):=oM;have bE:=nN i;(first|guard_hyp zv;have bw:(s.op== [43])=J:=ua2.2 aD;have aL:(s.op== [45])=J:=ua2.2 af;have bJ:(s.op== [42])=J:=ua2.2 ao;have dn:(s.op== [109,105,110])=J:=ua2.2 av;have h6:(s.op== [109,97,120])=J:=ua2.2 bk;have BC:(s.op== [97,110,100])=J:=ua2.2 cb;have D2:(s.op== [111,114])=J:=ua2.2 dE;have Pf:(s.op== [117,110,105,111,110])=J:=ua2.2 fi;have rZ:(s.op== [119,105,116,104,105,110])=J:=ua2.2 hv;have dM:(s.op== [43,43])=J:=ua2.2 gM;have Y4:(s.op== [114,101,112])=J:=ua2.2 py;have Y5:(s.op== [99,117,116])=J:=ua2.2 n6;have Y6:(s.op== [110,111,116])=J:=ua2.2 oK;clear h al au bf ax aH aD af ao av bk cb dE fi hv gM py n6 oK;go_enter func69,ntmps69|guard_hyp Cg;have aL:(s.op== [110,111,116])=J:=ua2.2 ba;clear h al au bf ax aH ba;go_enter func70,ntmps70|guard_hyp Ee;have aL:(s.op== [108,101,110])=J:=ua2.2 ba;clear h al au bf ax aH ba;go_enter func74,ntmps74|guard_hyp Ed;have aL:(s.op== [115,105,122,101])=J:=ua2.2 ba;clear h al au bf ax aH ba;go_enter func72,ntmps72|guard_hyp Ef;have aL:(s.op== [102,105,114,115,116])=J:=ua2.2 ba;clear h al au bf ax aH ba;go_enter func73,ntmps73|guard_hyp yV;have aL:(s.op== [108,101,110])=J:=ua2.2 ba;clear h al au bf ax aH ba;go_enter func76,ntmps76|have aL:(s.op== [108,101,110])=J:=ua2.2 ba;clear h al au bf ax aH ba;go_enter func75,ntmps75);go_wp2_with fail;go_ret;(first|(first|guard_hyp yV|guard_hyp I2);unfold kaH|unfold RepEnd);rw[cC.o];first|guard_hyp zv;exact ⟨rfl,kax _ _⟩|exact ⟨rfl,ub5 _ _⟩):=h
section
variable {l:List St} (h:kaf l=0)
include h
theorem kej {i:Nat} {s:St} (al:l[i]? =N s):∃ o,Fine l i s o:=kon ((kfa h).2.2 i s al)
theorem kck:∀ s∈l,s.args.length≤3∧∀ a∈s.args,0≤a∧a≤100000:=fun s al=>by obtain ⟨i,hi⟩:=uh7 al;obtain ⟨o,f⟩:=kej h hi;have dK:=(gH hi).1;have ax:=(kfa h).2.1;refine ⟨by rw[f.len];exact khi f.op,fun a aE=>?_⟩;have:=f.back a aE;omega
theorem kdv:∀ s∈l,s.args.length≤3∧∀ a∈s.args,0≤a∧a<(l.length:Int):=fun s al=>by obtain ⟨i,hi⟩:=uh7 al;obtain ⟨o,f⟩:=kej h hi;have dK:=(gH hi).1;refine ⟨by rw[f.len];exact khi f.op,fun a aE=>?_⟩;have:=f.back a aE;omega
theorem kaV {i:Nat} {s:St} (al:l[i]? =N s) (k:Nat) (bf:(opR s.op).map (fun o=>o.args.length)=N k):s.args.length=k:=by obtain ⟨o,f⟩:=kej h al;rw[f.op] at bf;injection bf with bf;rw[f.len,←bf]
theorem kbi {i:Nat} {s:St} (al:l[i]? =N s) {k:Nat} (aw:k<s.args.length):∃(j:Nat) (t:St),s.args[k]? =N (j:Int)∧j<i∧l[j]? =N t∧Oz.arg s k=(j:Int)∧Oz.at_ l (j:Int)=t:=by obtain ⟨o,f⟩:=kej h al;have dK:=(gH al).1;obtain ⟨a,aE⟩:∃ a,s.args[k]? =N a:=⟨_,ua3 aw⟩;have ak:=f.back a (ua4 aE);obtain ⟨j,rfl⟩:∃ j:Nat,a=(j:Int):=⟨a.toNat,oM⟩;have b9:j<i:=oM;obtain ⟨t,aB⟩:∃ t,l[j]? =N t:=⟨_,ua3 oM⟩;refine ⟨j,t,aE,b9,aB,?_,kal aB⟩;unfold Oz.arg;rw[ub6,aE];rfl
end
end Go.Proofs.YtamhdmkolfmmdaaGreatDoor
