/- Part ah of the proof. -/
import Derived.Test.YtamhdmkolfmmdaaGreatDoorwad
set_option linter.all false
set_option maxHeartbeats 16000000
set_option maxRecDepth 100000
open Go.Proofs.Tryz
open Go.Value renaming int→I,slice→D,bool→V,string→Q,pointer→ab,agg→aa,tuple→ag,nilIface→aj
open Go.IntKind renaming i64→U,u64→Y,u8→ai
open Go.Obj renaming cells→y
open Go.Ending renaming returned→ac
open Option renaming none→Z,some→N
open Bool renaming true→K,false→J
open Go renaming World→O,Value→C,Calls→L,TypeId→ah,Addr→ae
open Go.RowKit renaming Below→H
namespace Go.Proofs.YtamhdmkolfmmdaaGreatDoor
open Go.RowKit
variable {P:Prop}
def Rx.kd:Rx→Nat
 | .node k _ _ _ _ _ _ _=>k
def Rx.lo:Rx→Int
 | .node _ _ _ _ _ lo _ _=>lo
def Rx.hi:Rx→Int
 | .node _ _ _ _ _ _ hi _=>hi
def Rx.ps:Rx→List Rx
 | .node _ _ _ _ _ _ _ ps=>ps
namespace Rg
abbrev W4:=Nat×Nat×Nat×Nat
def word (s:W4) (k:Nat):Nat:=if k=0 then s.1 else if k=1 then s.2.1 else if k=2 then s.2.2.1 else s.2.2.2
def has (s:W4) (b:Nat):Bool:=decide (word s (b / 64) / 2^(b % 64) % 2=1)
def orB (a b:List Bool):List Bool:=List.zipWith (· ||·) a b
def step2 (s:W4) (t:List UInt8) (f:List Bool):List Bool:=J::List.zipWith (fun x b=>x&&has s b.toNat) f t
def rep {α:Type} (E:α→α):Nat→α→α
 |0,a=>a
 |n+1,a=>rep E n (E a)
def grow (E:List Bool→List Bool):Nat→List Bool→List Bool→List Bool
 |0,_,o=>o
 |f+1,a,o=>if orB o (E a)=o then o else grow E f (E a) (orB o (E a))
def hd (ps:List Rx):Rx:=ps.headD Rx.empty
def flat:Nat→Int→Int→List Rx→Int×Int×List Rx
 |0,lo,hi,ps=>(lo,hi,ps)
 |f+1,lo,hi,ps=>if lo≤1∧hi<0∧(hd ps).kd=5∧(hd ps).lo≤1∧(hd ps).hi≠0 then flat f (min lo (hd ps).lo) (-1) (hd ps).ps else (lo,hi,ps)
def turns (lo hi:Int) (n:Nat):Nat:=if hi<0 then n+1 else (hi-lo).toNat
def mar:Nat→Rx→List UInt8→List Bool→List Bool
 |0,_,_,f=>f
 | n + 1, .node k aT aU aX a2 lo hi ps, t, f =>
  if k = 1 then f
  else if k = 2 then step2 (aT, aU, aX, a2) t f
  else if k = 3 then ps.foldl (fun a p => mar n p t a) f
  else if k = 4 then ps.foldl (fun o p => orB o (mar n p t f)) (List.replicate f.length J)
  else grow (mar n (hd (flat n lo hi ps).2.2) t) (turns (flat n lo hi ps).1 (flat n lo hi ps).2.1 f.length) (rep (mar n (hd (flat n lo hi ps).2.2) t) (flat n lo hi ps).1.toNat f) (rep (mar n (hd (flat n lo hi ps).2.2) t) (flat n lo hi ps).1.toNat f)
def mbo:Nat→List Bool→Int→Int
 |_,[],b=>b
 |i,x::r,b=>mbo (i+1) r (if x then (i:Int) else b)
def fromV (r:Rx) (t:List UInt8) (p:Nat):List Bool:=mar r.size r (t.drop p) (K::List.replicate (t.length-p) J)
def mbt (r:Rx) (t:List UInt8) (p:Nat):Int:=mbo 0 (fromV r t p) (-1)
structure Ch where
 S:List W4
 F:List Nat
abbrev Pt:=Bool×Nat×Nat
def link (c:Ch) (last first:Nat):Ch:=⟨c.S,c.F.mapIdx fun i x=>if last / 2^i % 2=1 then x|||first else x⟩
def mbb (a b:Pt):Pt:=(a.1&&b.1,if a.1 then a.2.1|||b.2.1 else a.2.1,if b.1 then b.2.2|||a.2.2 else b.2.2)
def mbk (c:Ch) (a b:Pt):Ch:=link c a.2.2 b.2.1
def onP (bl:Ch→Pt×Ch) (s:Pt×Ch):Pt×Ch:=(mbb s.1 (bl s.2).1,mbk (bl s.2).2 s.1 (bl s.2).1)
def orP (bl:Ch→Pt×Ch) (s:Pt×Ch):Pt×Ch:=((s.1.1||(bl s.2).1.1,s.1.2.1|||(bl s.2).1.2.1,s.1.2.2|||(bl s.2).1.2.2),(bl s.2).2)
def maW (bl:Ch→Pt×Ch):Nat→Ch→List Pt×Ch
 |0,c=>([],c)
 |n+1,c=>((maW bl n c).1++[(bl (maW bl n c).2).1],(bl (maW bl n c).2).2)
def mbe (lo:Int) (ps:List Pt):Nat→Pt×Ch→Pt×Ch
 |0,s=>s
 |i+1,s=>mbe lo ps i (((mbb (ps.getD i (J,0,0)) s.1).1||decide (lo≤(i:Int)),(mbb (ps.getD i (J,0,0)) s.1).2),mbk s.2 (ps.getD i (J,0,0)) s.1)
def unit:Pt:=(K,0,0)
def mak:Nat→Rx→Ch→Pt×Ch
 |0,_,c=>(unit,c)
 | n + 1, .node k aT aU aX a2 lo hi ps, c =>
  if k = 2 then ((J, 2 ^ c.S.length % 2 ^ 64, 2 ^ c.S.length % 2 ^ 64), ⟨c.S ++ [(aT, aU, aX, a2)], c.F ++ [0]⟩)
  else if k = 3 then ps.foldl (fun s p => onP (mak n p) s) (unit, c)
  else if k = 4 then ps.foldl (fun s p => orP (mak n p) s) ((J, 0, 0), c)
  else if k = 5 then
   (if hi < 0 then
    (let s := rep (onP (mak n (hd ps))) (lo.toNat - 1) (unit, c)
     let l := mak n (hd ps) s.2
     let p : Pt := (l.1.1 || decide (lo = 0), l.1.2)
     (mbb s.1 p, mbk (link l.2 l.1.2.2 l.1.2.1) s.1 p))
   else mbe lo (maW (mak n (hd ps)) hi.toNat c).1 hi.toNat (unit, (maW (mak n (hd ps)) hi.toNat c).2))
  else (unit, c)
def addN (l:List Nat) (x:Nat):List Nat:=if x∈l then l else l++[x]
def mbT (b:Nat):Nat→List W4→Nat→Nat
 |_,[],m=>m
 |i,s::r,m=>mbT b (i+1) r (if has s b then m|||2^i else m)
def mcc (S:List W4):List Nat:=(List.range 256).foldl (fun l b=>addN l (mbT b 0 S 0)) []
def mbP (x:Nat):Nat→List Nat→Nat→Nat
 |_,[],m=>m
 |k,f::r,m=>mbP x (k+1) r (if x / 2^k % 2=1 then m|||f else m)
def mbD (jO:List Nat) (l:List Nat) (x:Nat):List Nat:=jO.foldl (fun l k=>addN l (x&&& k)) l
def mbM (jO F:List Nat) (st:Nat):Nat→Nat→List Nat→List Nat
 |0,_,l=>l
 |f+1,i,l=>if i<l.length∧l.length≤256 then mbM jO F st f (i+1) (mbD jO l (mbP (l.getD i 0) 0 F st)) else l
def mbs (r:Rx) (vU:Bool):Nat:=
 min ((mbM (mcc (mak r.size r ⟨[],[]⟩).2.S) (mak r.size r ⟨[],[]⟩).2.F (if vU then (mak r.size r ⟨[],[]⟩).1.2.1 else 0) 258 0 (mbD (mcc (mak r.size r ⟨[],[]⟩).2.S) [] (mak r.size r ⟨[],[]⟩).1.2.1)).length+1) 257
end Rg
mutual
def Rx.rev:Rx→Rx
 | .node k aT aU aX a2 lo hi ps=> .node k aT aU aX a2 lo hi (if k=3 then (kay ps).reverse else kay ps)
def kay:List Rx→List Rx
 |[]=>[]
 |r::e7=>r.rev::kay e7
end
theorem kfJ:∀(l:List Rx),(kay l).length=l.length
 |[]=>by unfold kay;rfl
 |r::e7=>by unfold kay;rw[uc8,uc8,kfJ e7]
theorem kjn:∀(l:List Rx) (k:Nat),(kay l).take k=kay (l.take k)
 |[],k=>by unfold kay;simp
 |r::e7,0=>by simp[kay]
 |r::e7,k+1=>by unfold kay;rw[uk7,uk7,kjn e7 k]
theorem ko4:∀ {l:List Rx} {k:Nat} {r:Rx},l[k]? =N r→(kay l)[k]? =N r.rev
 |[],_,_,h=>by simp at h
 |r0::e7,0,r,h=>by unfold kay;simp only[gB,ug0] at h ⊢;rw[h]
 |r0::e7,k+1,r,h=>by unfold kay;rw[gC] at h ⊢;exact ko4 h
def ko3 {l:List Rx} {k:Nat} {r:Rx} (h:l[k]? =N r):kay (l.take (k+1))=kay (l.take k)++[r.rev]:=by rw[←kjn,←kjn,ue0,ko4 h];rfl
theorem koD:∀(l:List Rx),kam l.reverse=kam l
 |[]=>rfl
 |r::l=>by rw[uq3,kg4,koD l,kcc,kam];omega
theorem kpq:∀(l l':List Rx),kaE (l++l')=kaE l+kaE l'
 |[],l'=>by rw[uj4,kaE];omega
 |r::l,l'=>by rw[ui4,kaE,kaE,kpq l l'];omega
theorem kpn:∀(l:List Rx),kaE l.reverse=kaE l
 |[]=>rfl
 |r::l=>by rw[uq3,kpq,kpn l,kaE,kaE,kaE];omega
mutual
theorem Rx.mb8:∀(r:Rx),r.rev.size=r.size
 | .node k aT aU aX a2 lo hi ps=>by
  unfold Rx.rev Rx.size;by_cases h:k=3
  .rw[ua1 h,koD,ki7 ps]
  .rw[ua0 h,ki7 ps]
theorem ki7:∀(l:List Rx),kam (kay l)=kam l
 |[]=>by unfold kay;rfl
 |r::e7=>by unfold kay kam;rw[Rx.mb8 r,ki7 e7]
end
mutual
theorem Rx.mch:∀(r:Rx),r.rev.pos=r.pos
 | .node k aT aU aX a2 lo hi ps=>by
  unfold Rx.rev Rx.pos;by_cases h:k=3
  .rw[ua1 h,kpn,kjz ps]
  .rw[ua0 h,kjz ps]
theorem kjz:∀(l:List Rx),kaE (kay l)=kaE l
 |[]=>by unfold kay;rfl
 |r::e7=>by unfold kay kaE;rw[Rx.mch r,kjz e7]
end
theorem ktH {l:List Rx} (h:kar l):kar l.reverse:=by
 induction l with
 |nil=>exact h
 |cons r l bQ=>unfold kar at h;rw[uq3];exact kgY (bQ h.2) (by unfold kar kar;exact ⟨h.1,trivial⟩)
theorem kzY {l:List Rx} (h:kap l):kap l.reverse:=by
 induction l with
 |nil=>exact h
 |cons r l bQ=>unfold kap at h;rw[uq3];exact khp (bQ h.2) (kf9 h.1)
mutual
theorem Rx.mb6:∀ {r:Rx},r.mat→r.rev.mat
 | .node k aT aU aX a2 lo hi ps,h=>by
  unfold Rx.mat at h;unfold Rx.rev Rx.mat;refine ⟨h.1,h.2.1,h.2.2.1,h.2.2.2.1,h.2.2.2.2.1,h.2.2.2.2.2.1,h.2.2.2.2.2.2.1,h.2.2.2.2.2.2.2.1,h.2.2.2.2.2.2.2.2.1,?_⟩;have:=kob h.2.2.2.2.2.2.2.2.2;by_cases av:k=3
  .rw[ua1 av];exact ktH this
  .rw[ua0 av];exact this
theorem kob:∀ {l:List Rx},kar l→kar (kay l)
 |[],h=>by unfold kay;exact h
 |r::e7,h=>by unfold kar at h;unfold kay kar;exact ⟨Rx.mb6 h.1,kob h.2⟩
end
def kyn (k:Nat) (ps:List Rx):(if k=3 then (kay ps).reverse else kay ps).length=ps.length:=by
 by_cases h:k=3
 .rw[ua1 h,List.length_reverse,kfJ]
 .rw[ua0 h,kfJ]
mutual
theorem Rx.mcg:∀ {r:Rx},r.fmd→r.rev.fmd
 | .node k aT aU aX a2 lo hi ps,h=>by
  unfold Rx.fmd at h;unfold Rx.rev Rx.fmd;rw[kyn];refine ⟨h.1,?_⟩;have:=krr h.2;by_cases av:k=3
  .rw[ua1 av];exact kzY this
  .rw[ua0 av];exact this
theorem krr:∀ {l:List Rx},kap l→kap (kay l)
 |[],h=>by unfold kay;exact h
 |r::e7,h=>by unfold kap at h;unfold kay kap;exact ⟨Rx.mcg h.1,krr h.2⟩
end
def kfO {a b:List Bool} (h:b.length=a.length):(Rg.orB a b).length=a.length:=by unfold Rg.orB;rw[us0,h];omega
theorem kfP:∀(a:List Bool),Rg.orB (List.replicate a.length J) a=a
 |[]=>rfl
 |x::a=>by show (J||x)::Rg.orB (List.replicate a.length J) a=x::a;rw[kfP a];rfl
def kcp:List Bool→Nat
 |[]=>0
 |x::r=>(if x then 0 else 1)+kcp r
theorem krw:∀(l:List Bool),kcp l≤l.length
 |[]=>nR
 |x::r=>by have:=krw r;rw[kcp,uc8];split <;> omega
theorem krv:∀ {o a:List Bool},a.length=o.length→kcp (Rg.orB o a)≤kcp o∧(Rg.orB o a≠o→kcp (Rg.orB o a)<kcp o)
 |[],[],_=>⟨nR,fun h=>absurd rfl h⟩
 |x::o,aC::a,h=>by
  have bQ:=krv (o:=o) (a:=a) (by simpa using h);show kcp ((x||aC)::Rg.orB o a)≤kcp (x::o)∧((x||aC)::Rg.orB o a≠x::o→kcp ((x||aC)::Rg.orB o a)<kcp (x::o));rw[kcp,kcp]
  cases x with
  |true=>simp only[ut7,if_true,ud3];exact ⟨bQ.1,fun ch=>bQ.2 (fun e=>ch (by rw[e]))⟩
  |false=>
   cases aC with
   |true=>simp only[Bool.or_true,if_true,ud3,us6,if_false];exact ⟨oM,fun _=>by omega⟩
   |false=>simp only[uq7,us6,if_false];exact ⟨oM,fun ch=>by have:=bQ.2 (fun e=>ch (by rw[e]));omega⟩
theorem kjo {E:List Bool→List Bool} {n:Nat} (ce:∀ a,a.length=n→(E a).length=n):∀(k:Nat) (a:List Bool),a.length=n→(Rg.rep E k a).length=n
 |0,_,h=>h
 |k+1,a,h=>kjo ce k _ (ce a h)
theorem kqI {E:List Bool→List Bool} {n:Nat} (ce:∀ a,a.length=n→(E a).length=n):∀(k:Nat) (a o:List Bool),a.length=n→o.length=n→(Rg.grow E k a o).length=n
 |0,_,_,_,h=>h
 |k+1,a,o,aE,bf=>by
  rw[Rg.grow];split
  .exact bf
  .exact kqI ce k _ _ (ce a aE) (by rw[kfO (by rw[ce a aE,bf])];exact bf)
theorem kkw {β:Type} {E:List Bool→β→List Bool} {n:Nat} (ce:∀ a x,a.length=n→(E a x).length=n):∀(l:List β) (a:List Bool),a.length=n→(l.foldl E a).length=n
 |[],_,h=>h
 |x::l,a,h=>kkw ce l _ (ce a x h)
theorem kgb:∀(n:Nat) (r:Rx) (t:List UInt8) (f:List Bool),f.length=t.length+1→(Rg.mar n r t f).length=t.length+1
 |0,_,_,_,h=>h
 |n+1, .node k aT aU aX a2 lo hi ps,t,f,h=>by
  have bQ:=kgb n;unfold Rg.mar;split
  .exact h
  split
  .unfold Rg.step2;rw[uc8,us0,h];omega
  split
  .exact kkw (fun a x aE=>bQ x t a aE) ps f h
  split
  .exact kkw (fun a x aE=>by rw[kfO (by rw[bQ x t f h,aE])];exact aE) ps _ (by rw[uj9];exact h)
  .exact kqI (fun a aE=>bQ _ t a aE) _ _ _ (kjo (fun a aE=>bQ _ t a aE) _ _ h) (kjo (fun a aE=>bQ _ t a aE) _ _ h)
theorem kj1:∀(l:List Bool) (i:Nat) (b:Int),b<i→ -1≤b→ -1≤Rg.mbo i l b∧Rg.mbo i l b<(i:Int)+l.length∨Rg.mbo i l b=b
 |[],i,b,h,_=> .inr rfl
 |x::l,i,b,h,af=>by
  rw[Rg.mbo]
  cases x with
  |true=>have:=kj1 l (i+1) (i:Int) oM oM;rw[ua1 rfl];rw[uc8];omega
  |false=>have:=kj1 l (i+1) b oM af;rw[ua0 dC];rw[uc8];omega
def kri (r:Rx) (t:List UInt8) (p:Nat) (aO:p≤t.length):(Rg.fromV r t p).length=t.length-p+1:=by unfold Rg.fromV;rw[kgb _ _ _ _ (by rw[uc8,uj9,ud9]),ud9]
def kjT (r:Rx) (t:List UInt8) (p:Nat) (aO:p≤t.length): -1≤Rg.mbt r t p∧Rg.mbt r t p≤(t.length:Int)-p:=by unfold Rg.mbt;have:=kj1 (Rg.fromV r t p) 0 (-1) oM oM;rw[kri r t p aO] at this;omega
theorem kyd {l:List Bool} {k:Nat} {x:Bool} (h:l[k]? =N x):Rg.mbo 0 (l.take (k+1)) (-1)=if x then (k:Int) else Rg.mbo 0 (l.take k) (-1):=by
 have key:∀(l:List Bool) (i k:Nat) (x:Bool) (b:Int),l[k]? =N x→Rg.mbo i (l.take (k+1)) b=if x then ((i+k:Nat):Int) else Rg.mbo i (l.take k) b:=by
  intro l
  induction l with
  |nil=>intro i k x b h;simp at h
  |cons aC l bQ=>
   intro i k x b h
   cases k with
   |zero=>simp only[gB,ug0] at h;subst h;simp[Rg.mbo]
   |succ k=>rw[gC] at h;rw[uk7,Rg.mbo,bQ _ _ _ _ h,uk7,Rg.mbo];congr 2;omega
 have:=key l 0 k x (-1) h;rw[ud3] at this;exact this
def Rg.Ch.ok (c:Rg.Ch):Prop:=c.F.length=c.S.length
def kxG (c:Rg.Ch) (a b:Nat):(Rg.link c a b).S=c.S:=rfl
def kjU (c:Rg.Ch) (a b:Nat):(Rg.link c a b).F.length=c.F.length:=by unfold Rg.link;simp
def kfZ {c:Rg.Ch} (h:c.ok) (a b:Nat):(Rg.link c a b).ok:=by unfold Rg.Ch.ok;rw[kjU,kxG];exact h
def Lays (bl:Rg.Ch→Rg.Pt×Rg.Ch) (n:Nat):Prop:=∀ c,c.ok→(bl c).2.ok∧(bl c).2.S.length=c.S.length+n
def kqe {bl:Rg.Ch→Rg.Pt×Rg.Ch} {n:Nat} (h:Lays bl n) (s:Rg.Pt×Rg.Ch) (al:s.2.ok):(Rg.onP bl s).2.ok∧(Rg.onP bl s).2.S.length=s.2.S.length+n:=by have:=h _ al;exact ⟨kfZ this.1 _ _,this.2⟩
def kx9 {bl:Rg.Ch→Rg.Pt×Rg.Ch} {n:Nat} (h:Lays bl n) (s:Rg.Pt×Rg.Ch) (al:s.2.ok):(Rg.orP bl s).2.ok∧(Rg.orP bl s).2.S.length=s.2.S.length+n:=h _ al
theorem kqd {bl:Rg.Ch→Rg.Pt×Rg.Ch} {n:Nat} (h:Lays bl n):∀(k:Nat) (s:Rg.Pt×Rg.Ch),s.2.ok→(Rg.rep (Rg.onP bl) k s).2.ok∧(Rg.rep (Rg.onP bl) k s).2.S.length=s.2.S.length+n*k
 |0,s,al=>⟨al,by rw[Nat.mul_zero];rfl⟩
 |k+1,s,al=>by have af:=kqe h s al;have ao:=kqd h k _ af.1;refine ⟨ao.1,?_⟩;show (Rg.rep (Rg.onP bl) k (Rg.onP bl s)).2.S.length=_;rw[ao.2,af.2,uo7];omega
theorem kjY {bl:Rg.Ch→Rg.Pt×Rg.Ch} {n:Nat} (h:Lays bl n):∀(k:Nat) (c:Rg.Ch),c.ok→(Rg.maW bl k c).2.ok∧(Rg.maW bl k c).2.S.length=c.S.length+n*k∧(Rg.maW bl k c).1.length=k
 |0,c,an=>⟨an,by rw[Nat.mul_zero];rfl,rfl⟩
 |k+1,c,an=>by
  have af:=kjY h k c an;have ao:=h _ af.1;refine ⟨ao.1,?_,?_⟩
  .show (bl (Rg.maW bl k c).2).2.S.length=_;rw[ao.2,af.2.1,uo7];omega
  .show ((Rg.maW bl k c).1++[_]).length=_;rw[ua6,af.2.2];rfl
theorem kqf (lo:Int) (ps:List Rg.Pt):∀(k:Nat) (s:Rg.Pt×Rg.Ch),s.2.ok→(Rg.mbe lo ps k s).2.ok∧(Rg.mbe lo ps k s).2.S.length=s.2.S.length
 |0,s,al=>⟨al,rfl⟩
 |k+1,s,al=>by rw[Rg.mbe];have:=kqf lo ps k (((Rg.mbb (ps.getD k (J,0,0)) s.1).1||decide (lo≤(k:Int)),(Rg.mbb (ps.getD k (J,0,0)) s.1).2),Rg.mbk s.2 (ps.getD k (J,0,0)) s.1) (kfZ al _ _);exact this
theorem kjZ {G:Rx→Rg.Pt×Rg.Ch→Rg.Pt×Rg.Ch} :∀(ps:List Rx) (_:∀ p∈ps,∀ s:Rg.Pt×Rg.Ch,s.2.ok→(G p s).2.ok∧(G p s).2.S.length=s.2.S.length+p.pos) (s:Rg.Pt×Rg.Ch),s.2.ok→
 (ps.foldl (fun s p=>G p s) s).2.ok∧(ps.foldl (fun s p=>G p s) s).2.S.length=s.2.S.length+kaE ps
 |[],_,s,al=>⟨al,by rw[kaE];rfl⟩
 |p::ps,h,s,al=>by have af:=h p (uf3 ..) s al;have ao:=kjZ ps (fun q bj=>h q (uf6 _ bj)) _ af.1;rw[uj8];refine ⟨ao.1,?_⟩;rw[ao.2,af.2,kaE];omega
theorem ki8 {p:Rx} :∀ {ps:List Rx},p∈ps→p.size≤kam ps
 |[],h=>by cases h
 |q::ps,h=>by
  rw[kam];rcases uc7.1 h with h|h
  .rw[h];omega
  .have:=ki8 h;omega
theorem kkx {p:Rx} :∀ {ps:List Rx},kap ps→p∈ps→p.fmd
 |[],_,h=>by cases h
 |q::ps,b5,h=>by
  unfold kap at b5;rcases uc7.1 h with h|h
  .rw[h];exact b5.1
  .exact kkx b5.2 h
theorem keS:∀(n:Nat) (r:Rx),r.size≤n→r.fmd→Lays (Rg.mak n r) r.pos
 |0,r,ax,_=>by have:=r.size_pos;omega
 |n+1, .node k aT aU aX a2 lo hi ps,ax,b5=>by
  have bQ:=keS n;intro c an;unfold Rx.size at ax;unfold Rx.fmd at b5;obtain ⟨aw,eE⟩:=b5;unfold Rg.mak;rcases aw with ⟨rfl, -,rfl,rfl,az⟩|⟨rfl,rfl,rfl,az⟩|⟨rfl, -,rfl,rfl,az⟩|⟨rfl, -,rfl,rfl,az⟩|⟨rfl, -,az,aD,af,ao⟩
  .simp only[Nat.reduceEqDiff,if_false,ite_false,Nat.one_ne_zero];have:ps=[]:=uq2.1 az;subst this;refine ⟨an,?_⟩;unfold Rx.pos kaz kaM kaE;rfl
  .have:ps=[]:=uq2.1 az;subst this;rw[ua1 rfl];refine ⟨?_,?_⟩
   .unfold Rg.Ch.ok at*;dsimp only;rw[ua6,ua6,an];rfl
   .dsimp only;rw[ua6];unfold Rx.pos kaz kaM kaE;rfl
  .rw[ua0 dC,ua1 rfl];have:=kjZ (G:=fun p s=>Rg.onP (Rg.mak n p) s) ps (fun p aO s al=>kqe (bQ p (by have:=ki8 aO;omega) (kkx eE aO)) s al) (Rg.unit,c) an;refine ⟨this.1,?_⟩;rw[this.2];unfold Rx.pos kaz kaM;simp
  .rw[ua0 dC,ua0 dC,ua1 rfl];have:=kjZ (G:=fun p s=>Rg.orP (Rg.mak n p) s) ps (fun p aO s al=>kx9 (bQ p (by have:=ki8 aO;omega) (kkx eE aO)) s al) ((J,0,0),c) an;refine ⟨this.1,?_⟩;rw[this.2];unfold Rx.pos kaz kaM;simp
  .rw[ua0 dC,ua0 dC,ua0 dC,ua1 rfl];obtain ⟨x,rfl⟩:∃ x,ps=[x]:=um5.1 az;have aA:Rg.hd [x]=x:=rfl;rw[aA];rw[kcc] at ax;unfold kap at eE;have cR:=bQ x oM eE.1;have aO:(Rx.node 5 aT aU aX a2 lo hi [x]).pos=x.pos*kaY lo hi:=(by rw[Rx.pos,kaE,kaE];unfold kaz kaM;simp);rw[aO];by_cases dq:hi<0
   .rw[ua1 dq];dsimp only;obtain rfl:hi= -1:=oM;have av:=kqd cR (lo.toNat-1) (Rg.unit,c) an;have bk:=cR _ av.1;refine ⟨kfZ (kfZ bk.1 _ _) _ _,?_⟩;show (Rg.mak n x (Rg.rep (Rg.onP (Rg.mak n x)) (lo.toNat-1) (Rg.unit,c)).2).2.S.length=_;rw[bk.2,av.2];unfold kaY;rw[ua1 rfl,show max lo.toNat 1=lo.toNat-1+1 by omega,uo7];dsimp only;omega
   .rw[ua0 dq];have av:=kjY cR hi.toNat c an;have bk:=kqf lo (Rg.maW (Rg.mak n x) hi.toNat c).1 hi.toNat (Rg.unit,(Rg.maW (Rg.mak n x) hi.toNat c).2) av.1;refine ⟨bk.1,?_⟩;rw[bk.2,av.2.1];unfold kaY;rw[ua0 oM]
def kgw (h:P:=by go_wp2_with fail;go_ret;exact ⟨by rw[a1.o];rfl,bo.o⟩):=h
def klP (h:P:=by
 go_wp2_with fail;go_roundg f
 case measure=>omega
 case rel=>exact ⟨k+1,m,by go_num,oM,oM,yu,hD (aV.o.setCell (p:=⟨w,k,Z⟩) (nR) _)⟩):=h
def kh2 (h:P:=by unfold RxVs RxVs at dU;obtain ⟨AT,qW,rfl,af,rfl⟩:=dU;rw[ug2];exact af):=h
def klH (h:P:=by rw[ur3 _ _ (by rw[ub8];omega),ub8,uf7 oM,uo8,us2,gF,ue0,h];simp):=h
def klG (h:P:=by
 go_wp2_with fail;go_quiet (fail);go_wp2_with fail;go_roundg f
 case measure=>omega
 case rel=>exact ⟨k+1,by go_num,oM,oM,hx,hD (kgg aV.o _)⟩):=h
def klC (h:P:=by rw[uf4 (by rw[ub8];omega),ub8,eg.o,uf7 oM,uo8,us2];rfl):=h
def kla (h:P:=by go_wp2_with fail;go_quiet (fail);go_wp2_with fail;go_ret;exact ⟨by rw[bF.o];rfl,kgg aV.o _⟩):=h
def kfs (h:P:=by
 refine tk 0 ay ?_;refine tk 1 ay ?_;refine tk 2 ay ?_;refine tk 3 ay ?_;refine tk 4 ay ?_;refine tk 5 ay ?_;refine tk 6 ay ?_;refine tk 7 ay ?_
 first
 |guard_hyp S9;refine tkO 8 (fun aR aJ=>?_);go_simp;refine aJ.out _ _ ay ?_;clear aJ aR;(try simp only[Act.put,ub4,ua8,ua9,gE,gF,gG]);refine tk 9 ay ?_;first|guard_hyp Tc;refine tk 10 ay ?_;refine tk 11 ay ?_;refine tk 12 ay ?_;refine tk 13 ay ?_;refine tk 14 ay ?_;refine tk 15 ay ?_;refine tk 16 ay ?_;refine tk 17 ay ?_;refine tkO 18 (fun aR aJ=>?_);go_simp;refine aJ.out _ _ ay ?_;clear aJ aR;(try simp only[Act.put,ub4,ua8,ua9,gE,gF,gG]);refine tk 19 ay ?_;refine tk 20 ay ?_;refine tk 21 ay ?_;refine tk 22 ay ?_;refine tk 23 ay ?_;refine tk 24 ay ?_;refine tk 25 ay ?_;refine tk 26 ay ?_;refine tk 27 ay ?_;refine tk 28 ay ?_;refine tkO 29 (fun aR aJ=>?_);go_simp;refine aJ.out _ _ ay ?_;clear aJ aR;(try simp only[Act.put,ub4,ua8,ua9,gE,gF,gG]);refine tk 30 ay ?_;refine tkO 31 (fun aR aJ=>?_);go_simp;refine aJ.out _ _ ay ?_;clear aJ aR;(try simp only[Act.put,ub4,ua8,ua9,gE,gF,gG]);refine ug7 kR ?_ _;refine uf0 ?_;(try simp only[Act.put,ub4,ua8,ua9,gE,gF,gG]);have l7:=hD (dv.o.drew);have qF:=hD a7.o.drew;obtain ⟨hE,ka⟩:=xE aq.drew;have Kk:w.heap.size<hE.heap.size:=(by rw[ka];exact jb);rw[←ka] at l7 qF ⊢;(first|guard_hyp GW;have a8:=hD (fv.o (!es) hE)|have a8:=hD (fv.o es hE));clear ka fv ay;go_wp2_with fail;refine a8.o.mono ?_;rintro cG c7 ⟨ck,j3,rfl,cF⟩;obtain ⟨cy,cv,cr,t9,ci,bX,c9,dM,ff,rfl⟩:=cF.form;have dm:=l7.o.below ck l7.o.lt;have Fs:=();exact kbp|guard_hyp Td;refine tk 10 ay ?_;refine tk 11 ay ?_;refine tk 12 ay ?_;refine tk 13 ay ?_;refine tk 14 ay ?_;refine tk 15 ay ?_;refine tk 16 ay ?_;refine tk 17 ay ?_;refine tkO 18 (fun aR aJ=>?_);go_simp;refine aJ.out _ _ ay ?_;clear aJ aR;(try simp only[Act.put,ub4,ua8,ua9,gE,gF,gG]);refine tk 19 ay ?_;refine tk 20 ay ?_;refine ts 21 ay ?_;refine ts 22 ay ?_;refine ts 23 ay ?_;refine ts 24 ay ?_;refine ts 25 ay ?_;refine ts 26 ay ?_;refine ts 27 ay ?_;refine ts 28 ay ?_;refine ts 29 ay ?_;refine tk 30 ay ?_;refine tkO 31 (fun aR aJ=>?_);go_simp;refine aJ.out _ _ ay ?_;clear aJ aR;(try simp only[Act.put,ub4,ua8,ua9,gE,gF,gG]);refine ug7 kR ?_ _;refine uf0 ?_;(try simp only[Act.put,ub4,ua8,ua9,gE,gF,gG]);have l7:=hD (dv.o.drew);have qF:=hD a7.o.drew;obtain ⟨hE,ka⟩:=xE aq.drew;have Kk:w.heap.size<hE.heap.size:=(by rw[ka];exact jb);rw[←ka] at l7 qF ⊢;(first|guard_hyp GW;have a8:=hD (fv.o (!J) hE)|have a8:=hD (fv.o J hE));clear ka fv ay;go_wp2_with fail;refine a8.o.mono ?_;rintro cG c7 ⟨ck,j3,rfl,cF⟩;obtain ⟨cy,cv,cr,t9,ci,bX,c9,dM,ff,rfl⟩:=cF.form;have dm:=l7.o.below ck l7.o.lt;have Fs:=();exact kbp|refine ts 10 ay ?_;refine ts 11 ay ?_;refine ts 12 ay ?_;refine ts 13 ay ?_;refine ts 14 ay ?_;refine ts 15 ay ?_;refine ts 16 ay ?_;refine ts 17 ay ?_;refine ts 18 ay ?_;refine tk 19 ay ?_;refine tk 20 ay ?_;refine ts 21 ay ?_;refine ts 22 ay ?_;refine ts 23 ay ?_;refine ts 24 ay ?_;refine ts 25 ay ?_;refine ts 26 ay ?_;refine ts 27 ay ?_;refine ts 28 ay ?_;refine ts 29 ay ?_;refine tk 30 ay ?_;refine tkO 31 (fun aR aJ=>?_);go_simp;refine aJ.out _ _ ay ?_;clear aJ aR;(try simp only[Act.put,ub4,ua8,ua9,gE,gF,gG]);refine ug7 kR ?_ _;refine uf0 ?_;(try simp only[Act.put,ub4,ua8,ua9,gE,gF,gG]);have l7:=hD (dv.o.drew);have qF:=hD a7.o.drew;obtain ⟨hE,ka⟩:=xE aq.drew;have Kk:w.heap.size<hE.heap.size:=(by rw[ka];exact jb);rw[←ka] at l7 qF ⊢;(first|guard_hyp GW;have a8:=hD (fv.o (!J) hE)|have a8:=hD (fv.o J hE));clear ka fv ay;go_wp2_with fail;refine a8.o.mono ?_;rintro cG c7 ⟨ck,j3,rfl,cF⟩;obtain ⟨cy,cv,cr,t9,ci,bX,c9,dM,ff,rfl⟩:=cF.form;have dm:=l7.o.below ck l7.o.lt;have Fs:=();exact kbp
 |guard_hyp Ta;refine tkO 8 (fun aR aJ=>?_);go_simp;refine aJ.out _ _ ay ?_;clear aJ aR;(try simp only[Act.put,ub4,ua8,ua9,gE,gF,gG]);refine tk 9 ay ?_;first|guard_hyp S8;(first|guard_hyp t2;refine tk 10 ay ?_;refine tk 11 ay ?_;refine tk 12 ay ?_;refine tk 13 ay ?_;refine tk 14 ay ?_;refine tk 15 ay ?_;refine tk 16 ay ?_;refine tk 17 ay ?_;refine tkO 18 (fun aR aJ=>?_);go_simp;refine aJ.out _ _ ay ?_;clear aJ aR;(try simp only[Act.put,ub4,ua8,ua9,gE,gF,gG])|refine ts 10 ay ?_;refine ts 11 ay ?_;refine ts 12 ay ?_;refine ts 13 ay ?_;refine ts 14 ay ?_;refine ts 15 ay ?_;refine ts 16 ay ?_;refine ts 17 ay ?_;refine ts 18 ay ?_);refine tk 19 ay ?_;refine tkO 20 (fun aR aJ=>?_);go_simp;go_at_call 127;refine (a8.o _).mono ?_;rintro cG c7 ⟨ck,j3,rfl,cF⟩;obtain ⟨cy,cv,cr,t9,ci,bX,c9,dM,ff,rfl⟩:=cF.form;have dG:H aq aq c7:=(ub5 _ aq).drew.trans ck;have dm:=dv.o.below dG dv.o.lt;have Kl:=();exact kbp|(first|guard_hyp t2;refine ts 10 ay ?_;refine ts 11 ay ?_;refine ts 12 ay ?_;refine ts 13 ay ?_;refine ts 14 ay ?_;refine ts 15 ay ?_;refine ts 16 ay ?_;refine ts 17 ay ?_;refine ts 18 ay ?_|refine tk 10 ay ?_;refine tk 11 ay ?_;refine tk 12 ay ?_;refine tk 13 ay ?_;refine tk 14 ay ?_;refine tk 15 ay ?_;refine tk 16 ay ?_;refine tk 17 ay ?_;refine tkO 18 (fun aR aJ=>?_);go_simp;refine aJ.out _ _ ay ?_;clear aJ aR;(try simp only[Act.put,ub4,ua8,ua9,gE,gF,gG]));refine tk 19 ay ?_;refine tkO 20 (fun aR aJ=>?_);go_simp;go_at_call 127;refine (a8.o _).mono ?_;rintro cG c7 ⟨ck,j3,rfl,cF⟩;obtain ⟨cy,cv,cr,t9,ci,bX,c9,dM,ff,rfl⟩:=cF.form;have dG:H aq aq c7:=(ub5 _ aq).drew.trans ck;have dm:=dv.o.below dG dv.o.lt;have Kl:=();exact kbp
 |guard_hyp Tk;refine tk 8 ay ?_;(first|guard_hyp la;refine tk 9 ay ?_;refine tk 10 ay ?_;refine tk 11 ay ?_;refine tk 12 ay ?_;refine tk 13 ay ?_;refine tk 14 ay ?_;refine tk 15 ay ?_;refine tk 16 ay ?_;refine tk 17 ay ?_;refine tk 18 ay ?_;refine tk 19 ay ?_;refine tk 20 ay ?_;refine tk 21 ay ?_;refine tk 22 ay ?_;refine tk 23 ay ?_;refine tk 24 ay ?_;refine tkO 25 (fun aR aJ=>?_);go_simp;refine aJ.out _ _ ay ?_;clear aJ aR;(try simp only[Act.put,ub4,ua8,ua9,gE,gF,gG]);refine tkO 26 (fun aR aJ=>?_)|guard_hyp ns;refine tk 9 ay ?_;refine tk 10 ay ?_;refine tk 11 ay ?_;refine tk 12 ay ?_;refine tkO 13 (fun aR aJ=>?_);go_simp;refine aJ.out _ _ ay ?_;clear aJ aR;(try simp only[Act.put,ub4,ua8,ua9,gE,gF,gG]);refine tkO 14 (fun aR aJ=>?_)|refine tkO 9 (fun aR aJ=>?_));go_simp;(first|guard_hyp xC;have Z8:bm.drew.heap.size=bm.heap.size:=rfl;have q1:H bm bm ((bm.alloc (y #[I .i64 df,I U bD] 91)).drew):=((ub5 _ bm).alloc (nR) _).drew;have ki:=hD ((Blk.new bm 91 #[I .i64 df,I U bD]).drew);obtain ⟨du,hp⟩:=xE ((bm.alloc (y #[I .i64 df,I U bD] 91)).drew);have Z9:du.heap.size=bm.heap.size+1:=(by rw[hp];simp);rw[←hp] at q1 ki ⊢;have f1:=bT cN q1;have kj:=hD (jq.o.below q1 jq.o.lt);have Si:=(b7.o du f1.o).2;have nA:SpV du (fun i=>bm.heap.size≤i) (N ⟨bm,0,Z⟩) [(df,bD)]:=⟨rfl,fun _=>⟨bm.heap.size,0,rfl,nR,oM,fun j u aI=>by rw[ud3,ki.o.cell];simpa[sgC] using aI⟩⟩;have a8:=hD (kdQ (N ⟨bm,0,Z⟩) [(df,bD)] 1 (nR) _ du nA);rw[←bK] at a8;clear hp q1 nA bK ki;refine aJ.out _ _ Si ?_|refine aJ.out _ _ ay ?_);clear aJ aR;(first|guard_hyp la;(try simp only[Act.put,ub4,ua8,ua9,gE,gF,gG]);refine tkO 27 (fun aR aJ=>?_)|guard_hyp ns;(try simp only[Act.put,ub4,ua8,ua9,gE,gF,gG]);refine tkO 15 (fun aR aJ=>?_)|(try simp only[Act.put,gE,gF,gG]);refine tkO 10 (fun aR aJ=>?_));go_simp;(first|guard_hyp xC;go_at_call 128;refine a8.o.mono ?_|go_at_call 80;refine (a8.o _).mono ?_);rintro cG c7 ⟨ck,j3,rfl,cF⟩;obtain ⟨cy,cv,cr,t9,ci,bX,c9,dM,ff,rfl⟩:=cF.form;(first|guard_hyp xC;have dm:=kj.o.below ck kj.o.lt|have dG:H bm bm c7:=(ub5 _ bm).drew.trans ck;have dm:=jq.o.below dG jq.o.lt);have Sj:=();exact kbp
 |guard_hyp To;refine tk 8 ay ?_;refine tk 9 ay ?_;refine tk 10 ay ?_;refine tk 11 ay ?_;refine tk 12 ay ?_;(first|guard_hyp nt;refine tk 13 ay ?_;refine tk 14 ay ?_;refine tk 15 ay ?_;refine tk 16 ay ?_;refine tk 17 ay ?_;refine tk 18 ay ?_;refine tk 19 ay ?_;refine tk 20 ay ?_;refine tk 21 ay ?_;refine tk 22 ay ?_;refine tk 23 ay ?_;refine tk 24 ay ?_;refine tkO 25 (fun aR aJ=>?_);go_simp;refine aJ.out _ _ ay ?_;clear aJ aR;(try simp only[Act.put,ub4,ua8,ua9,gE,gF,gG]);refine tkO 26 (fun aR aJ=>?_)|guard_hyp nu;refine tkO 13 (fun aR aJ=>?_);go_simp;refine aJ.out _ _ ay ?_;clear aJ aR;(try simp only[Act.put,ub4,ua8,ua9,gE,gF,gG]);refine tkO 14 (fun aR aJ=>?_)|refine tkO 13 (fun aR aJ=>?_));go_simp;(first|guard_hyp L2;go_at_call 166;refine (rt.o).mono ?_;rintro cG bm ⟨cQ,fs,c5,rfl,vJ,Au⟩;have dG:H aq aq bm:=(ub5 _ aq).drew.trans cQ;have cN:=bT a7 dG;have jq:=hD (dv.o.below dG dv.o.lt);have iF:=(b7.o bm cN.o).2;have zI:w.heap.size<bm.heap.size:=(by have:=dG.size;omega);have ks:=hD vJ;have Cw:=hD (SpV.keep (G:=fun i=>aq.heap.size≤i) Au (fun _ _ _=>rfl) (nR) (fun i hi _=>hi));clear cQ dG vJ Au;refine aJ.out _ _ iF ?_|refine aJ.out _ _ ay ?_);clear aJ aR;(try simp only[Act.put,ub4,ua8,ua9,gE,gF,gG]);(first|guard_hyp nt;refine tkO 27 (fun aR aJ=>?_)|guard_hyp nu;refine tkO 15 (fun aR aJ=>?_)|refine tkO 14 (fun aR aJ=>?_));go_simp;(first|guard_hyp nt;go_at_call 80;refine (a8.o _).mono ?_|guard_hyp nu;go_at_call 128;refine (a8.o).mono ?_|go_at_call 128;refine ((kdQ fs bl c5 ks.o _ bm Cw.o)).mono ?_);rintro cG c7 ⟨ck,j3,rfl,cF⟩;obtain ⟨cy,cv,cr,t9,ci,bX,c9,dM,ff,rfl⟩:=cF.form;(first|guard_hyp nt;have dG:H aK aK c7:=(ub5 _ aK).drew.trans ck;have dm:=ih.o.below dG ih.o.lt|guard_hyp nu;have dG:H aq aq c7:=(ub5 _ aq).drew.trans ck;have dm:=dv.o.below dG dv.o.lt|have dG:H bm bm c7:=ck;have dm:=jq.o.below dG jq.o.lt);have Sk:=();exact kbp
 |first
  |guard_hyp SD
   first
   |guard_hyp Ss;refine ts 8 ay ?_;refine ts 9 ay ?_;refine ts 10 ay ?_;refine ts 11 ay ?_;refine ts 12 ay ?_;refine ts 13 ay ?_;refine tk 14 ay ?_;refine tk 15 ay ?_;refine tkO 16 (fun aR aJ=>?_);go_simp;have e8:=Blk.far a1.o (p:=⟨w.heap.size+1,k+1,Z⟩) (show w.heap.size≠w.heap.size+1 by omega) (V J);have vj:=Blk.far fh.o (p:=⟨w.heap.size+1,k+1,Z⟩) (show g≠w.heap.size+1 by omega) (V J);have mE:=Blk.mac c1.o (k+1) (V J);rw[khI,koI (show (Rg.step2 (aT,aU,aX,a2) t f)[k+1]? =N J from gv.o)] at mE;obtain ⟨cX,kY,lW⟩:=hd3 e8 vj mE;have Ft:=And.intro ((vj.cell k).trans (kdg de.o)) (kpe e8);clear e8 vj mE;refine aJ.out _ _ Ft ?_;clear aJ aR;(try simp only[Act.put,gE,gF,gG]);refine ug7 kR ?_ _;refine uf0 ?_;(try simp only[Act.put,gE,gF,gG]);go_wp2_with fail;go_roundg f9
    case measure=>omega
    case rel=>exact ⟨k+1,m,by go_num,oM,oM,lW,cX,kY,hD ((aV.o.setCell (p:=⟨w.heap.size+1,k+1,Z⟩) (by show w.heap.size≤w.heap.size+1;omega) _)).drew⟩
   |guard_hyp Su;refine tk 8 ay ?_;refine tk 9 ay ?_;refine tk 10 ay ?_;refine tk 11 ay ?_;refine tk 12 ay ?_;refine tkO 13 (fun aR aJ=>?_);go_simp;go_at_call 161;refine (dh.o _ _).mono ?_;rintro e gU ⟨rfl,e0⟩;have nj:=hD (show H wr wr gU from ((ub5 _ wr).drew).trans e0);obtain ⟨tJ,ys,Fu⟩:=hd3 (a1.o.below nj.o a1.o.lt) (fh.o.below nj.o) (c1.o.below nj.o);have n7:=aV.o.size;obtain ⟨⟨⟨bi,aW⟩,bc,br⟩,⟨bL,d0⟩,d1,d2⟩:=tJ.o.cells;have Fv:gU.cell? ⟨g,k,Z⟩=N (V K)∧gU.cell? ⟨w,1,Z⟩=N (I Y aT)∧gU.cell? ⟨w,2,Z⟩=N (I Y aU)∧gU.cell? ⟨w,3,Z⟩=N (I Y aX)∧gU.cell? ⟨w,4,Z⟩=N (I Y a2):=⟨(nj.o.cell (p:=⟨g,k,Z⟩) (by show g<wr.heap.size;omega)).trans bY,aW,bc,br,bL⟩;have z4:=Fu.o.frozen (k+1);have z3:gU.cell? ⟨w.heap.size+1,k+1,Z⟩=N (V J):=(Fu.o.cell (k+1)).trans (kdg Sr.o);clear e0;refine aJ.out _ _ Fv ?_;clear aJ aR;(try simp only[Act.put,gE,gF,gG]);refine tk 14 Fv ?_;refine tk 15 Fv ?_;refine tkO 16 (fun aR aJ=>?_);go_simp;have e8:=Blk.far tJ.o (p:=⟨w.heap.size+1,k+1,Z⟩) (show w.heap.size≠w.heap.size+1 by omega) (V (Rg.has (aT,aU,aX,a2) b.toNat));have vj:=Blk.far ys.o (p:=⟨w.heap.size+1,k+1,Z⟩) (show g≠w.heap.size+1 by omega) (V (Rg.has (aT,aU,aX,a2) b.toNat));have mE:=Blk.mac Fu.o (k+1) (V (Rg.has (aT,aU,aX,a2) b.toNat));rw[khI,koI (show (Rg.step2 (aT,aU,aX,a2) t f)[k+1]? =N (Rg.has (aT,aU,aX,a2) b.toNat) from gv.o)] at mE;obtain ⟨cX,kY,lW⟩:=hd3 e8 vj mE;have Ft:=And.intro ((vj.cell k).trans (kdg de.o)) (kpe e8);clear e8 vj mE;refine aJ.out _ _ Ft ?_;clear aJ aR;(try simp only[Act.put,gE,gF,gG]);refine ug7 kR ?_ _;refine uf0 ?_;(try simp only[Act.put,gE,gF,gG]);go_wp2_with fail;go_roundg f9
    case measure=>omega
    case rel=>exact ⟨k+1,m,by go_num,oM,oM,lW,cX,kY,hD (((aV.o.trans (nj.o.mono aV.o.size)).setCell (p:=⟨w.heap.size+1,k+1,Z⟩) (by show w.heap.size≤w.heap.size+1;omega) _))⟩
   |guard_hyp TD;refine tk 8 ay ?_;refine tk 9 ay ?_;refine tkO 10 (fun aR aJ=>?_);go_simp;go_at_call 196;refine (Ae.o _).mono ?_;rintro cG aK ⟨rfl,bv⟩;have jT:H wr wr aK:=(ub5 _ wr).drew.trans bv;have cA:=bT aV jT;have h7:=hD (kaI dB.o jT);have rk:=And.intro ((cA.o.cell (p:=⟨fj,oa+k*2,Z⟩) e0).trans a0) (And.intro ((cA.o.cell (p:=⟨fj,oa+k*2+1,Z⟩) e0).trans aY) (And.intro ((cA.o.cell (p:=⟨i5,hV+j*2,Z⟩) eZ).trans dt) ((cA.o.cell (p:=⟨i5,hV+j*2+1,Z⟩) eZ).trans cL)));clear bv jT;refine aJ.out _ _ rk ?_;clear aJ aR;(try simp only[Act.put,gE,gF,gG]);refine ug7 kR ?_ _;refine uf0 ?_;(try simp only[Act.put,gE,gF,gG]);clear dB aV bi aW bw aL ay;obtain ⟨bi,aW, -, -⟩:=rk
    cases r with
    |false=>
     have jv:=GJ;clear GI GJ Ae dt cL;go_wp2_with fail;go_roundg jN
     case measure=>omega
     case rel=>exact ⟨j+1,by go_num,rfl,oM,oM,jv,h7,cA⟩
    |true=>have cg:=gv.o;rw[ua1 (GI.o rfl)] at cg;have hx:=hD cg.symm;have wH:w.heap.size≤aK.heap.size:=cA.o.size;have Sl:=();exact kmR
   |guard_hyp SV;refine tkO 8 (fun aR aJ=>?_);go_simp;go_at_call 162;refine qI.o.mono ?_;rintro cG dl ⟨e4,bI,rfl,fm,MN, -⟩;have fV:=(kbR (ub5 _ wr).drew (D c6 l.length mD).ownBlock).trans MN;have rp:=hD fm;have f2:=hD (aV.o.grown fV pX (fun j e=>i7.o j e));have qC:=And.intro ((f2.o.cell (p:=⟨cx,dp+k,Z⟩) dR).trans ((aV.o.cell (p:=⟨cx,dp+k,Z⟩) dR).symm.trans bu)) ((f2.o.cell (p:=⟨ry,1,Z⟩) Lj).trans ((aV.o.cell (p:=⟨ry,1,Z⟩) Lj).symm.trans d8));clear fm fV MN;refine aJ.out _ _ qC ?_;clear aJ aR;(try simp only[Act.put,gE,gF,gG]);refine tkO 9 (fun aR aJ=>?_);go_simp;refine aJ.out _ _ qC ?_;clear aJ aR;(try simp only[Act.put,gE,gF,gG]);refine ug7 kR ?_ _;refine uf0 ?_;(try simp only[Act.put,gE,gF,gG]);clear qC ay c1 aV qI i7 k8 bu d8;go_wp2_with fail;go_roundg f
    case measure=>omega
    case rel=>exact ⟨k+1,l',e4,bI,by go_num,rfl,oM,oM,oM,vA,tV,rp,f2⟩
   |refine tk 8 ay ?_;refine tk 9 ay ?_;refine tk 10 ay ?_;refine tkO 11 (fun aR aJ=>?_);go_simp;go_at_call 168;refine (pZ.o).mono ?_;rintro cG aK ⟨rfl,bv⟩;have jT:H wr wr aK:=(ub5 _ wr).drew.trans bv;have cA:=bT aV jT;have h7:=hD (kaI dB.o jT);have Cy:=hD (a7.o.trans (cA.o.mono a7.o.size));have rk:=And.intro (b7.o aK Cy.o).2.1 (And.intro (b7.o aK Cy.o).2.2 (And.intro ((Cy.o.cell (p:=⟨fj,oa+k*2,Z⟩) e0).trans a0) ((Cy.o.cell (p:=⟨fj,oa+k*2+1,Z⟩) e0).trans aY)));clear bv jT;refine aJ.out _ _ rk ?_;clear aJ aR;(try simp only[Act.put,gE,gF,gG]);refine tkO 12 (fun aR aJ=>?_);go_simp;refine aJ.out _ _ rk ?_;clear aJ aR;(try simp only[Act.put,gE,gF,gG]);refine ug7 kR ?_ _;refine uf0 ?_;(try simp only[Act.put,gE,gF,gG]);clear dB aV bi aW ay s0 s1 s2 ep;obtain ⟨s1,s2,bi,aW⟩:=rk
    cases r with
    |true=>
     have cg:=gv.o;rw[ua1 (ug4 a1.o.symm),ug2] at cg;have hx:=hD cg.symm;clear cg a1 gv;go_wp2_with fail;go_roundg f
     case measure=>omega
     case rel=>exact ⟨k+1,out,dF,eB,by go_num,rfl,oM,oM,oM,hx,h7,cA⟩
    |false=>have cg:=gv.o;rw[ua0 (uh9 a1.o.symm)] at cg;have hx:=hD cg.symm;have wH:aq.heap.size≤aK.heap.size:=cA.o.size;exact kmR
  |guard_hyp TE;refine tk 9 ay ?_;refine tk 10 ay ?_;refine tk 11 ay ?_;refine tkO 8 (fun aR aJ=>?_);go_simp;have xb:fj<hE.heap.size:=oM;have k4:=hD ((Blk.new hE 91 #[I .i64 dJ,I U eC]).drew);have ow:H hE hE ((hE.alloc (y #[I .i64 dJ,I U eC] 91)).drew):=((ub5 _ hE).alloc (nR) _).drew;obtain ⟨dl,hB⟩:=xE ((hE.alloc (y #[I .i64 dJ,I U eC] 91)).drew);have hw7s:dl.heap.size=hE.heap.size+1:=(by rw[hB];simp);rw[←hB] at k4 ow ⊢;have f2:=hD ow;have qC:=And.intro ((ow.cell (p:=⟨fj,oa+k*2,Z⟩) xb).trans aN) ((ow.cell (p:=⟨fj,oa+k*2+1,Z⟩) xb).trans aM);clear hB;refine aJ.out _ _ qC ?_;clear aJ aR;(try simp only[Act.put,gE,gF,gG]);refine tkO 12 (fun aR aJ=>?_);have B8:dl.ownsRow hE 91 2 (D (N ⟨hE,0,Z⟩) 1 1) 1 [I .i64 dJ,I U eC]:=⟨rfl, .inr ⟨hE.heap.size,1,#[I .i64 dJ,I U eC],rfl,nR,k4.o,nR,by unfold maxLen;omega,rfl,rfl⟩⟩;have Km:Reads dl hE 2 fs (out.length-j) (sgC (out.drop j)):=dQ.o.below f2.o;have cM:=dc.o;have hi0:=jP.o;have hi1:=jQ.o;have hi2:=jR.o;refine kfE _ rfl (.tmp 51) (.tmp 54) 38 rfl hE 91 eX (aa #[I .i64 0,I U 0]) 2 16 underlying38 cM hi0 hi1 hi2 rfl dC (D (N ⟨hE,0,Z⟩) 1 1) 1 [I .i64 dJ,I U eC] rfl B8 _ _ _ _ (sgC (out.drop j)) rfl Km (kg5 _) (by unfold maxLen;omega) oM oM ?_;intro MO gx ud ph HB;obtain ⟨nl,sf,rfl⟩:=kaA ud;have l4:=hD (f2.o.grown ph f2.o.size (fun j e=>by have bJ:N hE.heap.size=N j:=e;injection bJ with bJ;omega));have Kn:=And.intro ((l4.o.cell (p:=⟨fj,oa+k*2,Z⟩) xb).trans aN) ((l4.o.cell (p:=⟨fj,oa+k*2+1,Z⟩) xb).trans aM);have Ko:=hD ud;clear B8 Km cM hi0 hi1 hi2 ud ph HB;refine aJ.out _ _ Kn ?_;clear aJ aR;(try simp only[Act.put,gE,gF,gG]);refine tkO 13 (fun aR aJ=>?_);have y9:Reads gx hE 2 gS j (sgC (out.take j)):=da.o.below l4.o;obtain ⟨c9,c7,mN,pc,ck,jn,qG⟩:=kCz gx 38 (c9:=sf) y9 (Reads.mb2 Ko.o) oM oM;rw[←h7.o] at mN;have ho:=bT l4 ck;have fq:=And.intro ((ho.o.cell (p:=⟨fj,oa+k*2,Z⟩) xb).trans aN) ((ho.o.cell (p:=⟨fj,oa+k*2+1,Z⟩) xb).trans aM);have Fw:(out.take j++(dJ,eC)::out.drop j).length=out.length+1:=(by rw[ua6,uc8,ub8,ud9];omega);have qH:j+(1+(out.length-j))=out.length+1:=oM;have wa:w.heap.size≤gx.heap.size:=(by have:=l4.o.size;omega);have Sm:=hD (kt1 (B:=w.heap.size) (l:=out.take j++(dJ,eC)::out.drop j) wa jn (fun i u aI=>qG i u (by rw[kdn] at aI;exact aI)));have Sn:=hD (k7.o.trans (ho.o.mono Kp));rw[qH] at mN pc;refine ktT rfl (.tmp 46) (.tmp 55) 38 rfl _ _ _ c7 rfl rfl mN ?_;clear y9 mN ck jn qG qH wa Ko l4 Kn;refine aJ.out _ _ fq ?_;clear aJ aR;(try simp only[Act.put,gE,gF,gG]);refine tkO 14 (fun aR aJ=>?_);go_simp;refine aJ.out _ _ fq ?_;clear aJ aR;(try simp only[Act.put,gE,gF,gG]);refine ug7 kR ?_ _;refine uf0 ?_;(try simp only[Act.put,gE,gF,gG]);clear fq qC ay aN aM Lv Lw hZ xc k7 da dQ h7 Fx Fy k4 f2 ho;go_wp2_with fail;go_roundg f
   case measure=>omega
   case rel=>exact ⟨k+1,out.take j++(dJ,eC)::out.drop j,_,c9,by go_num,by rw[Fw],oM,oM,by rw[Fw];omega,by rw[Fw];omega,fun h=>(by cases h),ln,Sm,Sn⟩
  |guard_hyp TG;refine tk 8 ay ?_;refine tk 9 ay ?_;refine tk 10 ay ?_;refine tk 11 ay ?_;refine tk 12 ay ?_;refine tkO 13 (fun aR aJ=>?_);go_simp;go_at_call 197;refine (CW.o _).mono ?_;rintro cG bm ⟨rfl,cQ⟩;have jT:H wr wr bm:=(ub5 _ wr).drew.trans cQ;have cN:=bT hZ jT;have iF:=And.intro ((jT.cell (p:=⟨i5,hV+j*2,Z⟩) GM).trans bi) (And.intro ((jT.cell (p:=⟨i5,hV+j*2+1,Z⟩) GM).trans aW) (And.intro ((jT.cell (p:=⟨fj,oa+k*2,Z⟩) CV).trans aN) ((jT.cell (p:=⟨fj,oa+k*2+1,Z⟩) CV).trans aM)));clear cQ jT;refine aJ.out _ _ iF ?_;clear aJ aR;(try simp only[Act.put,gE,gF,gG]);refine tkO 14 (fun aR aJ=>?_);go_simp;refine aJ.out _ _ iF ?_;clear aJ aR;(try simp only[Act.put,gE,gF,gG]);refine ug7 kR ?_ _;refine uf0 ?_;(try simp only[Act.put,gE,gF,gG]);clear ay bi aW aN aM hZ GL k7 CW GM CV
   cases r with
   |true=>
    have jv:=hD (gv.o rfl);clear gv sJ iF;go_wp2_with fail;go_roundg jN
    case measure=>omega
    case rel=>exact ⟨j+1,by go_num,oM,oM,jv,cN⟩
   |false=>
    have pS:=sJ.o rfl;have mW:=iL.o;rw[pS.1,pS.2] at mW;have ln:=hD mW;obtain ⟨-, -,aN,aM⟩:=iF;clear gv sJ mW pS;obtain ⟨hE,ka⟩:=xE bm;subst ka;have hZ:=cN;clear cN;have n7:=hZ.o.size;have xc:=hD (Af.o.below hZ.o (G:=fun i=>w.heap.size≤i) (fun _ h=>h));have k7:=hD (cA.o.trans (hZ.o.mono GK));have Kp:=k7.o.size;have Fx:=kox (N ⟨i5,hV,Z⟩) out.length eB j oM;have Fy:=kow (N ⟨i5,hV,Z⟩) out.length eB j oM;have da:=hD (kpb xc.o j aS);have dQ:=hD (kpa xc.o j aS CU);obtain ⟨gS,tK⟩:=xE ((if j=0 then (N ⟨i5,hV,Z⟩) else ((N ⟨i5,hV,Z⟩:Option ae)).map (·.add (0*2))));obtain ⟨fs,uu⟩:=xE ((if eB=j then (N ⟨i5,hV,Z⟩) else ((N ⟨i5,hV,Z⟩:Option ae)).map (·.add (j*2))))
    have iO:D gS j j=if gS=Z then D Z 0 0 else D gS j j:=by
     split
     .rename_i aG
      have Fz:((N ⟨i5,hV,Z⟩):Option ae)=Z:=by
       rw[tK] at aG;split at aG
       .exact aG
       .simpa using aG
      have:=zr Fz;rw[aG];obtain rfl:j=0:=oM;rfl
     .rfl
    exact kmb
  |refine tk 8 ay ?_;refine tk 9 ay ?_;refine tk 10 ay ?_;refine tk 11 ay ?_;refine tk 12 ay ?_;refine tk 13 ay ?_;refine tk 14 ay ?_;refine tk 15 ay ?_;refine tk 16 ay ?_;refine ksH (i:=17) (j:=22) kR rfl rfl (fun aR aJ=>?_) (fun aR aJ=>?_)
   .go_simp;go_at_call 45;refine (se.o _ (ub5 _ wr).drew).mono ?_;rintro cG c7 ⟨ck,j3,rfl,cF⟩;obtain ⟨cy,cv,cr,t9,ci,bX,c9,dM,ff,rfl⟩:=cF.form;have dG:H wr wr c7:=(ub5 _ wr).drew.trans ck;have dm:=dG.size;have pd:=ua.o c7 dG;have xd:=ua.o (c7.alloc (y #[I .i64 0,I U 0,V J,Q ⟨#[]⟩,D Z 0 0] 40)) (dG.trans ((kat c7 _).mono dm));have xe:=ua.o (c7.alloc (y #[I .i64 cy,I U cv,V cr,Q t9,D ci bX c9] 40)) (dG.trans ((kat c7 _).mono dm));have de:=hD (Blk.new c7 40 #[I .i64 cy,I U cv,V cr,Q t9,D ci bX c9]);have sg:=kat c7 (y #[I .i64 cy,I U cv,V cr,Q t9,D ci bX c9] 40);have sh:=hD (hZ.o.trans ((dG.trans (sg.mono dm)).mono An))
    have di:=hD (cF.mb5 (G:=fun i=>ka8 jJ (c7.alloc (y #[I .i64 cy,I U cv,V cr,Q t9,D ci bX c9] 40)).heap.size (D l8 d.length km) i∧i≠c7.heap.size) (fun i _ az=>sg.block i az) sg.size (fun i hi az=>by
     have dN:=sg.size;rcases hi with h|h
     .exact ⟨⟨h.1,oM,h.2.2⟩,oM⟩
     .have fg:wr.heap.size≤i:=h;exact ⟨⟨oM,oM,fun e=>by have:=Hd.o i e;omega⟩,oM⟩))
    obtain ⟨Cz,vk⟩:=xE (c7.alloc (y #[I .i64 cy,I U cv,V cr,Q t9,D ci bX c9] 40));rw[←vk] at de di sh;have zJ:=hD vk;have Kq:kC≤c7.heap.size:=oM;refine aJ.out _ _ pd ?_;clear aJ aR ck cF dG sg vk ay;(try simp only[Act.put,ub4,ua8,ua9,gE,gF,gG]);refine tk 18 pd ?_;refine tk 19 pd ?_;refine tk 20 pd ?_;refine tk 21 pd ?_;refine tkO 22 (fun aR aJ=>?_);go_simp;refine aJ.out _ _ xd ?_;clear aJ aR;(try simp only[Act.put,ub4,ua8,ua9,gE,gF,gG]);have So:=();exact kmN
   .go_simp;have xd:=ua.o ((wr.alloc (y #[I .i64 0,I U 0,V J,Q ⟨#[]⟩,D Z 0 0] 40)).drew) ((kat wr _).drew);have FA:Blk ((wr.alloc (y #[I .i64 0,I U 0,V J,Q ⟨#[]⟩,D Z 0 0] 40)).drew) wr.heap.size 40 #[I .i64 0,I U 0,V J,Q ⟨#[]⟩,D Z 0 0]:=(Blk.new wr _ _).drew;have e0:H wr wr ((wr.alloc (y #[I .i64 0,I U 0,V J,Q ⟨#[]⟩,D Z 0 0] 40)).drew):=(kat wr _).drew;obtain ⟨gU,kB⟩:=xE ((wr.alloc (y #[I .i64 0,I U 0,V J,Q ⟨#[]⟩,D Z 0 0] 40)).drew);have hwas:gU.heap.size=wr.heap.size+1:=(by rw[kB];simp);rw[←kB] at xd FA e0 ⊢;refine aJ.out _ _ xd ?_;clear aJ aR kB ay;(try simp only[Act.put,ub4,ua8,ua9,gE,gF,gG]);refine tkO 17 (fun aR aJ=>?_);go_simp;go_at_call 45;refine (se.o _ e0).mono ?_;rintro cG c7 ⟨ck,j3,rfl,cF⟩;obtain ⟨cy,cv,cr,t9,ci,bX,c9,dM,ff,rfl⟩:=cF.form;have dG:H wr wr c7:=e0.trans (ck.mono e0.size);have FB:=FA.below ck FA.lt;obtain ⟨z0,ca,cI,z3,z4,k0,k1,bS,fp,gy⟩:=kak FB;have pd:=ua.o c7 dG;have de:=hD (kb1 FB (I U cy) (I U cv) (V cr) (Q t9) (D ci bX c9));have FC:=kdc dG (nR) (I U cy) (I U cv) (V cr) (Q t9) (D ci bX c9);have xe:=ua.o _ FC;have sh:=hD (hZ.o.trans (FC.mono An));have mX:(((((c7.setCell ⟨wr,0,Z⟩ (I U cy)).setCell ⟨wr,1,Z⟩ (I U cv)).setCell ⟨wr,2,Z⟩ (V cr)).setCell ⟨wr,3,Z⟩ (Q t9)).setCell ⟨wr,4,Z⟩ (D ci bX c9)).heap.size=c7.heap.size:=(by simp[World.setCell]);have Sp:=ck.size
    have di := hD (cF.mb5 (w' := ((((c7.setCell ⟨wr, 0, Z⟩ (I U cy)).setCell ⟨wr, 1, Z⟩ (I U cv)).setCell ⟨wr, 2, Z⟩ (V cr)).setCell ⟨wr, 3, Z⟩ (Q t9)).setCell ⟨wr, 4, Z⟩ (D ci bX c9)) (G := fun i => ka8 jJ (((((c7.setCell ⟨wr, 0, Z⟩ (I U cy)).setCell ⟨wr, 1, Z⟩ (I U cv)).setCell ⟨wr, 2, Z⟩ (V cr)).setCell ⟨wr, 3, Z⟩ (Q t9)).setCell ⟨wr, 4, Z⟩ (D ci bX c9)).heap.size (D l8 d.length km) i ∧ i ≠ wr.heap.size) (fun i hi _ => ke3 c7 wr i (by
     rcases hi with h | h
     ·
      have := h.2.1; omega
     ·
      have fg : gU.heap.size ≤ i := h; omega) (I U cy) (I U cv) (V cr) (Q t9) (D ci bX c9)) (by omega) (fun i hi az => by
     rcases hi with h | h
     ·
      exact ⟨⟨h.1, by omega, h.2.2⟩, by have := h.2.1; omega⟩
     ·
      have fg : gU.heap.size ≤ i := h
      exact ⟨⟨by omega, by omega, fun e => by have := Hd.o i e; omega⟩, by omega⟩))
    obtain ⟨Cz,vk⟩:=xE (((((c7.setCell ⟨wr,0,Z⟩ (I U cy)).setCell ⟨wr,1,Z⟩ (I U cv)).setCell ⟨wr,2,Z⟩ (V cr)).setCell ⟨wr,3,Z⟩ (Q t9)).setCell ⟨wr,4,Z⟩ (D ci bX c9));rw[←vk] at de di sh;have zJ:=hD vk;clear ck cF dG FB FC mX Sp vk;refine aJ.out _ _ pd ?_;clear aJ aR;(try simp only[Act.put,ub4,ua8,ua9,gE,gF,gG]);refine tk 18 pd ?_;refine tk 19 pd ?_;refine tk 20 pd ?_;refine tk 21 pd ?_;exact kmN):=h
def knu (h:P:=by
 have bY:wr.cell? ⟨gD,k,Z⟩=N (V x):=(aV.o.cell (p:=⟨gD,k,Z⟩) dL).trans ((hR.o.cell k).trans (kdg aA));have cP:wr.cell? ⟨jt,k,Z⟩=N (V aC):=(aV.o.cell (p:=⟨jt,k,Z⟩) dR).trans ((Kr.o.cell k).trans (kdg bp))
 first
 |guard_hyp Sq;have jg:((Rg.orB a b).take k++List.replicate (m+1) J)[k]? =N J:=(by exact klC);have c8:wr.cell? ⟨w,k,Z⟩=N (V J):=(fh.o.cell k).trans (kdg jg);have dj:=fh.o.frozen k;have yu:=hD (fh.o.mac k (V (x||aC)));rw[khI,kvQ aA bp] at yu;have eD:(k:Int)<(a.length:Int):=oM;have eS:=nN k;clear aA bp jg
  cases x with
  |true=>exact klP
  |false=>exact klP
 |have eD:(k:Int)<(a.length:Int):=oM;have eS:=nN k;by_cases oe:x=aC
  .subst oe;have hx:=hD (show a.take (k+1)=b.take (k+1) by rw[ue0,ue0,aA,bp,bq.o]);clear aA bp
   cases x with
   |true=>exact klG
   |false=>exact klG
  .have bF:=hD (show decide (a=b)=J from ua5 fun e=>by rw[e,bp] at aA;injection aA with aA;exact oe aA.symm);clear aA bp
   cases x with
   |true=>
    obtain rfl : aC = J := by cases aC with
     | true => exact absurd rfl oe
     | false => rfl
    exact kla
   |false=>
    obtain rfl : aC = K := by cases aC with
     | false => exact absurd rfl oe
     | true => rfl
    exact kla):=h
def kat (w:O) (o:Obj):H w w (w.alloc o):=(ub5 _ _).alloc (nR) _
def kgg {B:Nat} {w w':O} (h:H B w w') (n:Nat):H B w (w'.drewN n):=⟨h.os,h.tape,h.output,h.size,h.block⟩
def kbI (z:List Bool):Array C:=(z.map V).toArray
def kdg {z:List Bool} {a:Nat} {x:Bool} (h:z[a]? =N x):(kbI z)[a]? =N (V x):=by unfold kbI;rw[gA,ub9,h];rfl
def khI (z:List Bool) (a:Nat) (x:Bool):(kbI z).setIfInBounds a (V x)=kbI (z.set a x):=by unfold kbI;rw[gE,←up8]
def kxw (n:Nat):madeCells (V J).cells (n*1)=kbI (List.replicate n J):=by
 rw[uq5];unfold kbI;apply Array.ext
 .simp[size_madeCells]
 .intro i af ao;simp[madeCells,Value.cells,Nat.mod_one]
def kyC:(prog.info? 4).map (fun i=>(i.zero,i.size,i.bytes))=N (N (V J),1,1):=kR
def kfY (n:Nat) (ax:n≤281474976710656) (W:O):(Instr.makeSlice 276 (I U (n:Int)) (I U (n:Int))).run prog W= .ok (D (N ⟨W,0,Z⟩) n n) (W.alloc (y (kbI (List.replicate n J)) 4)):=by obtain ⟨eX,cM,ds,cJ,eW⟩:=ug6 kyC;have ak:(eX.bytes:Int)*(n:Int)≤281474976710656:=(by rw[eW];omega);have am:=run_make (P:=prog) W 276 4 eX (V J) underlying276 cM ds .i64 .i64 n n oM oM ak oM;simp only[ub7] at am;rw[cJ,kxw] at am;exact am
def BoAt (w:O) (g:Nat) (l:List Bool):Prop:=Blk w g 4 (kbI l)
def kdk (w:O) (l:List Bool) (e:Ending) (w':O):Prop:=H w w w'∧∃ g,w.heap.size≤g∧e=ac (D (N ⟨g,0,Z⟩) l.length l.length)∧BoAt w' g l
def kvQ {a b:List Bool} {k:Nat} {x aC:Bool} (aA:a[k]? =N x) (bp:b[k]? =N aC) (n:Nat):(((Rg.orB a b).take k)++List.replicate (n+1) J).set k (x||aC)=((Rg.orB a b).take (k+1))++List.replicate n J:=by
 have h:(Rg.orB a b)[k]? =N (x||aC):=by unfold Rg.orB;rw[List.getElem?_zipWith,aA,bp]
 have aw:k<(Rg.orB a b).length:=by
  rcases ug1 k (Rg.orB a b).length with af|af
  .exact af
  .rw[ud5 af] at h;cases h
 exact klH
def kCT (w:O) (a b:List Bool) (f:Nat) (i:C) (wr:O):Prop:=∃ k n:Nat,i=I U k∧k+n=a.length∧n<f∧Hz (BoAt wr w ((Rg.orB a b).take k++List.replicate n J))∧Hz (H w w wr)
def keW (a b:List Bool) (gD jt:Nat) (w:O) (h:b.length=a.length) (ax:a.length≤1000000) (aE:BoAt w gD a) (ak:BoAt w jt b):
 L prog 242 #[D (N ⟨gD,0,Z⟩) a.length a.length,D (N ⟨jt,0,Z⟩) b.length b.length] w (kdk w (Rg.orB a b)):=by
 obtain ⟨hQ,hR,Kr,eg⟩:=hd4 (kfY a.length oM) aE ak (kfO h);have dL:=aE.lt;have dR:=ak.lt;rw[h];clear aE ak;have nE:=hQ.o;go_enter func242,ntmps242;go_wp2_with fail;clear nE hQ;go_loopg [6] (a.length+1) (fun f i wr=>kCT w a b f i wr)
 case atStart=>exact ⟨0,a.length,rfl,oM,oM,hD (by rw[um1,uj4];exact Blk.new w _ _),hD (kat w _)⟩
 case round=>
  obtain ⟨k,n,rfl,iq,fo,fh,aV⟩:=hrel;obtain ⟨f,rfl⟩:=xS gk;have ef:=fh.o.lt;by_cases bG:k<a.length
  .obtain ⟨x,aA⟩:=xG a bG;obtain ⟨aC,bp⟩:∃ aC,b[k]? =N aC:=⟨_,ua3 oM⟩;obtain ⟨m,rfl⟩:∃ m,n=m+1:=⟨n-1,oM⟩;have Sq:=();exact knu
  .obtain rfl:k=a.length:=oM;obtain rfl:n=0:=oM;have hg:=fh.o;rw[List.replicate_zero,ug2,ui7 (by rw[eg.o];exact nR)] at hg;have rK:=hD hg;clear hg fh;go_wp2_with fail;go_ret;exact ⟨aV.o,w.heap.size,nR,by rw[eg.o];rfl,rK.o⟩
def kyL (a b:List Bool) (gD jt:Nat) (w:O) (h:b.length=a.length) (ax:a.length≤1000000) (aE:BoAt w gD a) (ak:BoAt w jt b):
 L prog 243 #[D (N ⟨gD,0,Z⟩) a.length a.length,D (N ⟨jt,0,Z⟩) b.length b.length] w fun e w'=>e=ac (V (decide (a=b)))∧H w w w':=by
 have hR:=hD aE;have Kr:=hD ak;have dL:=aE.lt;have dR:=ak.lt;have eg:=hD h;rw[h];clear aE ak h;go_enter func243,ntmps243;go_wp2_with fail;go_loopg [5] (a.length+1) (fun f i wr=>∃ k:Nat,i=I U k∧k≤a.length∧a.length<k+f∧Hz (a.take k=b.take k)∧Hz (H w w wr))
 case atStart=>exact ⟨0,rfl,oM,oM,hD rfl,hD (ub5 _ _)⟩
 case round=>
  obtain ⟨k,rfl,aw,fo,bq,aV⟩:=hrel;obtain ⟨f,rfl⟩:=xS gk;by_cases bG:k<a.length
  .obtain ⟨x,aA⟩:=xG a bG;obtain ⟨aC,bp⟩:∃ aC,b[k]? =N aC:=⟨_,ua3 (by rw[eg.o];exact bG)⟩;exact knu
  .obtain rfl:k=a.length:=oM;have bF:=hD (show decide (a=b)=K from ub3 (by have:=bq.o;rw[uf2,ui7 (by rw[eg.o];exact nR)] at this;exact this));go_wp2_with fail;go_ret;exact ⟨by rw[bF.o];rfl,aV.o⟩
def nuC (l:List Nat):List C:=l.map fun (x:Nat)=>I Y (x:Int)
def kqv:(prog.info? 100).map (fun i=>(i.zero,i.size,i.bytes))=N (N (I Y 0),1,8):=kR
def kDr (base:Nat) (w:O) (v:C) (l:List Nat) (e:Ending) (w':O):Prop:=∃ A c,e=ac (D A l.length c)∧w'.ownsRow base 100 1 (D A l.length c) l.length (nuC l)∧w.grownBy w' v.ownBlock∧((D A l.length c).ownBlock=v.ownBlock∨∃ g,(D A l.length c).ownBlock=N g∧w.heap.size≤g)
def kku (base:Nat) (l:List Nat) (A:Option ae) (c:Nat) (x:Nat) (w:O) (aA:x<2^64) (ax:l.length≤1000000) (f5:base≤w.heap.size) (bf:w.ownsRow base 100 1 (D A l.length c) l.length (nuC l)) (az:∀ aC∈l,aC<2^64):
 L prog 162 #[D A l.length c,I Y x] w (kDr base w (D A l.length c) (Rg.addN l x)):=by
 have c1:=hD bf;have a1:=hD (Reads.mb2 bf);clear bf;go_enter func162,ntmps162;go_wp2_with fail;go_loopg [5] (l.length+1) (fun f i wr=>∃ k:Nat,i=I U k∧k≤l.length∧l.length<k+f∧Hz (x∉l.take k)∧w=wr)
 case atStart=>exact ⟨0,rfl,oM,oM,hD (by simp),rfl⟩
 case round=>
  obtain ⟨k,rfl,aw,fo,bq,rfl⟩:=hrel;obtain ⟨f,rfl⟩:=xS gk;by_cases bG:k<l.length
  .obtain ⟨aC,bp⟩:=xG l bG;obtain ⟨b,o,rfl,eZ,cq⟩:=a1.o.form oM;have bY:w.cell? ⟨b,o+k,Z⟩=N (I Y aC):=cq k _ (by unfold nuC;rw[ub9,bp];rfl);have eD:(k:Int)<(l.length:Int):=oM;have eS:=nN k;by_cases oe:aC=x
   .subst oe;have hR:=hD (show Rg.addN l aC=l from ua1 (ua4 bp));clear bp cq;go_wp2_with fail;go_ret;exact ⟨N ⟨b,o,Z⟩,c,by rw[hR.o];rfl,by rw[hR.o];exact c1.o,World.grownBy.refl w _, .inl (by rw[hR.o])⟩
   .have bw:((aC:Int)==(x:Int))=J:=(by simp;omega);have hx:=hD (show x∉l.take (k+1) by rw[ue0,bp];intro bg;rcases uh2.1 bg with af|af;exact bq.o af;exact oe (by simpa[eq_comm] using af));clear bp cq;go_wp2_with fail;go_roundg f
    case measure=>omega
    case rel=>exact ⟨k+1,by go_num,oM,oM,hx,rfl⟩
  .obtain rfl:k=l.length:=oM;have ch:=bq.o;rw[uf2] at ch;have hR:=hD (show Rg.addN l x=l++[x] from ua0 ch);obtain ⟨eX,cM,ds,cJ,eW⟩:=ug6 kqv;have e0:=kat w (y #[I .u64 x] 100);have gc:=kaI c1.o e0;have e9:Reads (w.alloc (y #[I .u64 x] 100)) (w.heap.size+1) 1 (N ⟨w,0,Z⟩) 1 [I .u64 x]:=Reads.mb7 w #[I .u64 x] 100 oM rfl;have d9:∀ u∈([I .u64 x]:List C),u.oneCell'=K:=(by simp[Value.oneCell']);have nj:=hD e0;clear e0 ch;(go_wp2_with (at_builtin;refine kbs _ rfl (.tmp 19) (.tmp 21) 222 rfl base 100 eX (I Y 0) 1 8 underlying222 cM ds cJ eW rfl dC _ l.length _ rfl gc _ _ _ _ [I .u64 x] rfl e9 d9 (by unfold maxLen;omega) oM (by simp;omega) ?_));intro v5 bm h5 g3 g7;obtain ⟨fs,c5,rfl⟩:=kaA h5;obtain ⟨g9,uv,o2⟩:=hd3 h5 ((kbR nj.o _).trans g3) g7;clear h5 g3 g7 gc e9 d9 cM ds cJ eW;go_wp2_with fail;go_ret;refine ⟨fs,c5,by rw[hR.o,ua6];rfl,?_,uv.o,?_⟩
   .rw[hR.o,ua6];unfold nuC;rw[uj3];exact g9.o
   .rcases o2.o with h|h
    .exact .inl (by rw[hR.o,ua6];exact h)
    .exact .inr ⟨_,by rw[hR.o,ua6];exact h,by simp⟩
def zq8 (h:P:=by
 clear rv;go_wp2_with fail;go_meet
 case rel=>exact ⟨eh,eF,_,_,cS,lG,bq,fv,c1,a1,fh,aV⟩):=h
def kgI (h:P:=by
 obtain ⟨f9,rfl⟩:∃ f,gk=f+1:=⟨gk-1,oM⟩;obtain ⟨⟨⟨aN,aM⟩,aZ,bC⟩,⟨b1,c5⟩,ct,bI⟩:=a1.o.cells
 first
 |guard_hyp SB;have iu:=ij.o;by_cases bG:k<t.length
  .obtain ⟨b,ak⟩:=xG t bG;obtain ⟨x,aA⟩:∃ x,f[k]? =N x:=⟨_,ua3 oM⟩;obtain ⟨m,rfl⟩:∃ n,m=n+1:=⟨m-1,oM⟩;have g4:=kaX (P:=prog) underlying9 ak;have bY:wr.cell? ⟨g,k,Z⟩=N (V x):=(fh.o.cell k).trans (kdg aA);have cg:=ktX (s:=(aT,aU,aX,a2)) aA ak;have dj:=c1.o.frozen (k+1);have jg:((Rg.step2 (aT,aU,aX,a2) t f).take (k+1)++List.replicate (m+1) J)[k+1]? =N J:=(by exact klC);have c8:wr.cell? ⟨w.heap.size+1,k+1,Z⟩=N (V J):=(c1.o.cell (k+1)).trans (kdg jg);have nm:=aV.o.size;have gv:=hD cg;have cU:(k:Int)<(t.length:Int):=oM;have bE:=nN k;have c2:(k:Int)<(f.length:Int):=oM;have j4:(k:Int)+1<(f.length:Int):=oM;have mi:(0:Int)≤(k:Int)+1:=oM;have sQ:=uc5 ((k:Int)+1) oM;have de:=hD aA;have Sr:=hD jg;clear ak aA cg jg iu
   cases x with
   |false=>go_upto_region 9 with (fail);refine ue4 ?_;refine ud6 (S:=(fun w'=>w'.cell? ⟨g,k,Z⟩=N (V J)∧w'.cell? ⟨w,1,Z⟩=N (I Y aT)∧w'.cell? ⟨w,2,Z⟩=N (I Y aU)∧w'.cell? ⟨w,3,Z⟩=N (I Y aX)∧w'.cell? ⟨w,4,Z⟩=N (I Y a2))) kR ⟨bY,aM,aZ,bC,b1⟩ (fun ay=>?_);have Ss:=();exact kfp
   |true=>go_upto_region 9 with (fail);refine ue4 ?_;refine ud6 (S:=(fun w'=>w'.cell? ⟨g,k,Z⟩=N (V K)∧w'.cell? ⟨w,1,Z⟩=N (I Y aT)∧w'.cell? ⟨w,2,Z⟩=N (I Y aU)∧w'.cell? ⟨w,3,Z⟩=N (I Y aX)∧w'.cell? ⟨w,4,Z⟩=N (I Y a2))) kR ⟨bY,aM,aZ,bC,b1⟩ (fun ay=>?_);have Su:=();exact kfp
  .obtain rfl:k=t.length:=oM;obtain rfl:m=0:=oM;have bf:=c1.o;rw[List.replicate_zero,ug2,ui7 (by rw[eg.o];exact nR)] at bf;have hM:=hD bf;have bq:=hD (show Rg.mar (n+1) (Rx.node 2 aT aU aX a2 0 0 ps) t f=Rg.step2 (aT,aU,aX,a2) t f from rfl);clear bf iu;go_wp2_with fail;go_ret;exact ⟨aV.o,w.heap.size+1,oM,by rw[bq.o,eg.o,ij.o];rfl,by rw[bq.o];exact hM.o⟩
 |guard_hyp SC;obtain ⟨cT,gd⟩:=xE wr;subst gd;by_cases bG:k<ps.length
  .have Sv:=();exact kd0
  .obtain rfl:k=ps.length:=oM;have bf:=c1.o;have az:=eg.o;rw[uf2] at bf az;have hM:=hD bf;have kq:=hD az;(first|guard_hyp pU;have bq:=hD (show Rg.mar (n+1) (Rx.node 4 0 0 0 0 0 0 ps) t f=ps.foldl (fun o p=>Rg.orB o (Rg.mar n p t f)) (List.replicate f.length J) from rfl)|have bq:=hD (show Rg.mar (n+1) (Rx.node 3 0 0 0 0 0 0 ps) t f=ps.foldl (fun a p=>Rg.mar n p t a) f from rfl));clear bf az c1 eg;go_wp2_with fail;go_ret;exact ⟨aV.o,hG,rS,by rw[bq.o,kq.o,ij.o];rfl,by rw[bq.o];exact hM.o⟩
 |guard_hyp SJ;obtain ⟨kd,a0,aY,bh,a3,lo2,hi2,pT⟩:=x;obtain ⟨cx,dp,rfl,j6,eZ,cq⟩:=fv.o.rd.2 oM;obtain ⟨fD,si,xf,gR,FD,FE⟩:=(show ∃ A c xf,lG=[I .i64 kd,I Y a0,I Y aY,I Y bh,I Y a3,I U lo2,I U hi2,D A pT.length c]∧RdF w F 8 A pT.length xf∧RxVs w F pT xf by have:=fv.o.vs;unfold RxV at this;exact this);have fI:∀ j u,[I .i64 kd,I Y a0,I Y aY,I Y bh,I Y a3,I U lo2,I U hi2,D fD pT.length si][j]? =N u→wr.cell? ⟨cx,dp+j,Z⟩=N u:=fun j u aI=>(aV.o.cell (p:=⟨cx,dp+j,Z⟩) eZ).trans (cq j u (by rw[gR];exact aI));have bu:=fI 0 _ rfl;have gK:=fI 5 _ rfl;have f3:=fI 6 _ rfl;have h2:=fI 7 _ rfl;rw[uh4] at bu;obtain ⟨m,rfl⟩:∃ w8,m=w8+1:=⟨m-1,by have:=(Rx.node kd a0 aY bh a3 lo2 hi2 pT).size_pos;omega⟩;by_cases af:eh≤1
  case neg=>have s1:decide (eh≤1)=J:=ua5 af;have bq:=hD (show Rg.flat n lo hi [be]=(eh,eF,[Rx.node kd a0 aY bh a3 lo2 hi2 pT]) from rv.o.symm.trans (kga (fun an=>af an.1)));exact zq8
  have s1:decide (eh≤1)=K:=ub3 af;by_cases ao:eF<0
  case neg=>have s2:decide (eF<0)=J:=ua5 ao;have bq:=hD (show Rg.flat n lo hi [be]=(eh,eF,[Rx.node kd a0 aY bh a3 lo2 hi2 pT]) from rv.o.symm.trans (kga (fun an=>ao an.2.1)));exact zq8
  have s2:decide (eF<0)=K:=ub3 ao;by_cases av:kd=5
  case neg=>have s3:((kd:Int)==5)=J:=(by simp;omega);have bq:=hD (show Rg.flat n lo hi [be]=(eh,eF,[Rx.node kd a0 aY bh a3 lo2 hi2 pT]) from rv.o.symm.trans (kga (fun an=>av an.2.2.1)));exact zq8
  have s3:((kd:Int)==5)=K:=(by rw[av];rfl);by_cases bk:lo2≤1
  case neg=>have s4:decide (lo2≤1)=J:=ua5 bk;have bq:=hD (show Rg.flat n lo hi [be]=(eh,eF,[Rx.node kd a0 aY bh a3 lo2 hi2 pT]) from rv.o.symm.trans (kga (fun an=>bk an.2.2.2.1)));exact zq8
  have s4:decide (lo2≤1)=K:=ub3 bk;by_cases cb:hi2=0
  case pos=>have s5:(hi2 != 0)=J:=(by rw[cb];rfl);have bq:=hD (show Rg.flat n lo hi [be]=(eh,eF,[Rx.node kd a0 aY bh a3 lo2 hi2 pT]) from rv.o.symm.trans (kga (fun an=>an.2.2.2.2 cb)));exact zq8
  have s5:(hi2 != 0)=K:=(by simp;exact cb);have o9:=fv.o.fmd;have mY:=fv.o.mat;have FF:=fv.o.sz;have FG:=fv.o.big;unfold Rx.fmd at o9;unfold Rx.mat at mY;unfold Rx.size at FF FG FO;obtain ⟨Ks,FH⟩:=o9
  have i6:pT.length=1∧0≤lo2∧lo2≤64:=by
   rcases Ks with h|h|h|h|h
   .exact absurd h.1 oM
   .exact absurd h.1 oM
   .exact absurd h.1 oM
   .exact absurd h.1 oM
   .exact ⟨h.2.2.1,h.2.2.2.1,h.2.2.2.2.1⟩
  obtain ⟨cn,rfl⟩:∃ x,pT=[x]:=um5.1 i6.1;have mf:([cn]:List Rx).length=1:=rfl;rw[mf] at FD h2;have Kt:RxV w F cn xf:=(by unfold RxVs RxVs at FE;obtain ⟨AT,qW,rfl,af,rfl⟩:=FE;rw[ug2];exact af);rw[kcc] at FF FG FO;have nn:=fv.o.lo0;have za:=hD (show Ct w F n (min eh lo2) (-1) cn fD xf from ⟨oM,oM,oM,oM,oM,oM,by unfold kap at FH;exact FH.1,by have:=mY.2.2.2.2.2.2.2.2.2;unfold kar at this;exact this.1,FD,Kt⟩);have rt:=hD (show Rg.flat m (min eh lo2) (-1) [cn]=Rg.flat n lo hi [be] from (kzZ af ao av bk cb).symm.trans rv.o);have Sw:cn.size≤m:=oM;have Sx:m<f9:=oM;obtain ⟨⟨⟨z0,ca⟩,cI,z3⟩,⟨z4,z5⟩,lN,lO⟩:=a1.o.free;have lM:=kas (Kept.refl (fun i=>i=w.heap.size) wr) (g:=w.heap.size) (.inl rfl) (I U 5) (I Y 0) (I Y 0) (I Y 0) (I Y 0) (I U (min eh lo2)) (I U (-1)) (D fD 1 si);have cF:=a1.o.all (I U 5) (I Y 0) (I Y 0) (I Y 0) (I Y 0) (I U (min eh lo2)) (I U (-1)) (D fD 1 si);have ck:=kcM aV.o (uf1 w) (I U 5) (I Y 0) (I Y 0) (I Y 0) (I Y 0) (I U (min eh lo2)) (I U (-1)) (D fD 1 si);obtain ⟨c7,jn⟩:=xE ((mae wr w (I U 5) (I Y 0) (I Y 0) (I Y 0) (I Y 0) (I U (min eh lo2)) (I U (-1)) (D fD 1 si)).drew);have Sy:Hz (BoAt c7 (w.heap.size+1) (List.replicate f.length J)):=hD (by rw[jn];exact Blk.drew (Blk.kept c1.o lM (show ¬(w.heap.size+1=w.heap.size) by omega)));have jB:Hz (BoAt c7 g f):=hD (by rw[jn];exact Blk.drew (Blk.kept fh.o lM (show ¬(g=w.heap.size) by omega)));have FI:Hz (R8 c7 w (I U 5) (I Y 0) (I Y 0) (I Y 0) (I Y 0) (I U (min eh lo2)) (I U (-1)) (D fD 1 si)):=hD (by rw[jn];exact Blk.drew cF);have ho:Hz (H w w c7):=hD (by rw[jn];exact ck.drew);have wE:Hz (c7=((((((((wr.setCell ⟨w,0,Z⟩ (I U 5)).setCell ⟨w,1,Z⟩ (I Y 0)).setCell ⟨w,2,Z⟩ (I Y 0)).setCell ⟨w,3,Z⟩ (I Y 0)).setCell ⟨w,4,Z⟩ (I Y 0)).setCell ⟨w,5,Z⟩ (I U (min eh lo2))).setCell ⟨w,6,Z⟩ (I U (-1))).setCell ⟨w,7,Z⟩ (D fD 1 si)).drew):=hD jn;clear cF ck jn;clear lM FH mY Ks i6 FD FE Kt gR cq fI mf af ao bk cb rv FF FG FO AW j6;go_upto_region 23 with (fail);refine ue4 ?_;refine kd6 (z:=14) (S:=(fun w'=>w'.cell? ⟨w,5,Z⟩=N (I U eh)∧w'.cell? ⟨w,7,Z⟩=N (D (N ⟨cx,dp,Z⟩) 1 cS)∧w'.cell? ⟨cx,dp+5,Z⟩=N (I U lo2)∧w'.cell? ⟨cx,dp+7,Z⟩=N (D fD 1 si))) kR ⟨c5,bI,gK,h2⟩ (fun ay=>?_);refine tkZ 0 ay ?_;refine tkZ 1 ay ?_;refine tkZ 2 ay ?_;refine tkZ 3 ay ?_;refine tkZ 4 ay ?_;refine tkZ 5 ay ?_;refine tkZ 6 ay ?_;refine tkZ 8 ay ?_;refine tkZ 9 ay ?_;refine tkZ 10 ay ?_;refine tkZ 11 ay ?_;refine tkZ 12 ay ?_;refine tkP 7 (fun aR aJ=>?_);go_simp;refine aJ.out _ _ (fun _=>ay) ?_;clear aJ aR;(try simp only[Act.put,gE,gF,gG]);refine tkP 13 (fun aR aJ=>?_);go_simp;refine aJ.out _ _ (fun _=>ay) ?_;clear aJ aR;(try simp only[Act.put,gE,gF,gG]);refine tkP 14 (fun aR aJ=>?_);exact kiq
 |by_cases bG:(k:Int)<eh
  .have Sz:=();exact km0
  .have p7:eh.toNat=k:=oM;have Ku:=hD (zL.o.trans (by rw[p7]));have bf:=c1.o;have az:=eg.o;rw[←Ku.o] at bf az;have k2:=keW (List.replicate f.length J) a5 (w.heap.size+1) hG wr (by simp;rw[az,ij.o]) (by simp;omega) cf.o bf;rw[show f.length=a5.length by rw[az,ij.o],kfP,uj9] at k2;rw[show a5.length=f.length by rw[az,ij.o]] at k2;obtain ⟨hy,j8,wO⟩:=hd3 k2 bf az;have Kv:Hz (a5.length=f.length):=hD (by rw[az,ij.o]);clear bf az k2 c1 eg zL Ku p7;go_wp2_with fail;refine hy.o.mono ?_;rintro cG aK ⟨bv,iA,s8,rfl,gc⟩;have oQ:=aV.o.size;have cA:=bT aV bv;obtain ⟨da,oI,n3⟩:=hd3 (a1.o.below bv a1.o.lt) (j8.o.below bv) gc;rw[Kv.o];clear bv gc hy aV a1 j8 cf aN aM aZ bC b1 c5 ct bI;obtain ⟨⟨⟨aN,aM⟩,aZ,bC⟩,⟨b1,c5⟩,ct,bI⟩:=da.o.cells;go_wp2_with fail;go_loopg [7,11,13] 100200 (fun f9 X3 at_ i wr=>∃(z:Int) (tL:Nat) (a o:List Bool) (gD tM:Nat),i=I U z∧at_=D (N ⟨gD,0,Z⟩) f.length f.length∧X3=D (N ⟨tM,0,Z⟩) f.length f.length∧tL<f9∧eh≤z∧z≤200300-f9∧((eF<0∧kcp o<tL)∨(0≤eF∧tL=(eF-z).toNat))∧w.heap.size≤gD∧w.heap.size≤tM∧Hz (Rg.grow E tL a o=FQ)∧Hz (a.length=t.length+1)∧Hz (o.length=t.length+1)∧Hz (BoAt wr gD a)∧Hz (BoAt wr tM o)∧Hz (R8 wr w (I U 5) (I Y 0) (I Y 0) (I Y 0) (I Y 0) (I U eh) (I U eF) (D (N ⟨cx,dp,Z⟩) 1 cS))∧Hz (H w w wr))
   case atStart=>
    have eE:=krw a5;have FJ:=Kv.o;refine ⟨eh,Rg.turns eh eF f.length,a5,a5,hG,iA,rfl,rfl,rfl,?_,oM,oM,?_,oM,oM,hD kc.o.symm,wO,wO,oI,n3,da,cA⟩
    .unfold Rg.turns;split <;> omega
    .unfold Rg.turns;split <;> omega
   case round=>
    clear oI n3 da cA wO kc aN aM aZ bC b1 c5 ct bI;obtain ⟨z,tL,a,o,gD,tM,rfl,rfl,rfl,mW,ds,cJ,BQ,hga,up,xg,Kw,kV,Kx,wx,a1,aV⟩:=hrel;obtain ⟨f9,rfl⟩:∃ f,gk=f+1:=⟨gk-1,oM⟩;obtain ⟨⟨⟨aN,aM⟩,aZ,bC⟩,⟨b1,c5⟩,ct,bI⟩:=a1.o.cells;by_cases HJ:0≤eF∧¬z<eF
    .obtain rfl:tL=0:=oM;have Ky:o=FQ:=xg.o;have s1:decide (z<eF)=J:=ua5 HJ.2;have s2:decide (eF<0)=J:=ua5 oM;have zK:=hD (KJ.o.trans Ky.symm);clear HJ Ky;go_wp2_with fail;go_ret;exact ⟨aV.o,tM,up,by rw[zK.o,kV.o,ij.o];rfl,by rw[zK.o];exact wx.o⟩
    .obtain ⟨dS,rfl⟩:∃ f,tL=f+1:=⟨tL-1,oM⟩;have sQ:=uc5 (z+1) oM;have pe:=xg.o;rw[Rg.grow] at pe;exact km0):=h
def kmR (h:P:=by
 have i7:=hD (fun (i:Nat) (e:(D dF out.length eB).ownBlock=N i)=>kbM h7.o e);have hr:=kaI h7.o (kat aK (y #[I .i64 dJ,I U eC] 91));have e9:Reads (aK.alloc (y #[I .i64 dJ,I U eC] 91)) (aK.heap.size+1) 2 (N ⟨aK,0,Z⟩) 1 [I .i64 dJ,I U eC]:=⟨rfl,fun _=>⟨_,rfl,by simp,fun j u aI=>kcI aK #[I .i64 dJ,I U eC] 91 j u aI⟩⟩;have d9:∀ u∈([I .i64 dJ,I U eC]:List C),u.oneCell'=K:=(by simp[Value.oneCell']);have cM:=dc.o;have hi0:=jP.o;have hi1:=jQ.o;have hi2:=jR.o
 first
 |guard_hyp Sl;clear cg GI GJ Ae dt cL pf;(go_wp2_with (at_builtin;refine kbs _ rfl (.tmp 35) (.tmp 40) 38 rfl w 91 eX (aa #[I .i64 0,I U 0]) 2 16 underlying38 cM hi0 hi1 hi2 rfl dC _ out.length _ rfl hr _ _ _ _ [I .i64 dJ,I U eC] rfl e9 d9 (by unfold maxLen;omega) oM (by simp;omega) ?_));intro eQ dl fm fV j2;obtain ⟨e4,bI,rfl⟩:=kaA fm;have gT:=(kbR (kat aK (y #[I .i64 dJ,I U eC] 91)) (D dF out.length eB).ownBlock).trans fV;have f2:=hD (cA.o.grown gT wH (fun j e=>(i7.o _ e).1));have kh:Hz (dl.ownsRow w 91 2 (D e4 (out.length+1) bI) (out++[(dJ,eC)]).length (sgC (out++[(dJ,eC)]))):=hD (by rw[kdn,ua6];exact fm);clear hr e9 d9 cM hi0 hi1 hi2 fm fV j2 gT;go_wp2_with fail;go_roundg f
  case measure=>omega
  case rel=>exact ⟨k+1,out++[(dJ,eC)],e4,bI,by go_num,by rw[ua6];rfl,oM,oM,by rw[ua6];simp;omega,hx,by rw[ua6] at kh ⊢;exact kh,f2⟩
 |clear cg a1 gv pf;(go_wp2_with (at_builtin;refine kbs _ rfl (.tmp 374) (.tmp 382) 38 rfl aq 91 eX (aa #[I .i64 0,I U 0]) 2 16 underlying38 cM hi0 hi1 hi2 rfl dC _ out.length _ rfl hr _ _ _ _ [I .i64 dJ,I U eC] rfl e9 d9 (by unfold maxLen;omega) oM (by first|omega|(simp;omega)) ?_));intro eQ dl fm fV j2;obtain ⟨e4,bI,rfl⟩:=kaA fm;have gT:=(kbR (kat aK (y #[I .i64 dJ,I U eC] 91)) (D dF out.length eB).ownBlock).trans fV;have f2:=hD (cA.o.grown gT wH (fun j e=>(i7.o _ e).1));have kh:Hz (dl.ownsRow aq 91 2 (D e4 (out.length+1) bI) (out++[(dJ,eC)]).length (sgC (out++[(dJ,eC)]))):=hD (by rw[kdn,ua6];exact fm);clear hr e9 d9 cM hi0 hi1 hi2 fm fV j2 gT;go_wp2_with fail;go_roundg f
  case measure=>omega
  case rel=>exact ⟨k+1,out++[(dJ,eC)],e4,bI,by go_num,by rw[ua6];rfl,oM,oM,by rw[ua6];simp;omega,hx,by rw[ua6] at kh ⊢;exact kh,f2⟩):=h
def kmN (h:P:=by refine tkO 23 (fun aR aJ=>?_);go_simp;refine aJ.out _ _ xe ?_;clear aJ aR;(try simp only[Act.put,ub4,ua8,ua9,gE,gF,gG]);refine tkO 24 (fun aR aJ=>?_);go_simp;refine aJ.out _ _ xe ?_;clear aJ aR;(try simp only[Act.put,ub4,ua8,ua9,gE,gF,gG]);refine tkO 25 (fun aR aJ=>?_);go_simp;refine aJ.out _ _ xe ?_;first|guard_hyp So;have SA:=();exact kl6|exact kl6):=h
def kgJ (h:P:=by exact kfs):=h
def knh (h:P:=by
 have dT:=bR aQ;have c4:=bA aQ;have fy:=wS aQ;have cd:=hD aQ;have fP:=kat aq (y (kbI (List.replicate f.length J)) 4);have hM:=hD (show BoAt (aq.alloc (y (kbI (List.replicate f.length J)) 4)) (w.heap.size+1) (List.replicate f.length J) by rw[←fy];exact Blk.new aq _ _);obtain ⟨aF,bW⟩:=xE (aq.alloc (y (kbI (List.replicate f.length J)) 4));rw[←bW] at hM fP;have co:=hD (dT.below fP dT.lt);have bo:=hD (c4.trans (fP.mono c4.size));have iL:=hD (j9.below bo.o);have e1:=hD bW;have lu:aF.heap.size=w.heap.size+2:=(by rw[bW];simp;omega);have ef:=j9.lt
 first
 |guard_hyp SE;(first|guard_hyp xh;have ic:Hz (Rg.mar (n+1) (Rx.node 2 aT aU aX a2 0 0 ps) t f=Rg.mar (n+1) (Rx.node 2 aT aU aX a2 0 0 ps) t f):=hD rfl|have ic:Hz (Rg.mar (n+1) (Rx.node 1 0 0 0 0 0 0 ps) t f=Rg.mar (n+1) (Rx.node 1 0 0 0 0 0 0 ps) t f):=hD rfl);have qy:ps.length≤1000000000:=(by have:=kcE ps;omega);have ij:=hD iu;have yY:f.length≤100001:=oM;clear dx dU hF bQ eE dw j9 dT c4 aQ fP bW ax iu;(first|guard_hyp xh;change L prog 230 #[aa #[I .i64 2,I Y aT,I Y aU,I Y aX,I Y a2,I U 0,I U 0,D A ps.length c],Q ⟨t.toArray⟩,D (N ⟨g,0,Z⟩) f.length f.length] w _;have dh:=hD (fun (b:UInt8) (W:O)=>kra aT aU aX a2 aD af ao av b.toNat (by have:=(u8b b).2;omega) W);clear aD af ao av|change L prog 230 #[aa #[I .i64 1,I Y 0,I Y 0,I Y 0,I Y 0,I U 0,I U 0,D A ps.length c],Q ⟨t.toArray⟩,D (N ⟨g,0,Z⟩) f.length f.length] w _;have k2:=keW (List.replicate f.length J) f (w.heap.size+1) g aF (by simp) (by simp;omega) hM.o iL.o;rw[kfP,uj9] at k2;have hy:=hD k2;clear k2);go_enter func230,ntmps230;go_upto_region 1 with (fail);rw[←cd.o];have nE:=hQ.o;go_upto_region 2 with (fail);clear nE;rw[←e1.o];clear cd e1 hQ;obtain ⟨⟨⟨aN,aM⟩,aZ,bC⟩,⟨b1,c5⟩,ct,bI⟩:=co.o.cells;(first|guard_hyp xh;have eg:=hD (ktW (s:=(aT,aU,aX,a2)) ij.o);have Kz:Hz (BoAt aF (w.heap.size+1) ((Rg.step2 (aT,aU,aX,a2) t f).take (0+1)++List.replicate t.length J)):=hD (by have:=hM.o;rw[ij.o,us2] at this;exact this);clear hM|skip);go_wp2_with fail
  first
  |guard_hyp xh;go_loopg [8] (t.length+1) (fun f9 i wr=>∃ k m:Nat,i=I U k∧k+m=t.length∧m<f9∧Hz (BoAt wr (w.heap.size+1) ((Rg.step2 (aT,aU,aX,a2) t f).take (k+1)++List.replicate m J))∧Hz (R8 wr w (I U 2) (I Y aT) (I Y aU) (I Y aX) (I Y a2) (I U 0) (I U 0) (D A ps.length c))∧Hz (BoAt wr g f)∧Hz (H w w wr))
   case atStart=>exact ⟨0,t.length,rfl,oM,oM,Kz,co,iL,bo⟩
   case round=>clear bo co Kz iL aN aM aZ bC b1 c5 ct bI;obtain ⟨k,m,rfl,aw,fo,c1,a1,fh,aV⟩:=hrel;have SB:=();exact kgI
  |refine hy.o.mono ?_;rintro cG a6 ⟨b3,gV,mb,rfl,oy⟩;have bU:=bT bo b3;have lW:=hD oy;clear b3 oy hy aN aM aZ bC b1 c5 ct bI;go_wp2_with fail;go_ret;exact ⟨bU.o,gV,oM,rfl,lW.o⟩
 |(first|guard_hyp pU;have ic:Hz (Rg.mar (n+1) (Rx.node 4 0 0 0 0 0 0 ps) t f=Rg.mar (n+1) (Rx.node 4 0 0 0 0 0 0 ps) t f):=hD rfl|have ic:Hz (Rg.mar (n+1) (Rx.node 3 0 0 0 0 0 0 ps) t f=Rg.mar (n+1) (Rx.node 3 0 0 0 0 0 0 ps) t f):=hD rfl);have qy:ps.length≤1000000000:=(by have:=kcE ps;omega);have ij:=hD iu;have yY:f.length≤100001:=oM;clear dx dU hF bQ eE dw j9 dT c4 aQ fP bW ax iu;(first|guard_hyp pU;change L prog 230 #[aa #[I .i64 4,I Y 0,I Y 0,I Y 0,I Y 0,I U 0,I U 0,D A ps.length c],Q ⟨t.toArray⟩,D (N ⟨g,0,Z⟩) f.length f.length] w _|change L prog 230 #[aa #[I .i64 3,I Y 0,I Y 0,I Y 0,I Y 0,I U 0,I U 0,D A ps.length c],Q ⟨t.toArray⟩,D (N ⟨g,0,Z⟩) f.length f.length] w _;have k2:=keW (List.replicate f.length J) f (w.heap.size+1) g aF (by simp) (by simp;omega) hM.o iL.o;rw[kfP,uj9] at k2;have hy:=hD k2;clear k2);go_enter func230,ntmps230;go_upto_region 1 with (fail);rw[←cd.o];have nE:=hQ.o;go_upto_region 2 with (fail);clear nE;rw[←e1.o];clear cd e1 hQ;obtain ⟨⟨⟨aN,aM⟩,aZ,bC⟩,⟨b1,c5⟩,ct,bI⟩:=co.o.cells;(first|guard_hyp pU;clear aN aM aZ bC b1 c5 ct bI;obtain ⟨⟨⟨aN,aM⟩,aZ,bC⟩,⟨b1,c5⟩,ct,bI⟩:=co.o.cells|skip);go_wp2_with fail
  first
  |guard_hyp pU;go_loopg [7,10] (ps.length+1) (fun f9 o i wr=>∃ k hG:Nat,i=I U k∧k≤ps.length∧ps.length<k+f9∧o=D (N ⟨hG,0,Z⟩) f.length f.length∧w.heap.size≤hG∧Hz (((ps.take k).foldl (fun o p=>Rg.orB o (Rg.mar n p t f)) (List.replicate f.length J)).length=t.length+1)∧Hz (BoAt wr hG ((ps.take k).foldl (fun o p=>Rg.orB o (Rg.mar n p t f)) (List.replicate f.length J)))∧Hz (R8 wr w (I U 4) (I Y 0) (I Y 0) (I Y 0) (I Y 0) (I U 0) (I U 0) (D A ps.length c))∧Hz (BoAt wr g f)∧Hz (H w w wr))
   case atStart=>exact ⟨0,w.heap.size+1,rfl,oM,oM,rfl,oM,hD (by simp;exact ij.o),hM,co,iL,bo⟩
  |refine hy.o.mono ?_;rintro cG a6 ⟨b3,gV,mb,rfl,oy⟩;have bU:=bT bo b3;have cX:=hD (co.o.below b3 co.o.lt);have lW:=hD oy;clear b3 oy hy aN aM aZ bC b1 c5 ct bI co hM iL;go_wp2_with fail;go_loopg [7,9] (ps.length+1) (fun f9 o i wr=>∃ k hG:Nat,i=I U k∧k≤ps.length∧ps.length<k+f9∧o=D (N ⟨hG,0,Z⟩) f.length f.length∧w.heap.size≤hG∧Hz (((ps.take k).foldl (fun a p=>Rg.mar n p t a) f).length=t.length+1)∧Hz (BoAt wr hG ((ps.take k).foldl (fun a p=>Rg.mar n p t a) f))∧Hz (R8 wr w (I U 3) (I Y 0) (I Y 0) (I Y 0) (I Y 0) (I U 0) (I U 0) (D A ps.length c))∧Hz (H w w wr))
   case atStart=>exact ⟨0,gV,rfl,oM,oM,rfl,oM,ij,lW,cX,bU⟩
  case round=>(first|guard_hyp pU;clear bo co hM iL aN aM aZ bC b1 c5 ct bI;obtain ⟨k,hG,rfl,aw,fo,rfl,rS,eg,c1,a1,fh,aV⟩:=hrel|clear bU cX lW;obtain ⟨k,hG,rfl,aw,fo,rfl,rS,eg,c1,a1,aV⟩:=hrel);have SC:=();exact kgI):=h
def kfp (h:P:=by have SD:=();exact kgJ):=h
def knm (h:P:=by unfold RxV at au;obtain ⟨A,c,bV,rfl,dx,dU⟩:=au;unfold Rx.size at ax al;have dN:=bZ t;have hP:=hD ax;(first|guard_hyp xh;clear az|skip);obtain ⟨fQ,iQ,b4,dc,lA,jU,hQ⟩:=hd7 dx dU hF bQ eE dw (kfY f.length oM);(first|guard_hyp xh;obtain ⟨aq,aQ⟩:=xE (w.alloc (y #[I .i64 2,I Y aT,I Y aU,I Y aX,I Y a2,I U 0,I U 0,D A ps.length c] 105))|obtain ⟨aq,aQ⟩:=xE (w.alloc (y #[I .i64 1,I Y 0,I Y 0,I Y 0,I Y 0,I U 0,I U 0,D A ps.length c] 105)));have SE:=();exact knh):=h
def kmx (h:P:=by unfold RxV at au;obtain ⟨A,c,bV,rfl,dx,dU⟩:=au;unfold Rx.size at ax al;have dN:=bZ t;obtain ⟨hP,fQ,iQ,b4,dc,lA,jU,hQ⟩:=hd8 ax dx dU hF bQ eE dw (kfY f.length oM);(first|guard_hyp pU;obtain ⟨aq,aQ⟩:=xE (w.alloc (y #[I .i64 4,I Y 0,I Y 0,I Y 0,I Y 0,I U 0,I U 0,D A ps.length c] 105))|obtain ⟨aq,aQ⟩:=xE (w.alloc (y #[I .i64 3,I Y 0,I Y 0,I Y 0,I Y 0,I U 0,I U 0,D A ps.length c] 105)));exact knh):=h
def kfk (n:Nat):Prop:=∀(r:Rx),r.size≤n→∀(t:List UInt8) (cs:List C) (w:O) (F:Nat→Prop) (g:Nat) (f:List Bool),RxV w F r cs→(∀ i,F i→i<w.heap.size)→r.fmd→r.mat→r.size≤1000000000→BoAt w g f→f.length=t.length+1→t.length≤100000→
 L prog 230 #[aa cs.toArray,Q ⟨t.toArray⟩,D (N ⟨g,0,Z⟩) f.length f.length] w (kdk w (Rg.mar n r t f))
def BoAt.below {w w':O} {g:Nat} {l:List Bool} (h:BoAt w g l) (ak:H w w w'):BoAt w' g l:=Blk.below h ak (Blk.lt h)
def krm {α β:Type} {E:α→β→α} {l:List β} {k:Nat} {x:β} {a:α} (h:l[k]? =N x):(l.take (k+1)).foldl E a=E ((l.take k).foldl E a) x:=by rw[ue0,h,uo4];rfl
def kzB (n:Nat) (bQ:kfk n) (ps:List Rx) (ax:(Rx.node 1 0 0 0 0 0 0 ps).size≤n+1) (t:List UInt8) (cs:List C) (w:O) (F:Nat→Prop) (g:Nat) (f:List Bool) (au:RxV w F (Rx.node 1 0 0 0 0 0 0 ps) cs) (hF:∀ i,F i→i<w.heap.size) (eE:kap ps) (dw:kar ps) (al:(Rx.node 1 0 0 0 0 0 0 ps).size≤1000000000) (j9:BoAt w g f) (iu:f.length=t.length+1) (lc:t.length≤100000):
 L prog 230 #[aa cs.toArray,Q ⟨t.toArray⟩,D (N ⟨g,0,Z⟩) f.length f.length] w (kdk w (Rg.mar (n+1) (Rx.node 1 0 0 0 0 0 0 ps) t f)):=by
 exact knm
def kzz (n:Nat) (bQ:kfk n) (ps:List Rx) (ax:(Rx.node 3 0 0 0 0 0 0 ps).size≤n+1) (t:List UInt8) (cs:List C) (w:O) (F:Nat→Prop) (g:Nat) (f:List Bool) (au:RxV w F (Rx.node 3 0 0 0 0 0 0 ps) cs) (hF:∀ i,F i→i<w.heap.size) (eE:kap ps) (dw:kar ps) (al:(Rx.node 3 0 0 0 0 0 0 ps).size≤1000000000) (j9:BoAt w g f) (iu:f.length=t.length+1) (lc:t.length≤100000):
 L prog 230 #[aa cs.toArray,Q ⟨t.toArray⟩,D (N ⟨g,0,Z⟩) f.length f.length] w (kdk w (Rg.mar (n+1) (Rx.node 3 0 0 0 0 0 0 ps) t f)):=by
 exact kmx
def kzy (n:Nat) (bQ:kfk n) (ps:List Rx) (ax:(Rx.node 4 0 0 0 0 0 0 ps).size≤n+1) (t:List UInt8) (cs:List C) (w:O) (F:Nat→Prop) (g:Nat) (f:List Bool) (au:RxV w F (Rx.node 4 0 0 0 0 0 0 ps) cs) (hF:∀ i,F i→i<w.heap.size) (eE:kap ps) (dw:kar ps) (al:(Rx.node 4 0 0 0 0 0 0 ps).size≤1000000000) (j9:BoAt w g f) (iu:f.length=t.length+1) (lc:t.length≤100000):
 L prog 230 #[aa cs.toArray,Q ⟨t.toArray⟩,D (N ⟨g,0,Z⟩) f.length f.length] w (kdk w (Rg.mar (n+1) (Rx.node 4 0 0 0 0 0 0 ps) t f)):=by
 have pU:=();exact kmx
def kf4 (W k:Nat):(((W:Int) / 2^k).tmod 2==1)=decide (W / 2^k % 2=1):=by
 have h:((W:Int) / 2^k)=((W / 2^k:Nat):Int):=(by rw[Int.natCast_ediv,Int.natCast_pow];rfl);rw[h];generalize W / 2^k=m;have ao:((m:Int)).tmod 2=((m % 2:Nat):Int):=(by rw[Int.tmod_eq_emod_of_nonneg oM];omega);rw[ao];by_cases av:m % 2=1
 .rw[av];rfl
 .have bk:m % 2=0:=oM;rw[bk];rfl
def kra (aT aU aX a2:Nat) (aD:aT<2^64) (af:aU<2^64) (ao:aX<2^64) (av:a2<2^64) (b:Nat) (ak:b<256) (w:O):
 L prog 161 #[aa #[I .u64 aT,I Y aU,I Y aX,I Y a2],I ai b] w fun e w'=>e=ac (V (Rg.has (aT,aU,aX,a2) b))∧H w w w':=by
 have aV:=hD (kat w (y #[I .u64 aT,I Y aU,I Y aX,I Y a2] 102));obtain ⟨aq,aQ⟩:=xE (w.alloc (y #[I .u64 aT,I Y aU,I Y aX,I Y a2] 102));have aH:=bM aQ;rw[←aQ] at aV;have cd:=hD aQ;obtain ⟨W,dH,hWl⟩:∃ W,Rg.word (aT,aU,aX,a2) (b / 64)=W∧W<2^64:=⟨_,rfl,by unfold Rg.word;split;exact aD;split;exact af;split;exact ao;exact av⟩;have aC:aq.cell? ⟨w,b / 64,Z⟩=N (I Y W):=(by rw[aH.cell,←dH];have bj:b / 64=0∨b / 64=1∨b / 64=2∨b / 64=3:=oM;rcases bj with e|e|e|e <;> rw[e] <;> rfl);have bq:=hD (show Rg.has (aT,aU,aX,a2) b=decide (W / 2^(b % 64) % 2=1) by unfold Rg.has;rw[dH]);have cU:(b:Int) / 64<4:=oM;have bE:(0:Int)≤(b:Int) / 64:=oM;have c2:((b:Int) / 64).toNat=b / 64:=oM;clear aQ aH dH aD af ao av;go_enter func161,ntmps161;go_upto_region 1 with (fail);rw[←cd.o];clear cd;go_wp2_with fail;go_ret;exact ⟨by rw[bq.o,←kf4];rfl,aV.o⟩
def koI {α:Type} {bl:List α} {k:Nat} {aC z:α} (h:bl[k]? =N aC) (m:Nat):(bl.take k++List.replicate (m+1) z).set k aC=bl.take (k+1)++List.replicate m z:=by
 have aw:k<bl.length:=by
  rcases ug1 k bl.length with af|af
  .exact af
  .rw[ud5 af] at h;cases h
 exact klH
def ktX {s:Rg.W4} {t:List UInt8} {f:List Bool} {k:Nat} {x:Bool} {b:UInt8} (aA:f[k]? =N x) (ak:t[k]? =N b):(Rg.step2 s t f)[k+1]? =N (x&&Rg.has s b.toNat):=by unfold Rg.step2;rw[gC,List.getElem?_zipWith,aA,ak]
def kpe {w:O} {g:Nat} {v0 dX eb v3 v4 v5 fw eQ:C} (h:R8 w g v0 dX eb v3 v4 v5 fw eQ):w.cell? ⟨g,1,Z⟩=N dX∧w.cell? ⟨g,2,Z⟩=N eb∧w.cell? ⟨g,3,Z⟩=N v3∧w.cell? ⟨g,4,Z⟩=N v4:=by obtain ⟨⟨⟨_,aW⟩,bc,br⟩,⟨bL,_⟩,_,_⟩:=h.cells;exact ⟨aW,bc,br,bL⟩
def ktW {s:Rg.W4} {t:List UInt8} {f:List Bool} (h:f.length=t.length+1):(Rg.step2 s t f).length=t.length+1:=by unfold Rg.step2;rw[uc8,us0,h];omega
def kzA (n:Nat) (bQ:kfk n) (aT aU aX a2:Nat) (ps:List Rx) (ax:(Rx.node 2 aT aU aX a2 0 0 ps).size≤n+1) (t:List UInt8) (cs:List C) (w:O) (F:Nat→Prop) (g:Nat) (f:List Bool) (au:RxV w F (Rx.node 2 aT aU aX a2 0 0 ps) cs) (hF:∀ i,F i→i<w.heap.size) (az:ps.length=0) (aD:aT<2^64) (af:aU<2^64) (ao:aX<2^64) (av:a2<2^64) (eE:kap ps) (dw:kar ps) (al:(Rx.node 2 aT aU aX a2 0 0 ps).size≤1000000000) (j9:BoAt w g f) (iu:f.length=t.length+1) (lc:t.length≤100000):
 L prog 230 #[aa cs.toArray,Q ⟨t.toArray⟩,D (N ⟨g,0,Z⟩) f.length f.length] w (kdk w (Rg.mar (n+1) (Rx.node 2 aT aU aX a2 0 0 ps) t f)):=by
 have xh:=();exact knm
def km0 (h:P:=by
 have hY:=zN.o wr aV.o;have bu:=hY 0 _ rfl;have bY:=hY 1 _ rfl;have cP:=hY 2 _ rfl;have c8:=hY 3 _ rfl;have dj:=hY 4 _ rfl;have gK:=hY 5 _ rfl;have f3:=hY 6 _ rfl;have h2:=hY 7 _ rfl;rw[uh4] at bu
 first
 |guard_hyp Sz;have an:=KO.o wr hG _ aV.o c1.o eg.o;rw[←khe E k f] at an;have a8:=hD an;have kq:Hz ((Rg.rep E (k+1) f).length=t.length+1):=hD (by rw[khe];exact o3.o _ eg.o);clear hY an;go_wp2_with fail;refine a8.o.mono ?_;rintro cG aK ⟨bv,iA,s8,rfl,gc⟩;have oQ:=aV.o.size;have cA:=bT aV bv;obtain ⟨da,ih,n3⟩:=hd3 (a1.o.below bv a1.o.lt) (cf.o.below bv) gc;clear bv gc a8 aV a1 c1 cf aN aM aZ bC b1 c5 ct bI bu bY cP c8 dj gK f3 h2;rw[kq.o,←ij.o];go_wp2_with fail;go_roundg f9
  case measure=>omega
  case rel=>exact ⟨k+1,iA,by go_num,oM,oM,rfl,oM,kq,n3,ih,da,cA⟩
 |have an:=KO.o wr gD a aV.o Kx.o Kw.o;have eI:=o3.o a Kw.o;have eE:=krv (o:=o) (a:=E a) (by rw[eI,kV.o]);obtain ⟨CA,KA⟩:=xE (E a);obtain ⟨M,h3⟩:=xE (Rg.orB o CA);rw[←KA] at an eI pe eE;rw[←h3] at pe eE;have rm:M.length=t.length+1:=(by rw[h3,kfO (by rw[eI,kV.o]),kV.o]);obtain ⟨a8,ym,FK⟩:=hd3 an eI rm;have KB:Hz (CA.length=f.length):=hD (eI.trans ij.o.symm);have KC:Hz (M.length=f.length):=hD (rm.trans ij.o.symm);obtain ⟨ro,KD,jZ⟩:=hd3 h3 pe eE.2;have oQ:=aV.o.size
  have Jz:(decide (z<eF)=K)∨(decide (z<eF)=J∧decide (eF<0)=K):=by
   by_cases n7:z<eF
   .exact .inl (ub3 n7)
   .exact .inr ⟨ua5 n7,ub3 oM⟩
  clear hY an eI rm KA h3 pe eE HJ xg;rcases Jz with s1|⟨s1,s2⟩
  .exact kl5
  .exact kl5):=h
def kl5 (h:P:=by
 go_wp2_with fail;refine a8.o.mono ?_;rintro cG aK ⟨bv,iA,s8,rfl,gc⟩;have cA:=bT aV bv;have da:=hD (a1.o.below bv a1.o.lt);have KE:=hD gc;have vl:=wx.o.below bv;have KF:=hD vl;have aI:=keW o CA tM iA aK (by rw[ym.o,kV.o]) (by rw[kV.o];omega) vl gc;rw[←ro.o,KB.o,kV.o,←ij.o] at aI;have hy:=hD aI;have hzr4:=bv.size;clear aI vl bv gc a8 aV a1 Kx wx aN aM aZ bC b1 c5 ct bI bu bY cP c8 dj gK f3 h2;rw[KB.o];go_wp2_with fail;refine hy.o.mono ?_;rintro cG bm ⟨cQ,tb,g3,rfl,xH⟩;have cN:=bT cA cQ;have dQ:=hD (da.o.below cQ da.o.lt);have zL:=hD (KE.o.below cQ);have vl:=KF.o.below cQ;have KG:=hD vl;have BI:=hD xH;have al:=kyL M o tb tM bm (by rw[FK.o,kV.o]) (by rw[FK.o];omega) xH vl;rw[KC.o,kV.o,←ij.o] at al;obtain ⟨tN,zM⟩:=xE (decide (M=o));rw[←zM] at al;have b7:=hD al;have KH:=hD zM;clear al zM vl cQ xH hy cA da KE KF;rw[KC.o];go_wp2_with fail;refine b7.o.mono ?_;rintro cG du ⟨rfl,eu⟩;have f1:=bT cN eu;obtain ⟨hC,SF,SG,SH⟩:=hd4 (dQ.o.below eu dQ.o.lt) (zL.o.below eu) (BI.o.below eu) (KG.o.below eu);clear eu b7 cN dQ zL BI KG
 cases tN with
 |true=>have xi:M=o:=ug4 KH.o.symm;have pe:=KD.o;rw[ua1 xi] at pe;have zK:=hD (KJ.o.trans pe.symm);clear xi pe;go_wp2_with fail;go_ret;exact ⟨f1.o,tM,up,by rw[zK.o,kV.o,ij.o];rfl,by rw[zK.o];exact SH.o⟩
 |false=>
  have xi:M≠o:=uh9 KH.o.symm;have pe:=KD.o;rw[ua0 xi] at pe;have fl:=jZ.o xi;have SI:=hD pe;clear xi pe;go_wp2_with fail;go_roundg f9
  case measure=>omega
  case rel=>exact ⟨z+1,dS,CA,M,iA,tb,rfl,rfl,rfl,oM,oM,oM,oM,oM,oM,SI,ym,FK,SF,SG,hC,f1⟩):=h
theorem khe {α:Type} (E:α→α):∀(k:Nat) (a:α),Rg.rep E (k+1) a=E (Rg.rep E k a)
 |0,_=>rfl
 |k+1,a=>khe E k (E a)
def kAu {n:Nat} {lo hi eh eF:Int} {ps:List Rx} {x:Rx} (h:Rg.flat n lo hi ps=(eh,eF,[x])) (t:List UInt8) (f:List Bool):
 Rg.mar (n+1) (Rx.node 5 0 0 0 0 lo hi ps) t f=Rg.grow (Rg.mar n x t) (Rg.turns eh eF f.length) (Rg.rep (Rg.mar n x t) eh.toNat f) (Rg.rep (Rg.mar n x t) eh.toNat f):=by
 rw[Rg.mar,ua0 dC,ua0 dC,ua0 dC,ua0 dC,h];rfl
def kzZ {m kd:Nat} {lo hi lo2 hi2:Int} {a0 aY bh a3:Nat} {ps:List Rx} (af:lo≤1) (ao:hi<0) (av:kd=5) (bk:lo2≤1) (cb:hi2≠0):Rg.flat (m+1) lo hi [.node kd a0 aY bh a3 lo2 hi2 ps]=Rg.flat m (min lo lo2) (-1) ps:=ua1 ⟨af,ao,av,bk,cb⟩
def kga {m:Nat} {lo hi:Int} {ps:List Rx} (h:¬(lo≤1∧hi<0∧(Rg.hd ps).kd=5∧(Rg.hd ps).lo≤1∧(Rg.hd ps).hi≠0)):Rg.flat (m+1) lo hi ps=(lo,hi,ps):=ua0 h
structure Ct (w:O) (F:Nat→Prop) (n:Nat) (lo hi:Int) (x:Rx) (A:Option ae) (bV:List C):Prop where
 lo0:0≤lo
 lo1:lo≤64
 hi0: -1≤hi
 hi1:hi≤64
 sz:x.size≤n
 big:x.size≤1000000000
 fmd:x.fmd
 mat:x.mat
 rd:RdF w F 8 A 1 bV
 vs:RxV w F x bV
def kzx (n:Nat) (bQ:kfk n) (lo hi:Int) (ps:List Rx) (ax:(Rx.node 5 0 0 0 0 lo hi ps).size≤n+1) (t:List UInt8) (cs:List C) (w:O) (F:Nat→Prop) (g:Nat) (f:List Bool) (au:RxV w F (Rx.node 5 0 0 0 0 lo hi ps) cs) (hF:∀ i,F i→i<w.heap.size) (az:ps.length=1) (kN:0≤lo) (Dq:lo≤64) (dD: -1≤hi) (Nd:hi≤64) (eE:kap ps) (dw:kar ps) (al:(Rx.node 5 0 0 0 0 lo hi ps).size≤1000000000) (j9:BoAt w g f) (iu:f.length=t.length+1) (lc:t.length≤100000):
 L prog 230 #[aa cs.toArray,Q ⟨t.toArray⟩,D (N ⟨g,0,Z⟩) f.length f.length] w (kdk w (Rg.mar (n+1) (Rx.node 5 0 0 0 0 lo hi ps) t f)):=by
 unfold RxV at au;obtain ⟨A,c,bV,rfl,dx,dU⟩:=au;unfold Rx.size at ax al;have dN:=bZ t;have hP:=hD ax;obtain ⟨be,rfl⟩:∃ x,ps=[x]:=um5.1 az;clear az;have me:([be]:List Rx).length=1:=rfl;rw[me] at dx;have KI:RxV w F be bV:=(by exact kh2);have FL:Ct w F n lo hi be A bV:=⟨kN,Dq,dD,Nd,by rw[kcc] at ax;omega,by rw[kcc] at al;omega,by unfold kap at eE;exact eE.1,by unfold kar at dw;exact dw.1,dx,KI⟩;have FM:=hD FL;have FN:be.size≤n:=FL.sz;clear KI FL kN Dq dD Nd me;obtain ⟨b4,dc,hQ⟩:=hd3 hF bQ (kfY f.length oM);obtain ⟨aq,aQ⟩:=xE (w.alloc (y #[I .i64 5,I Y 0,I Y 0,I Y 0,I Y 0,I U lo,I U hi,D A 1 c] 105));have dT:=bR aQ;have c4:=bA aQ;have fy:=wS aQ;have cd:=hD aQ;have fP:=kat aq (y (kbI (List.replicate f.length J)) 4);have hM:=hD (show BoAt (aq.alloc (y (kbI (List.replicate f.length J)) 4)) (w.heap.size+1) (List.replicate f.length J) by rw[←fy];exact Blk.new aq _ _);obtain ⟨aF,bW⟩:=xE (aq.alloc (y (kbI (List.replicate f.length J)) 4));rw[←bW] at hM fP;have co:=hD (dT.below fP dT.lt);have bo:=hD (c4.trans (fP.mono c4.size));have iL:=hD (j9.below bo.o);have e1:=hD bW;have lu:aF.heap.size=w.heap.size+2:=(by rw[bW];simp;omega);have ef:=j9.lt;have ic:Hz (Rg.mar (n+1) (Rx.node 5 0 0 0 0 lo hi [be]) t f=Rg.mar (n+1) (Rx.node 5 0 0 0 0 lo hi [be]) t f):=hD rfl;have ij:=hD iu;have yY:f.length≤100001:=oM;clear dx dU hF bQ eE dw j9 dT c4 aQ fP bW ax iu;change L prog 230 #[aa #[I .i64 5,I Y 0,I Y 0,I Y 0,I Y 0,I U lo,I U hi,D A 1 c],Q ⟨t.toArray⟩,D (N ⟨g,0,Z⟩) f.length f.length] w _;obtain ⟨es,bK⟩:=xE (Rg.mar (n+1) (Rx.node 5 0 0 0 0 lo hi [be]) t f);rw[←bK];have fz:=hD bK;clear bK ic;go_enter func230,ntmps230;go_upto_region 1 with (fail);rw[←cd.o];have nE:=hQ.o;go_upto_region 2 with (fail);clear nE;rw[←e1.o];clear cd e1 hQ;obtain ⟨⟨⟨aN,aM⟩,aZ,bC⟩,⟨b1,c5⟩,ct,bI⟩:=co.o.cells;clear aN aM aZ bC b1 c5 ct bI;obtain ⟨⟨⟨aN,aM⟩,aZ,bC⟩,⟨b1,c5⟩,ct,bI⟩:=co.o.cells;go_upto_block 7 with (fail);go_cut [] (fun wr=>∃(eh eF:Int) (x:Rx) (dd:Option ae) (cS:Nat) (lG:List C),Hz (Rg.flat n lo hi [be]=(eh,eF,[x]))∧Hz (Ct w F n eh eF x dd lG)∧Hz (BoAt wr (w.heap.size+1) (List.replicate f.length J))∧Hz (R8 wr w (I U 5) (I Y 0) (I Y 0) (I Y 0) (I Y 0) (I U eh) (I U eF) (D dd 1 cS))∧Hz (BoAt wr g f)∧Hz (H w w wr))
 case first=>
  go_wp2_with fail;go_loopg [] (n+1) (fun f9 wr=>∃(eh eF:Int) (x:Rx) (dd:Option ae) (cS:Nat) (lG:List C) (m:Nat),Hz (Rg.flat m eh eF [x]=Rg.flat n lo hi [be])∧m<f9∧x.size≤m∧Hz (Ct w F n eh eF x dd lG)∧Hz (BoAt wr (w.heap.size+1) (List.replicate f.length J))∧Hz (R8 wr w (I U 5) (I Y 0) (I Y 0) (I Y 0) (I Y 0) (I U eh) (I U eF) (D dd 1 cS))∧Hz (BoAt wr g f)∧Hz (H w w wr))
  case atStart=>exact ⟨lo,hi,be,A,c,bV,n,hD rfl,oM,FN,FM,hM,co,iL,bo⟩
  case round=>clear bo co hM iL FM aN aM aZ bC b1 c5 ct bI FN;obtain ⟨eh,eF,x,dd,cS,lG,m,rv,AW,FO,fv,c1,a1,fh,aV⟩:=hrel;have SJ:=();exact kgI
 case rest=>
  clear bo co hM iL FM FN aN aM aZ bC b1 c5 ct bI;obtain ⟨eh,eF,x,dd,cS,lG,rv,fv,c1,a1,fh,aV⟩:=hcut;have rn:=fv.o.lo0;have jV:=fv.o.lo1;have kZ:=fv.o.hi0;have wF:=fv.o.hi1;obtain ⟨E,ce⟩:=xE (fun a=>Rg.mar n x t a);obtain ⟨a5,FP⟩:=xE (Rg.rep E eh.toNat f);obtain ⟨FQ,FR⟩:=xE (Rg.grow E (Rg.turns eh eF f.length) a5 a5);have KJ:Hz (es=FQ):=hD (by rw[fz.o,kAu rv.o,FR,FP,ce]);have KK:∀ a,a.length=t.length+1→(E a).length=t.length+1:=fun a h=>by rw[ce];exact kgb n x t a h
  have o3:=hD KK;have ra:=fv.o.sz;obtain ⟨cx,dp,rfl,j6,eZ,cq⟩:=fv.o.rd.2 oM;obtain ⟨kd,a0,aY,bh,a3,KL,KM,zab,li,KN,rfl⟩:=fv.o.vs.eight;have zN:=hD (fun (W:O) (ak:H w w W) (j:Nat) (u:C) (aI: [I .i64 kd,I Y a0,I Y aY,I Y bh,I Y a3,I U KL,I U KM,D zab li KN][j]? =N u)=>(ak.cell (p:=⟨cx,dp+j,Z⟩) eZ).trans (cq j u aI));have KO:Hz (∀(W:O) (hG:Nat) (a:List Bool),H w w W→BoAt W hG a→a.length=t.length+1→L prog 230 #[aa #[I .i64 kd,I Y a0,I Y aY,I Y bh,I Y a3,I U KL,I U KM,D zab li KN],Q ⟨t.toArray⟩,D (N ⟨hG,0,Z⟩) f.length f.length] W (kdk W (E a))):=hD (fun W hG a ak bf az=>by have:=dc.o x ra t _ W F hG a (fv.o.vs.kept (Kept.of_below (F:=fun _=>False) ak) (fun _ _ _=>id) (fun i hi _=>hi)) (fun i hi=>ua7 (b4.o i hi) ak.size) fv.o.fmd fv.o.mat fv.o.big bf az lc;rw[az,←ij.o] at this;rw[ce];exact this);have zL:=hD FP;have kc:=hD FR;have k2:=keW (List.replicate f.length J) f (w.heap.size+1) g wc (by simp) (by simp;omega) c1.o fh.o;rw[kfP,uj9] at k2;have hy:=hD k2;clear k2 ce FP FR KK cq ra;go_wp2_with fail;refine hy.o.mono ?_;rintro cG a6 ⟨b3,gV,mb,rfl,oy⟩;have DK:=aV.o.size;have bU:=bT aV b3;obtain ⟨cX,lW,fX⟩:=hd3 (a1.o.below b3 a1.o.lt) oy (c1.o.below b3);clear b3 oy hy a1 c1 fh aV;go_wp2_with fail;go_loopg [11,12] 66 (fun f9 at_ i wr=>∃ k hG:Nat,i=I U k∧(k:Int)≤eh∧eh<k+f9∧at_=D (N ⟨hG,0,Z⟩) f.length f.length∧w.heap.size≤hG∧Hz ((Rg.rep E k f).length=t.length+1)∧Hz (BoAt wr hG (Rg.rep E k f))∧Hz (BoAt wr (w.heap.size+1) (List.replicate f.length J))∧Hz (R8 wr w (I U 5) (I Y 0) (I Y 0) (I Y 0) (I Y 0) (I U eh) (I U eF) (D (N ⟨cx,dp,Z⟩) 1 cS))∧Hz (H w w wr))
  case atStart=>exact ⟨0,gV,rfl,oM,oM,rfl,oM,ij,lW,fX,cX,bU⟩
  case round=>clear bU cX lW fX;obtain ⟨k,hG,rfl,aw,fo,rfl,rS,eg,c1,cf,a1,aV⟩:=hrel;exact kgI
def leC:List Rg.W4→List C
 |[]=>[]
 |s::l=>I Y (s.1:Nat)::I Y (s.2.1:Nat)::I Y (s.2.2.1:Nat)::I Y (s.2.2.2:Nat)::leC l
theorem kqb:∀(l l':List Rg.W4),leC (l++l')=leC l++leC l'
 |[],_=>rfl
 |s::l,l'=>by rw[ui4,leC,kqb l l'];rfl
theorem kqa:∀ {l:List Rg.W4} {k:Nat} {s:Rg.W4},l[k]? =N s→(leC l)[k*4]? =N (I Y (s.1:Nat))∧(leC l)[k*4+1]? =N (I Y (s.2.1:Nat))∧(leC l)[k*4+2]? =N (I Y (s.2.2.1:Nat))∧(leC l)[k*4+3]? =N (I Y (s.2.2.2:Nat))
 |[],_,_,h=>by simp at h
 |aC::l,0,s,h=>by simp only[gB,ug0] at h;subst h;exact ⟨rfl,rfl,rfl,rfl⟩
 |aC::l,k+1,s,h=>by rw[gC] at h;have:=kqa h;rw[leC,show (k+1)*4=k*4+1+1+1+1 by omega];exact this
def kcJ (t:ah):Prop:=t=224∨t=102∨t=100
structure KCh (c:Nat) (a b:O):Prop where
 os:b.os=a.os
 tape:b.tape=a.tape
 output:b.output=a.output
 size:a.heap.size≤b.heap.size
 low:∀ i,i<c→i<a.heap.size→b.heap[i]? =a.heap[i]?
 far:∀ i t cs,Blk a i t cs→¬kcJ t→Blk b i t cs
def KCh.refl (c:Nat) (w:O):KCh c w w:=⟨rfl,rfl,rfl,nR,fun _ _ _=>rfl,fun _ _ _ h _=>h⟩
def KCh.trans {c:Nat} {aq aF a6:O} (h:KCh c aq aF) (k:KCh c aF a6):KCh c aq a6:=
 ⟨k.os.trans h.os,k.tape.trans h.tape,k.output.trans h.output,uc9 h.size k.size,fun i af ao=>(k.low i af (ua7 ao h.size)).trans (h.low i af ao),fun i t cs ak aB=>k.far i t cs (h.far i t cs ak aB) aB⟩
def KCh.of_below {c:Nat} {w w':O} (h:H w w w'):KCh c w w':=⟨h.os,h.tape,h.output,h.size,fun i _ ao=>h.block i ao,fun _ _ _ ak _=>ak.below h ak.lt⟩
def KCh.set {c:Nat} {w:O} {p:ae} {t:ah} {cs:Array C} (aO:Blk w p.block t cs) (an:c≤p.block) (aB:kcJ t) (u:C):KCh c w (w.setCell p u):=
 ⟨rfl,rfl,rfl,by simp[World.setCell],fun i af _=>ud7 _ _ _ _ (by omega),fun i t' eo ak h4=>Blk.far ak (p:=p) (fun e=>by subst e;unfold Blk at ak aO;rw[ak] at aO;injection aO with aO;injection aO with _ ao _;subst ao;exact h4 aB) u⟩
def KCh.grown {c:Nat} {w w':O} {row:Option Nat} (hg:w.grownBy w' row) (am:∀ g,row=N g→c≤g∧∃ t cs,Blk w g t cs∧kcJ t):KCh c w w':=
 ⟨hg.os,hg.tape,hg.output,hg.size,fun i af ao=>hg.block i ao (fun e=>by have:=(am i e.symm).1;omega),fun i t cs ak aB=>Blk.grown ak hg (fun e=>by obtain ⟨_,t',eo,gW,h4⟩:=am i e.symm;unfold Blk at ak gW;rw[ak] at gW;injection gW with gW;injection gW with _ ao _;subst ao;exact aB h4)⟩
def KCh.below {c B:Nat} {he w w':O} (h:KCh c w w') (ak:H B he w) (b0:B≤c) (hBw:B≤w.heap.size):H B he w':=
 ⟨h.os.trans ak.os,h.tape.trans ak.tape,h.output.trans ak.output,uc9 ak.size h.size,fun k aw=>(h.low k oM oM).trans (ak.block k aw)⟩
def kvP {w:O} {base size g n cap:Nat} {e:ah} {xs:List C} (h:w.ownsRow base e size (D (N ⟨g,0,Z⟩) n cap) n xs):∃ cur,Blk w g e cur:=by
 rcases h.2 with ⟨fg,_⟩|⟨mH,fE,cur,fg,_,hg,_⟩
 .simp at fg
 .simp only[ut0,ug0,Addr.mk.injEq,ut6,true_and] at fg;obtain ⟨rfl,rfl⟩:=fg;exact ⟨cur,hg⟩
def ChM (w:O) (c:Nat) (bn:Rg.Ch):Prop:=∃ dA aM fD aZ,Blk w c 224 #[D dA bn.S.length aM,D fD bn.F.length aZ]∧w.ownsRow (c+1) 102 4 (D dA bn.S.length aM) bn.S.length (leC bn.S)∧w.ownsRow (c+1) 100 1 (D fD bn.F.length aZ) bn.F.length (nuC bn.F)
def ChM.below {w w':O} {c:Nat} {bn:Rg.Ch} (h:ChM w c bn) (ak:H w w w'):ChM w' c bn:=by obtain ⟨dA,aM,fD,aZ,af,ao,av⟩:=h;exact ⟨dA,aM,fD,aZ,af.below ak af.lt,kaI ao ak,kaI av ak⟩
def ChM.lt {w:O} {c:Nat} {bn:Rg.Ch} (h:ChM w c bn):c<w.heap.size:=by obtain ⟨dA,aM,fD,aZ,af,_⟩:=h;exact af.lt
def KPt (w w':O):Prop:=w.heap.size≤w'.heap.size∧∀ i t cs,Blk w i t cs→kcJ t→Blk w' i t cs
def KPt.refl (w:O):KPt w w:=⟨nR,fun _ _ _ h _=>h⟩
def KPt.trans {a b d:O} (h:KPt a b) (k:KPt b d):KPt a d:=⟨uc9 h.1 k.1,fun i t cs ak aB=>k.2 i t cs (h.2 i t cs ak aB) aB⟩
def KPt.of_below {w w':O} (h:H w w w'):KPt w w':=⟨h.size,fun _ _ _ ak _=>ak.below h ak.lt⟩
def KPt.set {w w':O} (h:KPt w w') {p:ae} {t:ah} {cs:Array C} (aO:Blk w' p.block t cs) (aB:¬kcJ t) (u:C):KPt w (w'.setCell p u):=
 ⟨by simp[World.setCell];exact h.1,fun i t' eo ak h4=>Blk.far (h.2 i t' eo ak h4) (p:=p) (fun e=>by have bs:=h.2 i t' eo ak h4;subst e;unfold Blk at bs aO;rw[bs] at aO;injection aO with aO;injection aO with _ ao _;subst ao;exact aB h4) u⟩
def kpz {w w':O} {base size n:Nat} {e:ah} {v:C} {xs:List C} (h:w.ownsRow base e size v n xs) (k:KPt w w') (aG:kcJ e):w'.ownsRow base e size v n xs:=by
 refine ⟨h.1,?_⟩;rcases h.2 with h|⟨g,cap,cur,af,ao,av,bk⟩
 .exact .inl h
 .exact .inr ⟨g,cap,cur,af,ao,k.2 g e cur av aG,bk⟩
def ChM.kpt {w w':O} {c:Nat} {bn:Rg.Ch} (h:ChM w c bn) (k:KPt w w'):ChM w' c bn:=by obtain ⟨dA,aM,fD,aZ,af,ao,av⟩:=h;exact ⟨dA,aM,fD,aZ,k.2 _ _ _ af (.inl rfl),kpz ao k (.inr (.inl rfl)),kpz av k (.inr (.inr rfl))⟩
def KCh.tail {c:Nat} {w aK w':O} (h:KCh c w aK) (k:H w aK w'):KCh c w w':=
 ⟨k.os.trans h.os,k.tape.trans h.tape,k.output.trans h.output,uc9 h.size k.size,fun i af ao=>(k.block i ao).trans (h.low i af ao),fun i t cs ak aB=>(h.far i t cs ak aB).below k ak.lt⟩
structure ChB (bn:Rg.Ch):Prop where
 ok:bn.ok
 F:∀ x∈bn.F,x<18446744073709551616
 S:∀ s∈bn.S,s.1<18446744073709551616∧s.2.1<18446744073709551616∧s.2.2.1<18446744073709551616∧s.2.2.2<18446744073709551616
def kdu {a b:Nat} (aE:a<18446744073709551616) (ak:b<18446744073709551616):a|||b<18446744073709551616:=Nat.or_lt_two_pow (n:=64) aE ak
def ChB.link {bn:Rg.Ch} (h:ChB bn) {a b:Nat} (ak:b<18446744073709551616):ChB (Rg.link bn a b):=by
 refine ⟨kfZ h.ok a b,fun x aA=>?_,h.S⟩;unfold Rg.link at aA;rw[List.mem_mapIdx] at aA;obtain ⟨i,hi,rfl⟩:=aA;have:=h.F _ (List.getElem_mem hi);split
 .exact kdu this ak
 .exact this
def kcl (F:List Nat) (a b k:Nat):List Nat:=F.mapIdx fun i x=>if i<k∧a / 2^i % 2=1 then x|||b else x
def kxH (F:List Nat) (a b:Nat):kcl F a b 0=F:=by
 unfold kcl;apply uq9
 .simp
 .intro i af ao;simp
def kxL (bn:Rg.Ch) (a b:Nat):kcl bn.F a b bn.F.length=(Rg.link bn a b).F:=by
 unfold kcl Rg.link;apply uq9
 .simp
 .intro i af ao;simp at af;simp[af]
def kxK {F:List Nat} {a b k x:Nat} (h:F[k]? =N x):(kcl F a b k)[k]? =N x:=by unfold kcl;rw[List.getElem?_mapIdx,h];simp
def kxI {F:List Nat} {a b k:Nat} (h:¬a / 2^k % 2=1):kcl F a b (k+1)=kcl F a b k:=by
 unfold kcl;apply uq9
 .simp
 .intro i af ao;simp only[List.getElem_mapIdx];by_cases hi:i=k
  .subst hi;simp[h]
  .by_cases av:i<k
   .simp[av,show i<k+1 by omega]
   .simp[av,show ¬i<k+1 by omega]
def kxJ {F:List Nat} {a b k x:Nat} (aA:F[k]? =N x) (h:a / 2^k % 2=1):kcl F a b (k+1)=(kcl F a b k).set k (x|||b):=by
 unfold kcl;apply uq9
 .simp
 .intro i af ao;rw[List.getElem_set];simp only[List.getElem_mapIdx];by_cases hi:k=i
  .subst hi;have:=(ue1.1 aA).2;simp[h,this]
  .rw[ua0 hi];by_cases av:i<k
   .simp[av,show i<k+1 by omega]
   .simp[av,show ¬i<k+1 by omega]
def kDb (c:Nat) (w:O) (bn:Rg.Ch) (e:Ending) (w':O):Prop:=e=ac (ag #[])∧ChM w' c bn∧KCh c w w'
def kfV {l:List Nat} {k x:Nat} (h:l[k]? =N x):(nuC l)[k]? =N (I Y (x:Int)):=by unfold nuC;rw[ub9,h];rfl
def kwk (l:List Nat) (k x:Nat):(nuC l).set k (I Y (x:Int))=nuC (l.set k x):=by unfold nuC;rw[up8]
def kq5 (c:Nat) (bn:Rg.Ch) (a b:Nat) (w:O) (h:ChM w c bn) (ak:ChB bn) (ax:bn.S.length≤64) (cm:b<18446744073709551616):
 L prog 216 #[ab (N ⟨c,0,Z⟩),I Y a,I Y b] w (kDb c w (Rg.link bn a b)):=by
 obtain ⟨dA,aM,fD,aZ,af,ao,av⟩:=h;obtain ⟨S,F⟩:=bn;dsimp only at af ao av ax;have i8:F.length=S.length:=ak.ok;obtain ⟨ge,vm,xj,n8,xa⟩:=hd5 i8 ak.F ao af av;have ia:=af.lt;clear af ao av ak;go_enter func216,ntmps216;go_wp2_with fail;go_loopg [6] (S.length+1) (fun f i wr=>∃ k:Nat,i=I U k∧k≤S.length∧S.length<k+f∧Hz (Blk wr c 224 #[D dA S.length aM,D fD F.length aZ])∧Hz (wr.ownsRow (c+1) 102 4 (D dA S.length aM) S.length (leC S))∧Hz (wr.ownsRow (c+1) 100 1 (D fD F.length aZ) F.length (nuC (kcl F a b k)))∧Hz (KCh c w wr))
 case atStart=>exact ⟨0,rfl,oM,oM,n8,xj,hD (by rw[kxH];exact xa.o),hD (KCh.refl _ _)⟩
 case round=>
  clear n8 xj xa;obtain ⟨k,rfl,aw,fo,a8,b7,b4,ei⟩:=hrel;obtain ⟨f,rfl⟩:=xS gk;have eD:=a8.o.cell 0;have eS:=a8.o.cell 1;simp only[gA,gB,gC] at eD eS;have bE:=nN k;by_cases bG:k<S.length
  .have cU:(k:Int)<(S.length:Int):=oM;have c2:(k:Int)<(F.length:Int):=oM;by_cases pm:a / 2^k % 2=1
   .have ni:(((a:Int) / 2^k).tmod 2==1)=K:=(by rw[kf4];exact ub3 pm);obtain ⟨x,aA⟩:∃ x,F[k]? =N x:=⟨_,ua3 oM⟩;have ov:=vm.o x (ua4 aA);obtain ⟨eN,bP,zk,fW,Q8⟩:=b4.o.form oM;obtain ⟨rfl, -,rfl⟩:=uj2 zk;have bY:wr.cell? ⟨eN,k,Z⟩=N (I Y (x:Int)):=(by rw[b4.o.cellAt k (by rw[uq5];omega)];exact kfV (kxK aA));have cP:=b4.o.frozenAt k;have pV:=un8 _ _ ov cm;have cg:=b4.o.stored k (I Y ((x|||b:Nat):Int));rw[kwk,←kxJ aA pm] at cg;obtain ⟨cur,jg⟩:∃ cur,Blk wr eN 100 cur:=kvP b4.o;have iq:=KCh.set (c:=c) (p:=⟨eN,k,Z⟩) jg (by show c≤eN;omega) (.inr (.inr rfl)) (I Y ((x|||b:Nat):Int));have vh:=hD (ei.o.trans iq);have xk:=hD cg.1;have uH:=hD (Blk.far a8.o (p:=⟨eN,k,Z⟩) (show c≠eN by omega) (I Y ((x|||b:Nat):Int)));have kb:=hD (b7.o.kept cg.2 (.inr (ka5 b7.o jg dC)));clear pm aA cg iq jg zk;go_wp2_with fail;go_roundg f
    case measure=>omega
    case rel=>exact ⟨k+1,by go_num,oM,oM,uH,kb,xk,vh⟩
   .have ni:(((a:Int) / 2^k).tmod 2==1)=J:=(by rw[kf4];exact ua5 pm);have xk:=hD b4.o;rw[←kxI pm] at xk;clear pm;go_wp2_with fail;go_roundg f
    case measure=>omega
    case rel=>exact ⟨k+1,by go_num,oM,oM,a8,b7,xk,ei⟩
  .obtain rfl:k=S.length:=oM;have b5:=b4.o;rw[show kcl F a b S.length=(Rg.link ⟨S,F⟩ a b).F by rw[←ge.o];exact kxL ⟨S,F⟩ a b] at b5;have xk:=hD b5;clear b5;go_wp2_with fail;go_end0;exact ⟨rfl,⟨dA,aM,fD,aZ,by rw[kjU];exact a8.o,b7.o,by rw[kjU];exact xk.o⟩,ei.o⟩
def kgH (h:P:=by have qA:=un8 _ _ af av;have f8:=un8 _ _ bk ao;(first|(first|guard_hyp vw|guard_hyp xo);obtain ⟨aq,aQ⟩:=xE (w.alloc (y #[V K,I Y fA,I Y eH] 226))|obtain ⟨aq,aQ⟩:=xE (w.alloc (y #[V J,I Y fA,I Y eH] 226)));have np:=bM aQ;have c4:=bA aQ;have fy:=wS aQ;(first|(first|guard_hyp vw|guard_hyp SK);obtain ⟨aF,bW⟩:=xE (aq.alloc (y #[V K,I Y gg,I Y e6] 226))|obtain ⟨aF,bW⟩:=xE (aq.alloc (y #[V J,I Y gg,I Y e6] 226)));have tO:=bM bW;have dZ:=bA bW;rw[fy] at tO;have lu:aF.heap.size=w.heap.size+1+1:=(by rw[bW];simp;omega);obtain ⟨a6,cl⟩:=xE (aF.alloc (y #[V J,I Y 0,I Y 0] 226));have jz:=bM cl;have iM:=bA cl;rw[lu] at jz;have FT:=(c4.trans (dZ.mono c4.size)).trans (iM.mono (uc9 c4.size dZ.size));obtain ⟨mn,kt,jr,zi,KP,cd,e1,ea⟩:=hd8 ((np.below dZ np.lt).below iM (np.below dZ np.lt).lt) (tO.below iM tO.lt) jz (kq5 c bn eH gg a6 (h.below FT) ak ax av) FT aQ bW cl;have ia:=h.lt;have be:=mn.o.cell 0;have b8:=mn.o.cell 1;have cn:=mn.o.cell 2;have bu:=kt.o.cell 0;have bY:=kt.o.cell 1;have cP:=kt.o.cell 2;simp only[gA,gB,gC] at be b8 cn bu bY cP;clear np c4 aQ tO dZ bW jz iM cl FT h ak af ao av bk;go_enter func192,ntmps192;go_upto_region 1 with (fail);rw[←cd.o,←e1.o,←ea.o];clear cd e1 ea;go_wp2_with fail;refine zi.o.mono ?_;rintro e aK ⟨rfl,lb,dg⟩;have r8:=dg.size;have Cr:=KP.o.size;obtain ⟨ET,xl,xm,CB,fR⟩:=hd5 lb (dg.far _ _ _ mn.o kaS) (dg.far _ _ _ kt.o kaS) (dg.far _ _ _ jr.o kaS) ((KCh.of_below KP.o).trans dg);(first|guard_hyp vw;obtain ⟨bm,eM⟩:=xE (aK.alloc (y #[V K,I Y fA,I Y e6] 226))|obtain ⟨bm,eM⟩:=xE (aK.alloc (y #[V J,I Y fA,I Y e6] 226)));have jp:=bM eM;have gq:=bA eM;have g9:=hD eM;have KQ:=xl.o.below gq xl.o.lt;have KR:=xm.o.below gq xm.o.lt;have KS:=CB.o.below gq CB.o.lt;have kJ:=CB.o.lt;obtain ⟨KT,cN,zO,zP,KU,i4⟩:=hd6 (KPt.of_below gq) (show H w aK bm from gq.mono oM) KQ KR KS jp;clear be b8 cn bu bY cP;have be:=xl.o.cell 0;have b8:=xl.o.cell 1;have cn:=xl.o.cell 2;have bu:=xm.o.cell 0;have bY:=xm.o.cell 1;have cP:=xm.o.cell 2;simp only[gA,gB,gC] at be b8 cn bu bY cP;clear lb dg zi mn kt jr xl xm CB jp gq eM KQ KR KS;go_upto_region 3 with (fail);rw[←g9.o];clear be b8 cn bu bY cP g9;have be:=zO.o.cell 0;have b8:=zO.o.cell 1;have cn:=zO.o.cell 2;have bu:=zP.o.cell 0;have bY:=zP.o.cell 1;have cP:=zP.o.cell 2;have fU:=i4.o.cell 0;have eO:=i4.o.cell 1;have gm:=i4.o.cell 2;have b2:=i4.o.frozen 1;have cB:=i4.o.frozen 2;simp only[gA,gB,gC] at be b8 cn bu bY cP fU eO gm;have n7:w.heap.size+1+1<aK.heap.size:=kJ;have CC:=i4;have FU:=KT;have FV:=cN;have KV:=zO;have KW:=zP;have rx:=KU;clear i4 KT cN zO zP KU;(first|(first|guard_hyp vw|guard_hyp xo);have hp:=Blk.mac CC.o 1 (I Y ((fA|||gg:Nat):Int));have FW:=FU.o.set (p:=⟨aK,1,Z⟩) CC.o kaS (I Y ((fA|||gg:Nat):Int));have FX:=FV.o.setCell (p:=⟨aK,1,Z⟩) (show w.heap.size≤aK.heap.size by omega) (I Y ((fA|||gg:Nat):Int));have FY:=Blk.far KV.o (p:=⟨aK,1,Z⟩) (show w.heap.size≠aK.heap.size by omega) (I Y ((fA|||gg:Nat):Int));have FZ:=Blk.far KW.o (p:=⟨aK,1,Z⟩) (show w.heap.size+1≠aK.heap.size by omega) (I Y ((fA|||gg:Nat):Int));have F1:=Blk.far rx.o (p:=⟨aK,1,Z⟩) (show w.heap.size+1+1≠aK.heap.size by omega) (I Y ((fA|||gg:Nat):Int));obtain ⟨du,F2⟩:=xE (bm.setCell ⟨aK,1,Z⟩ (I Y ((fA|||gg:Nat):Int)));rw[←F2] at hp FW FX FY FZ F1;simp only[gE,gF,gG] at hp;obtain ⟨pW,KX,KY,vn,vo,sj,KZ⟩:=hd7 hp FW FX FY FZ F1 F2;clear hp FW FX FY FZ F1 F2|skip);go_upto_region 5 with (fail);(first|guard_hyp vw;rw[←KZ.o];clear be b8 cn bu bY cP fU eO gm b2 cB;have be:=vn.o.cell 0;have b8:=vn.o.cell 1;have cn:=vn.o.cell 2;have bu:=vo.o.cell 0;have bY:=vo.o.cell 1;have cP:=vo.o.cell 2;have fU:=pW.o.cell 0;have eO:=pW.o.cell 1;have gm:=pW.o.cell 2;have b2:=pW.o.frozen 1;have cB:=pW.o.frozen 2;simp only[gA,gB,gC] at be b8 cn bu bY cP fU eO gm;have hB:=Blk.mac pW.o 2 (I Y ((e6|||eH:Nat):Int));have vp:=KX.o.set (p:=⟨aK,2,Z⟩) pW.o kaS (I Y ((e6|||eH:Nat):Int));have vq:=KY.o.setCell (p:=⟨aK,2,Z⟩) (show w.heap.size≤aK.heap.size by omega) (I Y ((e6|||eH:Nat):Int));have vr:=Blk.far vn.o (p:=⟨aK,2,Z⟩) (show w.heap.size≠aK.heap.size by omega) (I Y ((e6|||eH:Nat):Int));have vt:=Blk.far vo.o (p:=⟨aK,2,Z⟩) (show w.heap.size+1≠aK.heap.size by omega) (I Y ((e6|||eH:Nat):Int));have vu:=Blk.far sj.o (p:=⟨aK,2,Z⟩) (show w.heap.size+1+1≠aK.heap.size by omega) (I Y ((e6|||eH:Nat):Int));obtain ⟨dl,vv⟩:=xE (du.setCell ⟨aK,2,Z⟩ (I Y ((e6|||eH:Nat):Int)));rw[←vv] at hB vp vq vr vt vu;simp only[gE,gF,gG] at hB;obtain ⟨xn,F3,F4,CD,CE,ox,K0⟩:=hd7 hB vp vq vr vt vu vv;clear hB vp vq vr vt vu vv|guard_hyp xo;rw[←KZ.o];clear be b8 cn bu bY cP fU eO gm b2 cB;have be:=vn.o.cell 0;have b8:=vn.o.cell 1;have cn:=vn.o.cell 2;have bu:=vo.o.cell 0;have bY:=vo.o.cell 1;have cP:=vo.o.cell 2;have fU:=pW.o.cell 0;have eO:=pW.o.cell 1;have gm:=pW.o.cell 2;have b2:=pW.o.frozen 1;have cB:=pW.o.frozen 2;simp only[gA,gB,gC] at be b8 cn bu bY cP fU eO gm|guard_hyp CF|have hB:=Blk.mac CC.o 2 (I Y ((e6|||eH:Nat):Int));have vp:=FU.o.set (p:=⟨aK,2,Z⟩) CC.o kaS (I Y ((e6|||eH:Nat):Int));have vq:=FV.o.setCell (p:=⟨aK,2,Z⟩) (show w.heap.size≤aK.heap.size by omega) (I Y ((e6|||eH:Nat):Int));have vr:=Blk.far KV.o (p:=⟨aK,2,Z⟩) (show w.heap.size≠aK.heap.size by omega) (I Y ((e6|||eH:Nat):Int));have vt:=Blk.far KW.o (p:=⟨aK,2,Z⟩) (show w.heap.size+1≠aK.heap.size by omega) (I Y ((e6|||eH:Nat):Int));have vu:=Blk.far rx.o (p:=⟨aK,2,Z⟩) (show w.heap.size+1+1≠aK.heap.size by omega) (I Y ((e6|||eH:Nat):Int));obtain ⟨dl,vv⟩:=xE (bm.setCell ⟨aK,2,Z⟩ (I Y ((e6|||eH:Nat):Int)));rw[←vv] at hB vp vq vr vt vu;simp only[gE,gF,gG] at hB;obtain ⟨xn,F3,F4,CD,CE,ox,K0⟩:=hd7 hB vp vq vr vt vu vv;clear hB vp vq vr vt vu vv);go_upto_region 7 with (fail);(first|guard_hyp xo;have r0:=sj.o.cell 0;have d5:=sj.o.cell 1;have fM:=sj.o.cell 2|guard_hyp CF;have r0:=rx.o.cell 0;have d5:=rx.o.cell 1;have fM:=rx.o.cell 2|rw[←K0.o];clear be b8 cn bu bY cP fU eO gm b2 cB;have be:=CD.o.cell 0;have b8:=CD.o.cell 1;have cn:=CD.o.cell 2;have bu:=CE.o.cell 0;have bY:=CE.o.cell 1;have cP:=CE.o.cell 2;have fU:=xn.o.cell 0;have eO:=xn.o.cell 1;have gm:=xn.o.cell 2;have b2:=xn.o.frozen 1;have cB:=xn.o.frozen 2;simp only[gA,gB,gC] at be b8 cn bu bY cP fU eO gm;have r0:=ox.o.cell 0;have d5:=ox.o.cell 1;have fM:=ox.o.cell 2);simp only[gA,gB,gC] at r0 d5 fM;(first|guard_hyp vw;have d8:=ox.o.frozen 0;have g1:=ox.o.frozen 1;have eN:=ox.o.frozen 2;have hd:=Blk.mac (Blk.mac (Blk.mac ox.o 0 (V K)) 1 (I Y ((fA|||gg:Nat):Int))) 2 (I Y ((e6|||eH:Nat):Int));have qb:=F3.o.trans (kcn (w:=dl) ox.o (V K) (I Y ((fA|||gg:Nat):Int)) (I Y ((e6|||eH:Nat):Int)));have rV:=((F4.o.setCell (p:=⟨w.heap.size+1+1,0,Z⟩) (show w.heap.size≤w.heap.size+1+1 by omega) (V K)).setCell (p:=⟨w.heap.size+1+1,1,Z⟩) (show w.heap.size≤w.heap.size+1+1 by omega) (I Y ((fA|||gg:Nat):Int))).setCell (p:=⟨w.heap.size+1+1,2,Z⟩) (show w.heap.size≤w.heap.size+1+1 by omega) (I Y ((e6|||eH:Nat):Int))|guard_hyp xo;have d8:=sj.o.frozen 0;have g1:=sj.o.frozen 1;have eN:=sj.o.frozen 2;have hd:=Blk.mac (Blk.mac (Blk.mac sj.o 0 (V J)) 1 (I Y ((fA|||gg:Nat):Int))) 2 (I Y (e6:Int));have qb:=KX.o.trans (kcn (w:=du) sj.o (V J) (I Y ((fA|||gg:Nat):Int)) (I Y (e6:Int)));have rV:=((KY.o.setCell (p:=⟨w.heap.size+1+1,0,Z⟩) (show w.heap.size≤w.heap.size+1+1 by omega) (V J)).setCell (p:=⟨w.heap.size+1+1,1,Z⟩) (show w.heap.size≤w.heap.size+1+1 by omega) (I Y ((fA|||gg:Nat):Int))).setCell (p:=⟨w.heap.size+1+1,2,Z⟩) (show w.heap.size≤w.heap.size+1+1 by omega) (I Y (e6:Int))|guard_hyp CF;have d8:=rx.o.frozen 0;have g1:=rx.o.frozen 1;have eN:=rx.o.frozen 2;have hd:=Blk.mac (Blk.mac (Blk.mac rx.o 0 (V J)) 1 (I Y (fA:Int))) 2 (I Y (e6:Int));have qb:=FU.o.trans (kcn (w:=bm) rx.o (V J) (I Y (fA:Int)) (I Y (e6:Int)));have rV:=((FV.o.setCell (p:=⟨w.heap.size+1+1,0,Z⟩) (show w.heap.size≤w.heap.size+1+1 by omega) (V J)).setCell (p:=⟨w.heap.size+1+1,1,Z⟩) (show w.heap.size≤w.heap.size+1+1 by omega) (I Y (fA:Int))).setCell (p:=⟨w.heap.size+1+1,2,Z⟩) (show w.heap.size≤w.heap.size+1+1 by omega) (I Y (e6:Int))|have d8:=ox.o.frozen 0;have g1:=ox.o.frozen 1;have eN:=ox.o.frozen 2;have hd:=Blk.mac (Blk.mac (Blk.mac ox.o 0 (V J)) 1 (I Y (fA:Int))) 2 (I Y ((e6|||eH:Nat):Int));have qb:=F3.o.trans (kcn (w:=dl) ox.o (V J) (I Y (fA:Int)) (I Y ((e6|||eH:Nat):Int)));have rV:=((F4.o.setCell (p:=⟨w.heap.size+1+1,0,Z⟩) (show w.heap.size≤w.heap.size+1+1 by omega) (V J)).setCell (p:=⟨w.heap.size+1+1,1,Z⟩) (show w.heap.size≤w.heap.size+1+1 by omega) (I Y (fA:Int))).setCell (p:=⟨w.heap.size+1+1,2,Z⟩) (show w.heap.size≤w.heap.size+1+1 by omega) (I Y ((e6|||eH:Nat):Int)));simp only[gE,gF,gG] at hd;obtain ⟨cW,kr,nO⟩:=hd3 hd (ET.o.kpt qb) (fR.o.tail rV);clear hd qb rV;go_wp2_with fail;have bi:=cW.o.cell 0;have aW:=cW.o.cell 1;have bc:=cW.o.cell 2;simp only[gA,gB,gC] at bi aW bc;(first|guard_hyp vw;refine ub2 (v:=aa #[V K,I Y ((fA|||gg:Nat):Int),I Y ((e6|||eH:Nat):Int)]) (by simp[results,results192,go_sem,bi,aW,bc]) rfl ?_|guard_hyp xo;refine ub2 (v:=aa #[V J,I Y ((fA|||gg:Nat):Int),I Y (e6:Int)]) (by simp[results,results192,go_sem,bi,aW,bc]) rfl ?_|guard_hyp CF;refine ub2 (v:=aa #[V J,I Y (fA:Int),I Y (e6:Int)]) (by simp[results,results192,go_sem,bi,aW,bc]) rfl ?_|refine ub2 (v:=aa #[V J,I Y (fA:Int),I Y ((e6|||eH:Nat):Int)]) (by simp[results,results192,go_sem,bi,aW,bc]) rfl ?_);exact ⟨rfl,kr.o,nO.o⟩):=h
def ptC (p:Rg.Pt):Array C:= #[V p.1,I Y (p.2.1:Nat),I Y (p.2.2:Nat)]
def PtB (p:Rg.Pt):Prop:=p.2.1<18446744073709551616∧p.2.2<18446744073709551616
def kcO (c:Nat) (w:O) (r:Rg.Pt×Rg.Ch) (e:Ending) (w':O):Prop:=e=ac (aa (ptC r.1))∧ChM w' c r.2∧KCh c w w'
def kaS:¬kcJ 226:=by unfold kcJ;decide
def kcn {w:O} {g:Nat} {cs:Array C} (h:Blk w g 226 cs) (aT aU aX:C):KPt w (((w.setCell ⟨g,0,Z⟩ aT).setCell ⟨g,1,Z⟩ aU).setCell ⟨g,2,Z⟩ aX):=
 (((KPt.refl w).set (p:=⟨g,0,Z⟩) h kaS aT).set (p:=⟨g,1,Z⟩) (Blk.mac h 0 aT) kaS aU).set (p:=⟨g,2,Z⟩) (Blk.mac (Blk.mac h 0 aT) 1 aU) kaS aX
def kfC {a b:Rg.Pt} (aE:PtB a) (ak:PtB b):PtB (Rg.mbb a b):=by
 unfold Rg.mbb PtB at*;dsimp only;refine ⟨?_,?_⟩
 .split
  .exact kdu aE.1 ak.1
  .exact aE.1
 .split
  .exact kdu ak.2 aE.2
  .exact ak.2
def kyE (c:Nat) (bn:Rg.Ch) (fA eH gg e6:Nat) (w:O) (h:ChM w c bn) (ak:ChB bn) (ax:bn.S.length≤64) (af:fA<18446744073709551616) (ao:eH<18446744073709551616) (av:gg<18446744073709551616) (bk:e6<18446744073709551616):
 L prog 192 #[ab (N ⟨c,0,Z⟩),aa #[V K,I Y fA,I Y eH],aa #[V K,I Y gg,I Y e6]] w fun e w'=>e=ac (aa #[V K,I Y ((fA|||gg:Nat):Int),I Y ((e6|||eH:Nat):Int)])∧ChM w' c (Rg.link bn eH gg)∧KCh c w w':=by
 have vw:=();exact kgH
def kyF (c:Nat) (bn:Rg.Ch) (fA eH gg e6:Nat) (w:O) (h:ChM w c bn) (ak:ChB bn) (ax:bn.S.length≤64) (af:fA<18446744073709551616) (ao:eH<18446744073709551616) (av:gg<18446744073709551616) (bk:e6<18446744073709551616):
 L prog 192 #[ab (N ⟨c,0,Z⟩),aa #[V K,I Y fA,I Y eH],aa #[V J,I Y gg,I Y e6]] w fun e w'=>e=ac (aa #[V J,I Y ((fA|||gg:Nat):Int),I Y (e6:Int)])∧ChM w' c (Rg.link bn eH gg)∧KCh c w w':=by
 have xo:=();exact kgH
def kyG (c:Nat) (bn:Rg.Ch) (fA eH gg e6:Nat) (w:O) (h:ChM w c bn) (ak:ChB bn) (ax:bn.S.length≤64) (af:fA<18446744073709551616) (ao:eH<18446744073709551616) (av:gg<18446744073709551616) (bk:e6<18446744073709551616):
 L prog 192 #[ab (N ⟨c,0,Z⟩),aa #[V J,I Y fA,I Y eH],aa #[V K,I Y gg,I Y e6]] w fun e w'=>e=ac (aa #[V J,I Y (fA:Int),I Y ((e6|||eH:Nat):Int)])∧ChM w' c (Rg.link bn eH gg)∧KCh c w w':=by
 have SK:=();exact kgH
def kyH (c:Nat) (bn:Rg.Ch) (fA eH gg e6:Nat) (w:O) (h:ChM w c bn) (ak:ChB bn) (ax:bn.S.length≤64) (af:fA<18446744073709551616) (ao:eH<18446744073709551616) (av:gg<18446744073709551616) (bk:e6<18446744073709551616):
 L prog 192 #[ab (N ⟨c,0,Z⟩),aa #[V J,I Y fA,I Y eH],aa #[V J,I Y gg,I Y e6]] w fun e w'=>e=ac (aa #[V J,I Y (fA:Int),I Y (e6:Int)])∧ChM w' c (Rg.link bn eH gg)∧KCh c w w':=by
 have CF:=();exact kgH
theorem kkg (c:Nat) (bn:Rg.Ch) (a b:Rg.Pt) (w:O) (h:ChM w c bn) (ak:ChB bn) (ax:bn.S.length≤64) (aE:PtB a) (nP:PtB b):
 L prog 192 #[ab (N ⟨c,0,Z⟩),aa (ptC a),aa (ptC b)] w (kcO c w (Rg.mbb a b,Rg.mbk bn a b)):=by
 obtain ⟨fY,fA,eH⟩:=a;obtain ⟨eT,gg,e6⟩:=b
 cases fY with
 |true=>
  cases eT with
  |true=>exact kyE c bn fA eH gg e6 w h ak ax aE.1 aE.2 nP.1 nP.2
  |false=>exact kyF c bn fA eH gg e6 w h ak ax aE.1 aE.2 nP.1 nP.2
 |false=>
  cases eT with
  |true=>exact kyG c bn fA eH gg e6 w h ak ax aE.1 aE.2 nP.1 nP.2
  |false=>exact kyH c bn fA eH gg e6 w h ak ax aE.1 aE.2 nP.1 nP.2
def kni (h:P:=by
 have dT:=bR aQ;have c4:=bA aQ;have fy:=wS aQ;have fP:=kat aq (y #[V J,I Y 0,I Y 0] 226);have mF:Blk (aq.alloc (y #[V J,I Y 0,I Y 0] 226)) (w.heap.size+1) 226 #[V J,I Y 0,I Y 0]:=(by rw[←fy];exact Blk.new aq _ _);obtain ⟨aF,bW⟩:=xE (aq.alloc (y #[V J,I Y 0,I Y 0] 226));rw[←bW] at mF fP;have lu:aF.heap.size=w.heap.size+1+1:=(by rw[bW];simp;omega);have dZ:=c4.trans (fP.mono c4.size);obtain ⟨co,bo,gt,l3,cd,e1⟩:=hd6 (dT.below fP dT.lt) dZ mF (iJ.below dZ) aQ bW
 first
 |guard_hyp SN;(first|guard_hyp js;obtain ⟨es,bK⟩:=xE (Rg.mak (n+1) (Rx.node 5 0 0 0 0 lo (-1) [x]) bn)|have qy:ps.length≤1000000000:=(by have:=kcE ps;omega);obtain ⟨es,bK⟩:=xE (Rg.mak (n+1) (Rx.node 3 0 0 0 0 0 0 ps) bn));rw[←bK];have fz:=hD bK;clear dx dU hF bQ eE dw ej iJ dT c4 aQ fP bW ax hm mF dZ bK
  first
  |guard_hyp js;change L prog 193 #[ab (N ⟨c,0,Z⟩),aa #[I .i64 5,I Y 0,I Y 0,I Y 0,I Y 0,I U lo,I U (-1),D A 1 c9]] w _;obtain ⟨bl,cR⟩:=xE (Rg.mak n x);have kV:=hD (show ∀ bn,ChB bn→OkS (bl bn) from fun bn h=>by rw[cR];exact keR n x zU.o bn h);have lz:=hD (show Lays bl x.pos by rw[cR];exact keS n x kv.o zT.o);obtain ⟨kd,a0,aY,bh,a3,eh,eF,dd,jC,cS,rfl⟩:=sG.o.eight;obtain ⟨cx,dp,rfl,j6,eZ,cq⟩:=fQ.o.2 oM;have nM:cx<c:=b4.o cx j6;have zN:=hD (fun (W:O) (aw:KCh c w W) (j:Nat) (u:C) (aI: [I .i64 kd,I Y a0,I Y aY,I Y bh,I Y a3,I U eh,I U eF,D dd jC cS][j]? =N u)=>(ue6 (a:=⟨cx,dp+j,Z⟩) (aw.low cx nM eZ)).trans (cq j u aI));have CG:Hz (∀(W:O) (bn:Rg.Ch),KCh c w W→ChM W c bn→ChB bn→bn.S.length+x.pos≤64→L prog 160 #[ab (N ⟨c,0,Z⟩),aa #[I .i64 kd,I Y a0,I Y aY,I Y bh,I Y a3,I U eh,I U eF,D dd jC cS]] W fun e w'=>e=ac (aa #[V (bl bn).1.1,I Y ((bl bn).1.2.1:Nat),I Y ((bl bn).1.2.2:Nat)])∧ChM w' c (bl bn).2∧KCh c W w'):=hD (fun W bn aw an ak aO=>by rw[cR];exact dc.o x kv.o _ W F c bn (sG.o.kch aw b4.o) b4.o zT.o zU.o uz.o an ak aO);have zQ:bn.S.length+x.pos*max lo.toNat 1≤64:=(by have:=tS.o;rw[Rx.pos,kaE,kaE] at this;unfold kaz kaM kaY at this;simpa using this);have nQ:=hD zQ
   have bq : Hz (es = (let s := Rg.rep (Rg.onP bl) (lo.toNat - 1) (Rg.unit, bn)
    let l := bl s.2
    let p : Rg.Pt := (l.1.1 || decide (lo = 0), l.1.2)
    (Rg.mbb s.1 p, Rg.mbk (Rg.link l.2 l.1.2.2 l.1.2.1) s.1 p))) := hD (by rw [fz.o, cR]; rfl)
   clear zQ cR cq
  |change L prog 160 #[ab (N ⟨c,0,Z⟩),aa #[I .i64 3,I Y 0,I Y 0,I Y 0,I Y 0,I U 0,I U 0,D A ps.length c9]] w _;have bq:=hD (show es=ps.foldl (fun s p=>Rg.onP (Rg.mak n p) s) (Rg.unit,bn) from fz.o)
  have jz:Blk (aF.alloc (y #[V K,I Y 0,I Y 0] 226)) (w.heap.size+1+1) 226 (ptC Rg.unit):=(by rw[←lu];exact Blk.new aF _ _);obtain ⟨a6,cl⟩:=xE (aF.alloc (y #[V K,I Y 0,I Y 0] 226));have jI:=bA cl;rw[←cl] at jz;obtain ⟨ea,jr,cX,fX,na,fx⟩:=hd6 cl jz (co.o.below jI co.o.lt) (gt.o.below jI gt.o.lt) (l3.o.below jI) (KCh.of_below (c:=c) (bo.o.trans (jI.mono bo.o.size)));(first|guard_hyp js;clear jz jI cl;go_enter func193,ntmps193|have qX:bn.S.length+kaE (ps.drop 0)≤64:=(by have:=tS.o;unfold Rx.pos kaz kaM at this;rw[ul4];simpa using this);have rG:=hD qX;clear jz jI cl qX;go_enter func160,ntmps160);go_upto_region 1 with (fail);rw[←cd.o,←e1.o];clear cd e1;obtain ⟨⟨⟨aN,aM⟩,aZ,bC⟩,⟨b1,c5⟩,ct,bI⟩:=co.o.cells;(first|guard_hyp js;go_upto_region 3 with (fail)|go_upto_region 9 with (fail));rw[←ea.o];clear ea;(first|guard_hyp js;clear aN aM aZ bC b1 c5 ct bI;obtain ⟨⟨⟨aN,aM⟩,aZ,bC⟩,⟨b1,c5⟩,ct,bI⟩:=cX.o.cells|skip);go_wp2_with fail;clear aN aM aZ bC b1 c5 ct bI
  first
  |guard_hyp js;go_loopg [6] (lo.toNat+2) (fun f i wr=>∃(j:Nat) (s:Rg.Pt×Rg.Ch),i=I U ((j:Int)+1)∧j≤lo.toNat-1∧lo.toNat<j+f∧w.heap.size+1+1<wr.heap.size∧Hz (s=Rg.rep (Rg.onP bl) j (Rg.unit,bn))∧Hz (OkS s)∧Hz (s.2.S.length=bn.S.length+x.pos*j)∧Hz (Blk wr (w.heap.size+1+1) 226 (ptC s.1))∧Hz (ChM wr c s.2)∧Hz (R8 wr w (I U 5) (I Y 0) (I Y 0) (I Y 0) (I Y 0) (I U lo) (I U (-1)) (D (N ⟨cx,dp,Z⟩) 1 c9))∧Hz (Blk wr (w.heap.size+1) 226 #[V J,I Y 0,I Y 0])∧Hz (KCh c w wr))
   case atStart=>exact ⟨0,(Rg.unit,bn),rfl,oM,oM,jr.o.lt,hD rfl,hD ⟨kdL,ji.o⟩,hD rfl,jr,na,cX,fX,fx⟩
  |go_loopg [7] (ps.length+1) (fun f i wr=>∃ k:Nat,i=I U k∧k≤ps.length∧ps.length<k+f∧w.heap.size+1+1<wr.heap.size∧Hz (OkS ((ps.take k).foldl (fun s p=>Rg.onP (Rg.mak n p) s) (Rg.unit,bn)))∧Hz (((ps.take k).foldl (fun s p=>Rg.onP (Rg.mak n p) s) (Rg.unit,bn)).2.S.length+kaE (ps.drop k)≤64)∧Hz (Blk wr (w.heap.size+1+1) 226 (ptC ((ps.take k).foldl (fun s p=>Rg.onP (Rg.mak n p) s) (Rg.unit,bn)).1))∧Hz (ChM wr c ((ps.take k).foldl (fun s p=>Rg.onP (Rg.mak n p) s) (Rg.unit,bn)).2)∧Hz (R8 wr w (I U 3) (I Y 0) (I Y 0) (I Y 0) (I Y 0) (I U 0) (I U 0) (D A ps.length c9))∧Hz (Blk wr (w.heap.size+1) 226 #[V J,I Y 0,I Y 0])∧Hz (KCh c w wr))
   case atStart=>exact ⟨0,rfl,oM,oM,jr.o.lt,hD ⟨kdL,ji.o⟩,rG,jr,na,cX,fX,fx⟩
  case round=>(first|guard_hyp js;clear jr na cX fX fx bo co gt l3;obtain ⟨j,s,rfl,aS,qY,pf,K1,ge,wY,de,a8,a1,cf,ei⟩:=hrel|clear jr na cX fX fx rG bo co gt l3;obtain ⟨k,rfl,aw,fo,pf,ge,nQ,de,a8,a1,cf,ei⟩:=hrel);have SL:=();exact kgA
 |have qy:ps.length≤1000000000:=(by have:=kcE ps;omega);(first|guard_hyp zW;obtain ⟨es,bK⟩:=xE (Rg.mak (n+1) (Rx.node 4 0 0 0 0 0 0 ps) bn)|guard_hyp zV;obtain ⟨es,bK⟩:=xE (Rg.mak (n+1) (Rx.node 1 0 0 0 0 0 0 ps) bn)|obtain ⟨es,bK⟩:=xE (Rg.mak (n+1) (Rx.node 5 0 0 0 0 lo hi ps) bn));rw[←bK];have fz:=hD bK;clear dx dU hF bQ eE dw ej iJ dT c4 aQ fP bW ax hm mF dZ bK;(first|guard_hyp zW;change L prog 160 #[ab (N ⟨c,0,Z⟩),aa #[I .i64 4,I Y 0,I Y 0,I Y 0,I Y 0,I U 0,I U 0,D A ps.length c9]] w _;have bq:=hD (show es=ps.foldl (fun s p=>Rg.orP (Rg.mak n p) s) ((J,0,0),bn) from fz.o);have jz:Blk (aF.alloc (y #[V J,I Y 0,I Y 0] 226)) (w.heap.size+1+1) 226 (ptC (J,0,0)):=(by rw[←lu];exact Blk.new aF _ _);obtain ⟨a6,cl⟩:=xE (aF.alloc (y #[V J,I Y 0,I Y 0] 226));have jI:=bA cl;rw[←cl] at jz;obtain ⟨ea,jr,cX,fX,na,fx⟩:=hd6 cl jz (co.o.below jI co.o.lt) (gt.o.below jI gt.o.lt) (l3.o.below jI) (KCh.of_below (c:=c) (bo.o.trans (jI.mono bo.o.size)));have qX:bn.S.length+kaE (ps.drop 0)≤64:=(by have:=tS.o;unfold Rx.pos kaz kaM at this;rw[ul4];simpa using this);have rG:=hD qX;clear jz jI cl qX|guard_hyp zV;change L prog 160 #[ab (N ⟨c,0,Z⟩),aa #[I .i64 1,I Y 0,I Y 0,I Y 0,I Y 0,I U 0,I U 0,D A ps.length c9]] w _;have fS:=hD (KCh.of_below (c:=c) bo.o);have bq:=hD (show es=(Rg.unit,bn) from fz.o);have tP:=gt|change L prog 160 #[ab (N ⟨c,0,Z⟩),aa #[I .i64 5,I Y 0,I Y 0,I Y 0,I Y 0,I U lo,I U hi,D A ps.length c9]] w _;have B4:Hz (∀ W,H w w W→L prog 193 #[ab (N ⟨c,0,Z⟩),aa #[I .i64 5,I Y 0,I Y 0,I Y 0,I Y 0,I U lo,I U hi,D A ps.length c9]] W (kcO c W es)):=hD (fun W ak=>by rw[fz.o];exact Nf W ak);clear Nf fz;obtain ⟨⟨bJ,cB,et⟩,pN⟩:=es;have iB:Hz (L prog 193 #[ab (N ⟨c,0,Z⟩),aa #[I .i64 5,I Y 0,I Y 0,I Y 0,I Y 0,I U lo,I U hi,D A ps.length c9]] aF fun e w'=>e=ac (aa #[V bJ,I Y (cB:Nat),I Y (et:Nat)])∧ChM w' c pN∧KCh c aF w'):=hD (B4.o _ bo.o);have fS:=hD (KCh.of_below (c:=c) bo.o));go_enter func160,ntmps160;go_upto_region 1 with (fail);rw[←cd.o,←e1.o];clear cd e1;obtain ⟨⟨⟨aN,aM⟩,aZ,bC⟩,⟨b1,c5⟩,ct,bI⟩:=co.o.cells;(first|guard_hyp zW;go_upto_region 16 with (fail);rw[←ea.o];clear ea|guard_hyp zV;go_upto_region 24 with (fail);have z0:=tP.o.cell 0;have ca:=tP.o.cell 1;have cI:=tP.o.cell 2;simp only[gA,gB,gC] at z0 ca cI;have k0:=tP.o.frozen 0;have k1:=tP.o.frozen 1;have bS:=tP.o.frozen 2;have hd:=Blk.mac (Blk.mac (Blk.mac tP.o 0 (V K)) 1 (I Y 0)) 2 (I Y 0);simp only[gE,gF,gG] at hd;obtain ⟨cW,kr,nO⟩:=hd3 hd (l3.o.kpt (kcn tP.o (V K) (I Y 0) (I Y 0))) (fS.o.tail (kdf w aF (w.heap.size+1) oM (V K) (I Y 0) (I Y 0)));clear hd|go_upto_region 23 with (fail));go_wp2_with fail
  first
  |guard_hyp zW;clear aN aM aZ bC b1 c5 ct bI;go_loopg [9] (ps.length+1) (fun f i wr=>∃ k:Nat,i=I U k∧k≤ps.length∧ps.length<k+f∧w.heap.size+1+1<wr.heap.size∧Hz (OkS ((ps.take k).foldl (fun s p=>Rg.orP (Rg.mak n p) s) ((J,0,0),bn)))∧Hz (((ps.take k).foldl (fun s p=>Rg.orP (Rg.mak n p) s) ((J,0,0),bn)).2.S.length+kaE (ps.drop k)≤64)∧Hz (Blk wr (w.heap.size+1+1) 226 (ptC ((ps.take k).foldl (fun s p=>Rg.orP (Rg.mak n p) s) ((J,0,0),bn)).1))∧Hz (ChM wr c ((ps.take k).foldl (fun s p=>Rg.orP (Rg.mak n p) s) ((J,0,0),bn)).2)∧Hz (R8 wr w (I U 4) (I Y 0) (I Y 0) (I Y 0) (I Y 0) (I U 0) (I U 0) (D A ps.length c9))∧Hz (Blk wr (w.heap.size+1) 226 #[V J,I Y 0,I Y 0])∧Hz (KCh c w wr))
   case atStart=>exact ⟨0,rfl,oM,oM,jr.o.lt,hD ⟨kjN,ji.o⟩,rG,jr,na,cX,fX,fx⟩
   case round=>clear jr na cX fX fx rG bo co gt l3;obtain ⟨k,rfl,aw,fo,pf,ge,nQ,de,a8,a1,cf,ei⟩:=hrel;have SM:=();exact kgA
  |guard_hyp zV;have bi:=cW.o.cell 0;have aW:=cW.o.cell 1;have bc:=cW.o.cell 2;simp only[gA,gB,gC] at bi aW bc;refine ub2 (v:=aa #[V K,I Y 0,I Y 0]) (by simp[results,results160,go_sem,bi,aW,bc]) rfl ?_;exact ⟨by rw[bq.o];rfl,by rw[bq.o];exact kr.o,nO.o⟩
  |refine iB.o.mono ?_;rintro cG aK ⟨rfl,lb,dg⟩;obtain ⟨tQ,EE,fR⟩:=hd3 (dg.far _ _ _ gt.o kaS) lb (fS.o.trans dg);clear lb dg aN aM aZ bC b1 c5 ct bI;have z0:=tQ.o.cell 0;have ca:=tQ.o.cell 1;have cI:=tQ.o.cell 2;simp only[gA,gB,gC] at z0 ca cI;have k0:=tQ.o.frozen 0;have k1:=tQ.o.frozen 1;have bS:=tQ.o.frozen 2;have hd:=Blk.mac (Blk.mac (Blk.mac tQ.o 0 (V bJ)) 1 (I Y (cB:Nat))) 2 (I Y (et:Nat));simp only[gE,gF,gG] at hd;obtain ⟨cW,kr,nO⟩:=hd3 hd (EE.o.kpt (kcn tQ.o (V bJ) (I Y (cB:Nat)) (I Y (et:Nat)))) (fR.o.tail (kdf w aK (w.heap.size+1) oM (V bJ) (I Y (cB:Nat)) (I Y (et:Nat))));clear hd;go_wp2_with fail;have bi:=cW.o.cell 0;have aW:=cW.o.cell 1;have bc:=cW.o.cell 2;simp only[gA,gB,gC] at bi aW bc;refine ub2 (v:=aa #[V bJ,I Y (cB:Nat),I Y (et:Nat)]) (by simp[results,results160,go_sem,bi,aW,bc]) rfl ?_;exact ⟨rfl,kr.o,nO.o⟩):=h
def yq1 (h:P:=by unfold RxV at au;obtain ⟨A,c9,bV,rfl,dx,dU⟩:=au;unfold Rx.size at ax al;have hP:=hD ax;(first|guard_hyp js;obtain ⟨x,rfl⟩:∃ x,ps=[x]:=um5.1 az;clear az;have me:([x]:List Rx).length=1:=rfl;rw[me] at dx;have iR:RxV w F x bV:=(by exact kh2);have zR:x.size≤n:=(by rw[kcc] at ax;omega);have tR:x.size≤1000000000:=(by rw[kcc] at al;omega);have zS:x.fmd:=(by unfold kap at eE;exact eE.1);have pg:x.mat:=(by unfold kar at dw;exact dw.1);obtain ⟨sG,kv,uz,zT,zU⟩:=hd5 iR zR tR zS pg;clear iR zR tR zS pg|skip);have fQ:=hD dx;(first|guard_hyp js|have iQ:=hD dU);have b4:=hD hF;have dc:=hD bQ;(first|guard_hyp js|have lA:=hD eE;have jU:=hD dw);have ji:=hD ej;have tS:=hD hm;have ia:=iJ.lt;(first|guard_hyp js;obtain ⟨aq,aQ⟩:=xE (w.alloc (y #[I .i64 5,I Y 0,I Y 0,I Y 0,I Y 0,I U lo,I U (-1),D A 1 c9] 105))|obtain ⟨aq,aQ⟩:=xE (w.alloc (y #[I .i64 3,I Y 0,I Y 0,I Y 0,I Y 0,I U 0,I U 0,D A ps.length c9] 105)));have SN:=();exact kni):=h
def yq8 (h:P:=by unfold RxV at au;obtain ⟨A,c9,bV,rfl,dx,dU⟩:=au;unfold Rx.size at ax al;obtain ⟨hP,fQ,iQ,b4,dc,lA,jU,ji,tS⟩:=hd9 ax dx dU hF bQ eE dw ej hm;have ia:=iJ.lt;(first|guard_hyp zW;obtain ⟨aq,aQ⟩:=xE (w.alloc (y #[I .i64 4,I Y 0,I Y 0,I Y 0,I Y 0,I U 0,I U 0,D A ps.length c9] 105))|guard_hyp zV;obtain ⟨aq,aQ⟩:=xE (w.alloc (y #[I .i64 1,I Y 0,I Y 0,I Y 0,I Y 0,I U 0,I U 0,D A ps.length c9] 105))|obtain ⟨aq,aQ⟩:=xE (w.alloc (y #[I .i64 5,I Y 0,I Y 0,I Y 0,I Y 0,I U lo,I U hi,D A ps.length c9] 105)));exact kni):=h
def RxV.kch {w w':O} {F:Nat→Prop} {r:Rx} {cs:List C} {c:Nat} (h:RxV w F r cs) (k:KCh c w w') (hF:∀ i,F i→i<c):RxV w' F r cs:=
 RxV.keep (fun i hi az=>k.low i (hF i hi) az) k.size (fun i hi _=>hi) r cs h
def kel:¬kcJ 105:=by unfold kcJ;decide
def kdZ (n:Nat):Prop:=∀(r:Rx),r.size≤n→∀(cs:List C) (w:O) (F:Nat→Prop) (c:Nat) (bn:Rg.Ch),RxV w F r cs→(∀ i,F i→i<c)→r.fmd→r.mat→r.size≤1000000000→ChM w c bn→ChB bn→bn.S.length+r.pos≤64→
 L prog 160 #[ab (N ⟨c,0,Z⟩),aa cs.toArray] w (kcO c w (Rg.mak n r bn))
def KCh.drew (c:Nat) (w:O):KCh c w w.drew:=⟨rfl,rfl,rfl,nR,fun _ _ _=>rfl,fun _ _ _ h _=>h⟩
def kpo {ps:List Rx} {k:Nat} {x:Rx} (h:ps[k]? =N x):kaE (ps.drop k)=x.pos+kaE (ps.drop (k+1)):=by obtain ⟨aw,aG⟩:=ue1.1 h;rw[ue7 aw,kaE,aG]
def krl {α β:Type} {E:α→β→α} {l:List β} {k:Nat} {x:β} {a:α} (h:l[k]? =N x):(l.take (k+1)).foldl E a=E ((l.take k).foldl E a) x:=by rw[ue0,h,uo4];rfl
def OkS (s:Rg.Pt×Rg.Ch):Prop:=PtB s.1∧ChB s.2
def kpK {bl:Rg.Ch→Rg.Pt×Rg.Ch} (cR:∀ c,ChB c→OkS (bl c)) {s:Rg.Pt×Rg.Ch} (h:OkS s):OkS (Rg.onP bl s):=by have:=cR s.2 h.2;exact ⟨kfC h.1 this.1,this.2.link this.1.1⟩
def kv7 {bl:Rg.Ch→Rg.Pt×Rg.Ch} (cR:∀ c,ChB c→OkS (bl c)) {s:Rg.Pt×Rg.Ch} (h:OkS s):OkS (Rg.orP bl s):=by have:=cR s.2 h.2;exact ⟨⟨kdu h.1.1 this.1.1,kdu h.1.2 this.1.2⟩,this.2⟩
def kdL:PtB Rg.unit:=⟨dC,dC⟩
def kjN:PtB (J,0,0):=⟨dC,dC⟩
theorem kjK {G:Rx→Rg.Pt×Rg.Ch→Rg.Pt×Rg.Ch} :∀(ps:List Rx) (_:∀ p∈ps,∀ s,OkS s→OkS (G p s)) (s:Rg.Pt×Rg.Ch),OkS s→OkS (ps.foldl (fun s p=>G p s) s)
 |[],_,_,h=>h
 |p::ps,el,s,h=>kjK ps (fun q bj=>el q (uf6 _ bj)) _ (el p (uf3 ..) s h)
theorem kpJ {bl:Rg.Ch→Rg.Pt×Rg.Ch} (cR:∀ c,ChB c→OkS (bl c)):∀(k:Nat) (s:Rg.Pt×Rg.Ch),OkS s→OkS (Rg.rep (Rg.onP bl) k s)
 |0,_,h=>h
 |k+1,s,h=>kpJ cR k _ (kpK cR h)
theorem kjJ {bl:Rg.Ch→Rg.Pt×Rg.Ch} (cR:∀ c,ChB c→OkS (bl c)):∀(k:Nat) (c:Rg.Ch),ChB c→(∀ p∈(Rg.maW bl k c).1,PtB p)∧ChB (Rg.maW bl k c).2
 |0,c,h=>⟨fun p aO=>(by cases aO),h⟩
 |k+1,c,h=>by
  have af:=kjJ cR k c h;have ao:=cR _ af.2;refine ⟨fun p aO=>?_,ao.2⟩;rcases uh2.1 aO with av|av
  .exact af.1 p av
  .rw[ug5.1 av];exact ao.1
theorem kzw {ps:List Rg.Pt} (h:∀ p∈ps,PtB p) (i:Nat):PtB (ps.getD i (J,0,0)):=by
 rw[ub6]
 cases hi:ps[i]? with
 |none=>exact kjN
 |some p=>exact h p (ua4 hi)
theorem kpL (lo:Int) {ps:List Rg.Pt} (h:∀ p∈ps,PtB p):∀(k:Nat) (s:Rg.Pt×Rg.Ch),OkS s→OkS (Rg.mbe lo ps k s)
 |0,_,al=>al
 |k+1,s,al=>by rw[Rg.mbe];exact kpL lo h k _ ⟨kfC (kzw h k) al.1,al.2.link al.1.1⟩
theorem keR:∀(n:Nat) (r:Rx),r.mat→∀(c:Rg.Ch),ChB c→OkS (Rg.mak n r c)
 |0,_,_,c,h=>⟨kdL,h⟩
 |n+1, .node k aT aU aX a2 lo hi ps,aB,c,h=>by
  have bQ:=keR n;unfold Rx.mat at aB;obtain ⟨-,t0,bb,db,t3, -, -, -, -,dw⟩:=aB;have bg:∀ p∈ps,p.mat:=fun p aO=>by obtain ⟨i,hi⟩:=uh7 aO;exact kcW dw hi
  have F5:∀ c,ChB c→OkS (Rg.mak n (Rg.hd ps) c):=fun c an=>by
   cases ps with
   |nil=>exact bQ _ (by unfold Rg.hd Rx.empty Rx.plain;exact Rx.mbS oM (by unfold kar;trivial)) c an
   |cons p ps=>exact bQ p (bg p (uf3 ..)) c an
  unfold Rg.mak;split
  .refine ⟨⟨ur6 _ dC,ur6 _ dC⟩,?_,fun x aA=>?_,fun s al=>?_⟩
   .have:=h.ok;unfold Rg.Ch.ok at*;dsimp only;rw[ua6,ua6,this];rfl
   .rcases uh2.1 aA with af|af
    .exact h.F x af
    .rw[ug5.1 af];decide
   .rcases uh2.1 al with af|af
    .exact h.S s af
    .rw[ug5.1 af];exact ⟨t0,bb,db,t3⟩
  split
  .exact kjK (G:=fun p s=>Rg.onP (Rg.mak n p) s) ps (fun p aO s al=>kpK (fun c an=>bQ p (bg p aO) c an) al) _ ⟨kdL,h⟩
  split
  .exact kjK (G:=fun p s=>Rg.orP (Rg.mak n p) s) ps (fun p aO s al=>kv7 (fun c an=>bQ p (bg p aO) c an) al) _ ⟨kjN,h⟩
  split
  .split
   .have af:=kpJ F5 (lo.toNat-1) (Rg.unit,c) ⟨kdL,h⟩;have ao:=F5 _ af.2;exact ⟨kfC af.1 ao.1,(ao.2.link ao.1.1).link ao.1.1⟩
   .have af:=kjJ F5 hi.toNat c h;exact kpL lo af.1 _ _ ⟨kdL,af.2⟩
  .exact ⟨kdL,h⟩
def kdf (he w:O) (g:Nat) (hg:he.heap.size≤g) (aT aU aX:C):H he w (((w.setCell ⟨g,0,Z⟩ aT).setCell ⟨g,1,Z⟩ aU).setCell ⟨g,2,Z⟩ aX):=
 (((ub5 _ w).setCell (p:=⟨g,0,Z⟩) hg aT).setCell (p:=⟨g,1,Z⟩) hg aU).setCell (p:=⟨g,2,Z⟩) hg aX
def kzj (n:Nat) (bQ:kdZ n) (ps:List Rx) (ax:(Rx.node 1 0 0 0 0 0 0 ps).size≤n+1) (cs:List C) (w:O) (F:Nat→Prop) (c:Nat) (bn:Rg.Ch) (au:RxV w F (Rx.node 1 0 0 0 0 0 0 ps) cs) (hF:∀ i,F i→i<c) (eE:kap ps) (dw:kar ps) (al:(Rx.node 1 0 0 0 0 0 0 ps).size≤1000000000) (iJ:ChM w c bn) (ej:ChB bn) (hm:bn.S.length+(Rx.node 1 0 0 0 0 0 0 ps).pos≤64):
 L prog 160 #[ab (N ⟨c,0,Z⟩),aa cs.toArray] w (kcO c w (Rg.mak (n+1) (Rx.node 1 0 0 0 0 0 0 ps) bn)):=by
 have zV:=();exact yq8
def kzh (n:Nat) (bQ:kdZ n) (ps:List Rx) (ax:(Rx.node 3 0 0 0 0 0 0 ps).size≤n+1) (cs:List C) (w:O) (F:Nat→Prop) (c:Nat) (bn:Rg.Ch) (au:RxV w F (Rx.node 3 0 0 0 0 0 0 ps) cs) (hF:∀ i,F i→i<c) (eE:kap ps) (dw:kar ps) (al:(Rx.node 3 0 0 0 0 0 0 ps).size≤1000000000) (iJ:ChM w c bn) (ej:ChB bn) (hm:bn.S.length+(Rx.node 3 0 0 0 0 0 0 ps).pos≤64):
 L prog 160 #[ab (N ⟨c,0,Z⟩),aa cs.toArray] w (kcO c w (Rg.mak (n+1) (Rx.node 3 0 0 0 0 0 0 ps) bn)):=by
 exact yq1
def kzg (n:Nat) (bQ:kdZ n) (ps:List Rx) (ax:(Rx.node 4 0 0 0 0 0 0 ps).size≤n+1) (cs:List C) (w:O) (F:Nat→Prop) (c:Nat) (bn:Rg.Ch) (au:RxV w F (Rx.node 4 0 0 0 0 0 0 ps) cs) (hF:∀ i,F i→i<c) (eE:kap ps) (dw:kar ps) (al:(Rx.node 4 0 0 0 0 0 0 ps).size≤1000000000) (iJ:ChM w c bn) (ej:ChB bn) (hm:bn.S.length+(Rx.node 4 0 0 0 0 0 0 ps).pos≤64):
 L prog 160 #[ab (N ⟨c,0,Z⟩),aa cs.toArray] w (kcO c w (Rg.mak (n+1) (Rx.node 4 0 0 0 0 0 0 ps) bn)):=by
 have zW:=();exact yq8
theorem kpB {w w':O} {base size n:Nat} {e ek:ah} {v:C} {xs:List C} {row:Option Nat} (h:w.ownsRow base e size v n xs) (hg:w.grownBy w' row) (am:∀ g,row=N g→∃ cur,Blk w g ek cur) (ch:e≠ek):w'.ownsRow base e size v n xs:=by
 refine h.kept hg ?_
 cases row with
 |none=>
  cases au:v.ownBlock with
  |none=>exact .inl rfl
  |some g=>exact .inr (by simp)
 |some g=>obtain ⟨cur,an⟩:=am g rfl;exact .inr (ka5 h an ch)
def keg {w:O} {base size n:Nat} {e:ah} {v:C} {xs:List C} (h:w.ownsRow base e size v n xs) {g:Nat} (au:v.ownBlock=N g):base≤g∧∃ cur,Blk w g e cur:=by
 rcases h.2 with ⟨rfl,_⟩|⟨mH,fE,cur,rfl,ak,hg,_⟩
 .cases au
 .injection au with au;subst au;exact ⟨ak,cur,hg⟩
def kdo (w:O) (p:ae) (u:C):w.grownBy (w.setCell p u) (N p.block):=⟨rfl,rfl,rfl,by simp,fun k _ aw=>ud7 _ _ _ _ (fun e=>aw (by rw[e]))⟩
def kyA:(prog.info? 102).map (fun i=>(i.zero,i.size,i.bytes))=N (N (aa #[I .u64 0,I Y 0,I Y 0,I Y 0]),4,32):=kR
def kzi (n:Nat) (bQ:kdZ n) (aT aU aX a2:Nat) (ps:List Rx) (ax:(Rx.node 2 aT aU aX a2 0 0 ps).size≤n+1) (cs:List C) (w:O) (F:Nat→Prop) (c:Nat) (bn:Rg.Ch) (au:RxV w F (Rx.node 2 aT aU aX a2 0 0 ps) cs) (hF:∀ i,F i→i<c) (aD:aT<2^64) (af:aU<2^64) (ao:aX<2^64) (av:a2<2^64) (az:ps.length=0) (eE:kap ps) (dw:kar ps) (al:(Rx.node 2 aT aU aX a2 0 0 ps).size≤1000000000) (iJ:ChM w c bn) (ej:ChB bn) (hm:bn.S.length+(Rx.node 2 aT aU aX a2 0 0 ps).pos≤64):
 L prog 160 #[ab (N ⟨c,0,Z⟩),aa cs.toArray] w (kcO c w (Rg.mak (n+1) (Rx.node 2 aT aU aX a2 0 0 ps) bn)):=by
 unfold RxV at au;obtain ⟨A,c9,bV,rfl,dx,dU⟩:=au;unfold Rx.size at ax al;have hP:=hD ax;clear az;obtain ⟨fQ,iQ,b4,dc,lA,jU,ji,tS⟩:=hd8 dx dU hF bQ eE dw ej hm;have ia:=iJ.lt;obtain ⟨aq,aQ⟩:=xE (w.alloc (y #[I .i64 2,I Y aT,I Y aU,I Y aX,I Y a2,I U 0,I U 0,D A ps.length c9] 105));have dT:=bR aQ;have c4:=bA aQ;have fy:=wS aQ;have fP:=kat aq (y #[V J,I Y 0,I Y 0] 226);have mF:Blk (aq.alloc (y #[V J,I Y 0,I Y 0] 226)) (w.heap.size+1) 226 #[V J,I Y 0,I Y 0]:=(by rw[←fy];exact Blk.new aq _ _);obtain ⟨aF,bW⟩:=xE (aq.alloc (y #[V J,I Y 0,I Y 0] 226));rw[←bW] at mF fP;have lu:aF.heap.size=w.heap.size+1+1:=(by rw[bW];simp;omega);have dZ:=c4.trans (fP.mono c4.size);obtain ⟨co,bo,gt,l3,cd,e1⟩:=hd6 (dT.below fP dT.lt) dZ mF (iJ.below dZ) aQ bW;have qy:ps.length≤1000000000:=(by have:=kcE ps;omega);obtain ⟨es,bK⟩:=xE (Rg.mak (n+1) (Rx.node 2 aT aU aX a2 0 0 ps) bn);rw[←bK];have fz:=hD bK;clear dx dU hF bQ eE dw ej iJ dT c4 aQ fP bW ax hm mF dZ bK;change L prog 160 #[ab (N ⟨c,0,Z⟩),aa #[I .i64 2,I Y aT,I Y aU,I Y aX,I Y a2,I U 0,I U 0,D A ps.length c9]] w _;have hm63:bn.S.length<64:=(by have:=tS.o;unfold Rx.pos kaz kaM at this;simp at this;omega);obtain ⟨B,b0⟩:=xE (2^bn.S.length % 2^64);have sQ:IntKind.u64.wrap (2^bn.S.length)=(B:Int):=(by rw[ut5,b0];simp);have bq:=hD (show es=((J,B,B),⟨bn.S++[(aT,aU,aX,a2)],bn.F++[0]⟩) from by rw[fz.o,b0];rfl);clear b0;obtain ⟨dA,k1,fD,bS,i1,f6,pB⟩:=l3.o;have fS:=hD (KCh.of_below (c:=c) bo.o);have eD:=i1.cell 0;have eS:=i1.cell 1;simp only[gA,gB,gC] at eD eS;go_enter func160,ntmps160;go_upto_region 1 with (fail);rw[←cd.o,←e1.o];clear cd e1;obtain ⟨⟨⟨aN,aM⟩,aZ,bC⟩,⟨b1,c5⟩,ct,bI⟩:=co.o.cells;go_upto_region 4 with (fail);refine ue4 ?_;refine kd6 (z:=11) (S:=(fun w'=>w'.cell? ⟨c,0,Z⟩=N (D dA bn.S.length k1)∧w'.cell? ⟨w,1,Z⟩=N (I Y aT)∧w'.cell? ⟨w,2,Z⟩=N (I Y aU)∧w'.cell? ⟨w,3,Z⟩=N (I Y aX)∧w'.cell? ⟨w,4,Z⟩=N (I Y a2))) kR ⟨eD,aM,aZ,bC,b1⟩ (fun ay=>?_);refine tkZ 0 ay ?_;refine tkZ 1 ay ?_;refine tkZ 2 ay ?_;refine tkZ 3 ay ?_;refine tkZ 4 ay ?_;refine tkZ 5 ay ?_;refine tkZ 6 ay ?_;obtain ⟨eX,cM,hi0,hi1,hi2⟩:=ug6 kyA;have b3:H aF aF ((aF.alloc (y #[I .u64 aT,I Y aU,I Y aX,I Y a2] 102)).drew):=(kat aF _).drew;have oy:=kaI f6 b3;have zX:=kaI pB b3;have F6:=i1.below b3 i1.lt;have CH:=co.o.below b3 co.o.lt;have zY:R8 _ _ (I U 2) (I Y aT) (I Y aU) (I Y aX) (I Y a2) (I U 0) (I U 0) (D A ps.length c9):=CH;have F7:=gt.o.below b3 gt.o.lt;have fd:=fS.o.trans (KCh.of_below b3);have e9:Reads ((aF.alloc (y #[I .u64 aT,I Y aU,I Y aX,I Y a2] 102)).drew) (aF.heap.size+1) 4 (N ⟨aF,0,Z⟩) 1 [I .u64 aT,I Y aU,I Y aX,I Y a2]:=⟨rfl,fun _=>⟨_,rfl,by simp,fun j u aI=>kcI aF #[I .u64 aT,I Y aU,I Y aX,I Y a2] 102 j u aI⟩⟩;rw[lu] at e9;have d9:∀ u∈([I .u64 aT,I Y aU,I Y aX,I Y a2]:List C),u.oneCell'=K:=(by simp[Value.oneCell']);refine tkP 7 (fun aR aJ=>?_);go_simp;refine aJ.out _ _ (fun _=>⟨F6.cell 0,zY.cells.1.1.2,zY.cells.1.2.1,zY.cells.1.2.2,zY.cells.2.1.1⟩) ?_;clear aJ aR;(try simp only[Act.put,gE,gF,gG]);have y4:c+1≤((aF.alloc (y #[I .u64 aT,I Y aU,I Y aX,I Y a2] 102)).drew).heap.size:=(by have:=b3.size;omega);refine tkP 8 (fun aR aJ=>?_);refine kfE _ rfl (.tmp 26) (.tmp 29) 221 rfl (c+1) 102 eX (aa #[I .u64 0,I Y 0,I Y 0,I Y 0]) 4 32 underlying221 cM hi0 hi1 hi2 rfl dC (D dA bn.S.length k1) bn.S.length (leC bn.S) rfl oy _ _ _ _ [I .u64 aT,I Y aU,I Y aX,I Y a2] rfl e9 d9 (by unfold maxLen;omega) oM y4 ?_;intro v5 bm h5 g3 g7;obtain ⟨fs,lw,rfl⟩:=kaA h5;have jg:=fun g (e:(D dA bn.S.length k1).ownBlock=N g)=>keg oy e;have xp:=Blk.grown F6 g3 (fun e=>by have:=(jg c e.symm).1;omega);have u6:R8 bm w (I U 2) (I Y aT) (I Y aU) (I Y aX) (I Y a2) (I U 0) (I U 0) (D A ps.length c9):=Blk.grown CH g3 (fun e=>ka5 oy CH dC e.symm);have ze:=Blk.grown F7 g3 (fun e=>ka5 oy F7 dC e.symm);have i6:=kpB zX g3 (fun g e=>(jg g e).2) dC;have gQ:=fd.trans (KCh.grown (c:=c) g3 (fun g e=>by obtain ⟨af,cur,ao⟩:=jg g e;exact ⟨oM,_,_,ao, .inr (.inl rfl)⟩));have cU:=xp.cell 0;have bE:=xp.cell 1;simp only[gA,gB,gC] at cU bE;have wk:=xp.frozen 0;have CI:=Blk.mac xp 0 (D fs (bn.S.length+1) lw);have F8:=h5.kept (kdo bm ⟨c,0,Z⟩ (D fs (bn.S.length+1) lw)) (.inr (fun e=>absurd (show c+1≤c from (keg h5 e).1) oM));have F9:=i6.kept (kdo bm ⟨c,0,Z⟩ (D fs (bn.S.length+1) lw)) (.inr (fun e=>absurd (show c+1≤c from (keg i6 e).1) oM));have sc:=Blk.far u6 (p:=⟨c,0,Z⟩) (show w.heap.size≠c by omega) (D fs (bn.S.length+1) lw);have Ga:=Blk.far ze (p:=⟨c,0,Z⟩) (show w.heap.size+1≠c by omega) (D fs (bn.S.length+1) lw);have nr:=gQ.trans (KCh.set (p:=⟨c,0,Z⟩) xp (uf1 c) (.inl rfl) (D fs (bn.S.length+1) lw));simp only[gE,gF,gG] at CI;obtain ⟨du,hp⟩:=xE (bm.setCell ⟨c,0,Z⟩ (D fs (bn.S.length+1) lw));rw[←hp] at CI F8 F9 sc Ga nr;obtain ⟨oo,lr,BG,hC,kj,iC,tg,zZ⟩:=hd8 CI F8 F9 sc Ga nr hp u6;clear cM hi0 hi1 hi2 b3 oy zX F6 CH zY F7 fd e9 d9 h5 g3 g7 jg ze i6 gQ CI F8 F9 sc Ga nr hp ay eD eS aN aM aZ bC b1 c5 ct bI i1 f6 pB y4 xp u6 eX;have iF:=And.intro cU (And.intro zZ.o.cells.1.1.2 (And.intro zZ.o.cells.1.2.1 (And.intro zZ.o.cells.1.2.2 zZ.o.cells.2.1.1)));refine aJ.out _ _ (fun _=>iF) ?_;clear aJ aR;(try simp only[Act.put,gE,gF,gG]);refine tkP 9 (fun aR aJ=>?_);go_simp;refine aJ.out _ _ (fun _=>iF) ?_;clear aJ aR;(try simp only[Act.put,gE,gF,gG]);refine tkP 10 (fun aR aJ=>?_);go_simp;refine aJ.out _ _ (fun _=>iF) ?_;clear aJ aR;(try simp only[Act.put,gE,gF,gG]);refine tkP 11 (fun aR aJ=>?_);go_simp;refine aJ.out _ _ (fun h=>absurd rfl h) ?_;clear aJ aR;(try simp only[Act.put,gE,gF,gG]);refine kiN kR ?_ _;refine uf0 ?_;(try simp only[Act.put,gE,gF,gG]);rw[←tg.o];clear tg zZ iF cU bE wk;have cU:=oo.o.cell 0;have bE:=oo.o.cell 1;simp only[gA,gB,gC] at cU bE;obtain ⟨w3,cM,hi0,hi1,hi2⟩:=ug6 kqv;have e0:=kat du (y #[I .u64 0] 100);have oz:=kaI BG.o e0;have K2:=kaI lr.o e0;have K3:=oo.o.below e0 oo.o.lt;have Gb:=hC.o.below e0 hC.o.lt;have zf:=kj.o.below e0 kj.o.lt;have CJ:=iC.o.trans (KCh.of_below e0);have i1:c+1≤du.heap.size:=oo.o.lt;have e9:Reads (du.alloc (y #[I .u64 0] 100)) (du.heap.size+1) 1 (N ⟨du,0,Z⟩) 1 [I .u64 0]:=Reads.mb7 du #[I .u64 0] 100 oM rfl;have d9:∀ u∈([I .u64 0]:List C),u.oneCell'=K:=(by simp[Value.oneCell']);have i8:=ji.o.ok;have eE:bn.F.length<64:=(by unfold Rg.Ch.ok at i8;omega);clear i8;(go_wp2_with (at_builtin;refine kbs _ rfl (.tmp 37) (.tmp 38) 222 rfl (c+1) 100 w3 (I Y 0) 1 8 underlying222 cM hi0 hi1 hi2 rfl dC _ bn.F.length _ rfl oz _ _ _ _ [I .u64 0] rfl e9 d9 (by unfold maxLen;omega) oM (by simp;omega) ?_));intro MO gx ud ph HB;obtain ⟨nl,oi,rfl⟩:=kaA ud;have jg:=fun g (e:(D fD bn.F.length bS).ownBlock=N g)=>keg oz e;have xq:=Blk.grown K3 ph (fun e=>by have:=(jg c e.symm).1;omega);have SO:=Blk.grown Gb ph (fun e=>ka5 oz Gb dC e.symm);have ER:=Blk.grown zf ph (fun e=>ka5 oz zf dC e.symm);have sE:=kpB K2 ph (fun g e=>(jg g e).2) dC;have lM:=CJ.trans (KCh.grown (c:=c) ph (fun g e=>by obtain ⟨af,cur,ao⟩:=jg g e;exact ⟨oM,_,_,ao, .inr (.inr rfl)⟩));clear cU bE;have cU:=xq.cell 0;have bE:=xq.cell 1;simp only[gA,gB,gC] at cU bE;have wk:=xq.frozen 1;have CK:=Blk.mac xq 1 (D nl (bn.F.length+1) oi);have Gc:=ud.kept (kdo gx ⟨c,1,Z⟩ (D nl (bn.F.length+1) oi)) (.inr (fun e=>absurd (show c+1≤c from (keg ud e).1) oM));have Gd:=sE.kept (kdo gx ⟨c,1,Z⟩ (D nl (bn.F.length+1) oi)) (.inr (fun e=>absurd (show c+1≤c from (keg sE e).1) oM));have dm:=Blk.far ER (p:=⟨c,1,Z⟩) (show w.heap.size+1≠c by omega) (D nl (bn.F.length+1) oi);have pa:=lM.trans (KCh.set (p:=⟨c,1,Z⟩) xq (uf1 c) (.inl rfl) (D nl (bn.F.length+1) oi));simp only[gE,gF,gG] at CK;obtain ⟨c7,jn⟩:=xE (gx.setCell ⟨c,1,Z⟩ (D nl (bn.F.length+1) oi));rw[←jn] at CK Gd Gc dm pa;have SP:Hz (ChM c7 c ⟨bn.S++[(aT,aU,aX,a2)],bn.F++[0]⟩):=hD ⟨fs,lw,nl,oi,by rw[ua6,ua6];exact CK,by rw[ua6,kqb];exact Gd,by rw[ua6];unfold nuC;rw[uj3];exact Gc⟩;obtain ⟨tT,SQ,wE⟩:=hd3 dm pa jn;clear e0 oz K2 K3 Gb zf CJ e9 d9 ud ph HB jg xq SO ER sE lM CK Gc Gd dm pa jn cM hi0 hi1 hi2 w3;go_upto_region 6 with (fail);rw[←wE.o];clear cU bE wk wE;have z0:=tT.o.cell 0;have ca:=tT.o.cell 1;have cI:=tT.o.cell 2;simp only[gA,gB,gC] at z0 ca cI;have k0:=tT.o.frozen 0;have k1:=tT.o.frozen 1;have bS:=tT.o.frozen 2;have hd:=Blk.mac (Blk.mac (Blk.mac tT.o 0 (V J)) 1 (I Y B)) 2 (I Y B);simp only[gE,gF,gG] at hd;obtain ⟨cW,kr,nO⟩:=hd3 hd (SP.o.kpt (kcn tT.o (V J) (I Y B) (I Y B))) (SQ.o.tail (kdf w c7 (w.heap.size+1) oM (V J) (I Y B) (I Y B)));clear hd;go_wp2_with fail;have bi:=cW.o.cell 0;have aW:=cW.o.cell 1;have bc:=cW.o.cell 2;simp only[gA,gB,gC] at bi aW bc;refine ub2 (v:=aa #[V J,I Y B,I Y B]) (by simp[results,results160,go_sem,bi,aW,bc]) rfl ?_;exact ⟨by rw[bq.o];rfl,by rw[bq.o];exact kr.o,nO.o⟩
def kyQ (n:Nat) (bQ:kdZ n) (lo:Int) (ps:List Rx) (ax:(Rx.node 5 0 0 0 0 lo (-1) ps).size≤n+1) (cs:List C) (w:O) (F:Nat→Prop) (c:Nat) (bn:Rg.Ch) (au:RxV w F (Rx.node 5 0 0 0 0 lo (-1) ps) cs) (hF:∀ i,F i→i<c) (az:ps.length=1) (kN:0≤lo) (Dq:lo≤64) (eE:kap ps) (dw:kar ps) (al:(Rx.node 5 0 0 0 0 lo (-1) ps).size≤1000000000) (iJ:ChM w c bn) (ej:ChB bn) (hm:bn.S.length+(Rx.node 5 0 0 0 0 lo (-1) ps).pos≤64):
 L prog 193 #[ab (N ⟨c,0,Z⟩),aa cs.toArray] w (kcO c w (Rg.mak (n+1) (Rx.node 5 0 0 0 0 lo (-1) ps) bn)):=by
 have js:=();exact yq1
def ptL:List Rg.Pt→List C
 |[]=>[]
 |p::l=>V p.1::I Y (p.2.1:Nat)::I Y (p.2.2:Nat)::ptL l
theorem kpl:∀(l l':List Rg.Pt),ptL (l++l')=ptL l++ptL l'
 |[],_=>rfl
 |p::l,l'=>by rw[ui4,ptL,kpl l l'];rfl
theorem kef:∀ {l:List Rg.Pt} {k:Nat} {p:Rg.Pt},l[k]? =N p→(ptL l)[k*3]? =N (V p.1)∧(ptL l)[k*3+1]? =N (I Y (p.2.1:Nat))∧(ptL l)[k*3+2]? =N (I Y (p.2.2:Nat))
 |[],_,_,h=>by simp at h
 |q::l,0,p,h=>by simp only[gB,ug0] at h;subst h;exact ⟨rfl,rfl,rfl⟩
 |q::l,k+1,p,h=>by rw[gC] at h;have:=kef h;rw[ptL,show (k+1)*3=k*3+1+1+1 by omega];exact this
def kpA {c:Nat} {w w':O} {base size n:Nat} {e:ah} {v:C} {xs:List C} (h:w.ownsRow base e size v n xs) (k:KCh c w w') (aG:¬kcJ e):w'.ownsRow base e size v n xs:=by
 refine ⟨h.1,?_⟩;rcases h.2 with h|⟨g,cap,cur,af,ao,av,bk⟩
 .exact .inl h
 .exact .inr ⟨g,cap,cur,af,ao,k.far g e cur av aG,bk⟩
def KPt.grown {w w':O} {row:Option Nat} {t:ah} (hg:w.grownBy w' row) (am:∀ g,row=N g→∃ cur,Blk w g t cur) (aB:¬kcJ t):KPt w w':=
 ⟨hg.size,fun i t' cs ak h4=>Blk.grown ak hg (fun e=>by obtain ⟨cur,an⟩:=am i e.symm;unfold Blk at ak an;rw[ak] at an;injection an with an;injection an with _ ao _;subst ao;exact aB h4)⟩
def kvN {w:O} {base size n g:Nat} {e:ah} {v:C} {xs:List C} (h:w.ownsRow base e size v n xs) (hg:v.ownBlock≠N g) (aT aU aX:C):(((w.setCell ⟨g,0,Z⟩ aT).setCell ⟨g,1,Z⟩ aU).setCell ⟨g,2,Z⟩ aX).ownsRow base e size v n xs:=
 ((h.kept (kdo w ⟨g,0,Z⟩ aT) (.inr hg)).kept (kdo _ ⟨g,1,Z⟩ aU) (.inr hg)).kept (kdo _ ⟨g,2,Z⟩ aX) (.inr hg)
def kyz:(prog.info? 226).map (fun i=>(i.zero,i.size,i.bytes))=N (N (aa #[V J,I Y 0,I Y 0]),3,24):=kR
def kyP (n:Nat) (bQ:kdZ n) (lo hi:Int) (ps:List Rx) (ax:(Rx.node 5 0 0 0 0 lo hi ps).size≤n+1) (cs:List C) (w:O) (F:Nat→Prop) (c:Nat) (bn:Rg.Ch) (au:RxV w F (Rx.node 5 0 0 0 0 lo hi ps) cs) (hF:∀ i,F i→i<c) (az:ps.length=1) (kN:0≤lo) (Dq:lo≤64) (hii:0≤hi) (hii2:hi≤64) (eE:kap ps) (dw:kar ps) (al:(Rx.node 5 0 0 0 0 lo hi ps).size≤1000000000) (iJ:ChM w c bn) (ej:ChB bn) (hm:bn.S.length+(Rx.node 5 0 0 0 0 lo hi ps).pos≤64):
 L prog 193 #[ab (N ⟨c,0,Z⟩),aa cs.toArray] w (kcO c w (Rg.mak (n+1) (Rx.node 5 0 0 0 0 lo hi ps) bn)):=by
 unfold RxV at au;obtain ⟨A,c9,bV,rfl,dx,dU⟩:=au;unfold Rx.size at ax al;have hP:=hD ax;obtain ⟨x,rfl⟩:∃ x,ps=[x]:=um5.1 az;clear az;have me:([x]:List Rx).length=1:=rfl;rw[me] at dx;have iR:RxV w F x bV:=(by exact kh2);have zR:x.size≤n:=(by rw[kcc] at ax;omega);have tR:x.size≤1000000000:=(by rw[kcc] at al;omega);have zS:x.fmd:=(by unfold kap at eE;exact eE.1);have pg:x.mat:=(by unfold kar at dw;exact dw.1);obtain ⟨sG,kv,uz,zT,zU⟩:=hd5 iR zR tR zS pg;clear iR zR tR zS pg;obtain ⟨fQ,b4,dc,ji,tS⟩:=hd5 dx hF bQ ej hm;have ia:=iJ.lt;obtain ⟨aq,aQ⟩:=xE (w.alloc (y #[I .i64 5,I Y 0,I Y 0,I Y 0,I Y 0,I U lo,I U hi,D A 1 c9] 105));have dT:=bR aQ;have c4:=bA aQ;have fy:=wS aQ;have fP:=kat aq (y #[V J,I Y 0,I Y 0] 226);have mF:Blk (aq.alloc (y #[V J,I Y 0,I Y 0] 226)) (w.heap.size+1) 226 #[V J,I Y 0,I Y 0]:=(by rw[←fy];exact Blk.new aq _ _);obtain ⟨aF,bW⟩:=xE (aq.alloc (y #[V J,I Y 0,I Y 0] 226));rw[←bW] at mF fP;have lu:aF.heap.size=w.heap.size+1+1:=(by rw[bW];simp;omega);have dZ:=c4.trans (fP.mono c4.size);obtain ⟨co,bo,gt,l3,cd,e1⟩:=hd6 (dT.below fP dT.lt) dZ mF (iJ.below dZ) aQ bW;obtain ⟨es,bK⟩:=xE (Rg.mak (n+1) (Rx.node 5 0 0 0 0 lo hi [x]) bn);rw[←bK];have fz:=hD bK;clear dx dU hF bQ eE dw ej iJ dT c4 aQ fP bW ax hm mF dZ bK;change L prog 193 #[ab (N ⟨c,0,Z⟩),aa #[I .i64 5,I Y 0,I Y 0,I Y 0,I Y 0,I U lo,I U hi,D A 1 c9]] w _;obtain ⟨m,rfl⟩:∃ m:Nat,hi=(m:Int):=⟨hi.toNat,oM⟩;obtain ⟨bl,cR⟩:=xE (Rg.mak n x);have kV:=hD (show ∀ bn,ChB bn→OkS (bl bn) from fun bn h=>by rw[cR];exact keR n x zU.o bn h);have lz:=hD (show Lays bl x.pos by rw[cR];exact keS n x kv.o zT.o);obtain ⟨kd,a0,aY,bh,a3,eh,eF,dd,jC,cS,rfl⟩:=sG.o.eight;obtain ⟨cx,dp,rfl,j6,eZ,cq⟩:=fQ.o.2 oM;have nM:cx<c:=b4.o cx j6;have zN:=hD (fun (W:O) (aw:KCh c w W) (j:Nat) (u:C) (aI: [I .i64 kd,I Y a0,I Y aY,I Y bh,I Y a3,I U eh,I U eF,D dd jC cS][j]? =N u)=>(ue6 (a:=⟨cx,dp+j,Z⟩) (aw.low cx nM eZ)).trans (cq j u aI));have CG:Hz (∀(W:O) (bn:Rg.Ch),KCh c w W→ChM W c bn→ChB bn→bn.S.length+x.pos≤64→L prog 160 #[ab (N ⟨c,0,Z⟩),aa #[I .i64 kd,I Y a0,I Y aY,I Y bh,I Y a3,I U eh,I U eF,D dd jC cS]] W fun e w'=>e=ac (aa #[V (bl bn).1.1,I Y ((bl bn).1.2.1:Nat),I Y ((bl bn).1.2.2:Nat)])∧ChM w' c (bl bn).2∧KCh c W w'):=hD (fun W bn aw an ak aO=>by rw[cR];exact dc.o x kv.o _ W F c bn (sG.o.kch aw b4.o) b4.o zT.o zU.o uz.o an ak aO);have zQ:bn.S.length+x.pos*m≤64:=(by have:=tS.o;rw[Rx.pos,kaE,kaE] at this;unfold kaz kaM kaY at this;rw[ua0 (show ¬(m:Int)= -1 by omega)] at this;simpa using this);obtain ⟨nQ,K4,K5⟩:=hd3 zQ (fun k=>kjJ kV.o k bn ji.o) (fun k=>kjY lz.o k bn ji.o.ok);have bq:Hz (es=Rg.mbe lo (Rg.maW bl m bn).1 m (Rg.unit,(Rg.maW bl m bn).2)):=hD (by rw[fz.o,cR];show (if 5=2 then _ else _)=_;rw[ua0 dC,ua0 dC,ua0 dC,ua1 rfl,ua0 (show ¬(m:Int)<0 by omega)];rfl);have fS:=hD (KCh.of_below (c:=c) bo.o);obtain ⟨w3,cM,hi0,hi1,hi2⟩:=ug6 kyz;obtain ⟨jP,jQ,jR,Ge⟩:=hd4 cM hi0 hi1 hi2;have hhin:¬(m:Int)<0:=oM;clear zQ cR cq cM hi0 hi1 hi2;go_enter func193,ntmps193;go_upto_region 1 with (fail);rw[←cd.o,←e1.o];clear cd e1;obtain ⟨⟨⟨aN,aM⟩,aZ,bC⟩,⟨b1,c5⟩,ct,bI⟩:=co.o.cells;go_wp2_with fail;clear aN aM aZ bC b1 c5 ct bI;go_loopg [8,9] (m+1) (fun f v i wr=>∃(k:Nat) (dF:Option ae) (eB:Nat),i=I U k∧v=D dF k eB∧k≤m∧m<k+f∧w.heap.size+1<wr.heap.size∧Hz (wr.ownsRow (w.heap.size+1+1) 226 3 (D dF k eB) k (ptL (Rg.maW bl k bn).1))∧Hz (ChM wr c (Rg.maW bl k bn).2)∧Hz (R8 wr w (I U 5) (I Y 0) (I Y 0) (I Y 0) (I Y 0) (I U lo) (I U m) (D (N ⟨cx,dp,Z⟩) 1 c9))∧Hz (Blk wr (w.heap.size+1) 226 #[V J,I Y 0,I Y 0])∧Hz (KCh c w wr))
 case atStart=>exact ⟨0,Z,0,rfl,rfl,oM,oM,gt.o.lt,hD ⟨rfl, .inl ⟨rfl,rfl⟩⟩,l3,co,gt,fS⟩
 case round=>clear bo co gt l3 fS;obtain ⟨k,dF,eB,rfl,rfl,aw,fo,pf,dB,a8,a1,cf,ei⟩:=hrel;exact kgA
def kzf (n:Nat) (bQ:kdZ n) (lo hi:Int) (ps:List Rx) (ax:(Rx.node 5 0 0 0 0 lo hi ps).size≤n+1) (cs:List C) (w:O) (F:Nat→Prop) (c:Nat) (bn:Rg.Ch) (au:RxV w F (Rx.node 5 0 0 0 0 lo hi ps) cs) (hF:∀ i,F i→i<c) (Nf:∀ W,H w w W→L prog 193 #[ab (N ⟨c,0,Z⟩),aa cs.toArray] W (kcO c W (Rg.mak (n+1) (Rx.node 5 0 0 0 0 lo hi ps) bn))) (eE:kap ps) (dw:kar ps) (al:(Rx.node 5 0 0 0 0 lo hi ps).size≤1000000000) (iJ:ChM w c bn) (ej:ChB bn) (hm:bn.S.length+(Rx.node 5 0 0 0 0 lo hi ps).pos≤64):
 L prog 160 #[ab (N ⟨c,0,Z⟩),aa cs.toArray] w (kcO c w (Rg.mak (n+1) (Rx.node 5 0 0 0 0 lo hi ps) bn)):=by
 exact yq8
theorem kq6:∀(n:Nat),kdZ n
 |0=>fun r ax=>by have:=r.size_pos;omega
 |n+1=>by
  intro r ax cs w F c bn au hF b5 aB al iJ ej hm;obtain ⟨k,aT,aU,aX,a2,lo,hi,ps⟩:=r;have bQ:=kq6 n;unfold Rx.fmd at b5;unfold Rx.mat at aB;obtain ⟨aw,eE⟩:=b5;obtain ⟨-,t0,bb,db,t3, -, -, -, -,dw⟩:=aB;rcases aw with ⟨rfl,⟨rfl,rfl,rfl,rfl⟩,rfl,rfl,az⟩|⟨rfl,rfl,rfl,az⟩|⟨rfl,⟨rfl,rfl,rfl,rfl⟩,rfl,rfl,az⟩|⟨rfl,⟨rfl,rfl,rfl,rfl⟩,rfl,rfl,az⟩|⟨rfl,⟨rfl,rfl,rfl,rfl⟩,az,aD,af,ao⟩
  .exact kzj n bQ ps ax cs w F c bn au hF eE dw al iJ ej hm
  .exact kzi n bQ aT aU aX a2 ps ax cs w F c bn au hF t0 bb db t3 az eE dw al iJ ej hm
  .exact kzh n bQ ps ax cs w F c bn au hF eE dw al iJ ej hm
  .exact kzg n bQ ps ax cs w F c bn au hF eE dw al iJ ej hm
  .refine kzf n bQ lo hi ps ax cs w F c bn au hF (fun W ak=>?_) eE dw al iJ ej hm;have K6:=au.kch (KCh.of_below (c:=c) ak) hF;rcases ao with rfl|⟨ao,av,bk⟩
   .exact kyQ n bQ lo ps ax cs W F c bn K6 hF az aD af eE dw al (iJ.below ak) ej hm
   .exact kyP n bQ lo hi ps ax cs W F c bn K6 hF az aD af ao bk eE dw al (iJ.below ak) ej hm
def kbp (h:P:=by obtain ⟨z0,ca,cI,z3,z4,k0,k1,bS,fp,gy⟩:=kak dm;have cW:=hD (kb1 dm (I U cy) (I U cv) (V cr) (Q t9) (D ci bX c9));first|guard_hyp Tf;have di:=hD (kaR (F:=F) (W:=aq.drew) a7.o.drew (by show w.heap.size<aq.heap.size;omega) ck cF (fun _ h=>h.elim) (I U cy) (I U cv) (V cr) (Q t9) (D ci bX c9));have fq:=b7.o c7 (a7.o.trans (dG.mono a7.o.size));have iH:=b7.o _ (kdc (a7.o.trans (dG.mono a7.o.size)) (nR) (I U cy) (I U cv) (V cr) (Q t9) (D ci bX c9));clear ck cF dm dG;refine aJ.out _ _ fq ?_;clear aJ aR;(try simp only[Act.put,gE,gF,gG]);(first|guard_hyp Ag;refine tk 9 fq ?_|skip);refine tk 10 fq ?_;refine tk 11 fq ?_;(first|guard_hyp Ag;refine tkO 12 (fun aR aJ=>?_)|refine tk 12 fq ?_;refine tkO 13 (fun aR aJ=>?_));go_simp;refine aJ.out _ _ iH ?_;clear aJ aR;(try simp only[Act.put,gE,gF,gG]);(first|guard_hyp Ag;refine tkO 13 (fun aR aJ=>?_)|refine tkO 14 (fun aR aJ=>?_));go_simp;refine aJ.out _ _ iH ?_;clear aJ aR;(try simp only[Act.put,gE,gF,gG]);(first|guard_hyp Ag;refine tkO 14 (fun aR aJ=>?_)|refine tkO 15 (fun aR aJ=>?_));go_simp;refine aJ.out _ _ iH ?_;clear aJ aR;(try simp only[Act.put,gE,gF,gG]);refine ug7 kR ?_ _;refine uf0 ?_;(try simp only[Act.put,gE,gF,gG]);go_wp2_with fail;obtain ⟨bi,aW,bc,br,bL, -⟩:=kak cW.o;refine ub2 (v:=ag #[aa #[I .i64 cy,I U cv,V cr,Q t9,D ci bX c9],I U dM,V ff]) (by simp[results,results83,go_sem,bi,aW,bc,br,bL]) rfl ?_;exact di.o|guard_hyp Th;(first|guard_hyp xw;have di:=hD (kaR (F:=F) cA.o oM ck cF (fun _ h=>h.elim) (I U cy) (I U cv) (V cr) (Q t9) (D ci bX c9))|(first|guard_hyp Ha|guard_hyp UH);have di:=hD (kaR (F:=F) a7.o oM ck cF b4.o (I U cy) (I U cv) (V cr) (Q t9) (D ci bX c9))|have di:=hD (kaR (F:=F) a7.o oM ck cF (fun _ h=>h.elim) (I U cy) (I U cv) (V cr) (Q t9) (D ci bX c9)));clear ck cF dm;go_wp2_with fail;obtain ⟨bi,aW,bc,br,bL, -⟩:=kak cW.o;(first|(first|guard_hyp Ha|guard_hyp GV|guard_hyp GU|guard_hyp GT|guard_hyp xw);refine ub2 (v:=ag #[aa #[I .i64 cy,I U cv,V cr,Q t9,D ci bX c9],I U dM,V ff]) (by simp[results,results83,go_sem,bi,aW,bc,br,bL]) rfl ?_|refine ub2 (v:=ag #[aa #[I .i64 cy,I U cv,V cr,Q t9,D ci bX c9],I U dM,V ff]) (by simp[results,results45,go_sem,bi,aW,bc,br,bL]) rfl ?_);exact di.o|guard_hyp Sj;(first|guard_hyp la;have di:=hD (kaR (F:=F) (W:=bm.drew) cN.o.drew (by show w.heap.size<bm.heap.size;omega) ck cF (fun _ h=>h.elim) (I U cy) (I U cv) (V cr) (Q t9) (D ci bX c9));have fq:=vB.o c7 dG;have iH:=GD.o c7 dG (I U cy) (I U cv) (V cr) (Q t9) (D ci bX c9);clear ck cF dm dG|guard_hyp ns;have di:=hD (kaR (F:=F) (W:=bm.drew) cN.o.drew (by show w.heap.size<bm.heap.size;omega) ck cF (fun _ h=>h.elim) (I U cy) (I U cv) (V cr) (Q t9) (D ci bX c9));have fq:=b7.o c7 (cN.o.trans (dG.mono cN.o.size));have iH:=b7.o _ (kdc (cN.o.trans (dG.mono cN.o.size)) (nR) (I U cy) (I U cv) (V cr) (Q t9) (D ci bX c9));clear ck cF dm dG|have di:=hD (kaR (F:=F) f1.o oM ck cF (fun i (hi:bm.heap.size≤i)=>⟨oM, .inr oM⟩) (I U cy) (I U cv) (V cr) (Q t9) (D ci bX c9));have fq:=(b7.o c7 (f1.o.trans (ck.mono f1.o.size))).2;have iH:=(b7.o _ (kdc (f1.o.trans (ck.mono f1.o.size)) (nR) (I U cy) (I U cv) (V cr) (Q t9) (D ci bX c9))).2;clear ck cF dm);refine aJ.out _ _ fq ?_;clear aJ aR;(first|guard_hyp la;(try simp only[Act.put,ub4,ua8,ua9,gE,gF,gG]);refine tk 28 fq ?_;refine tk 29 fq ?_;refine tk 30 fq ?_;refine tkO 31 (fun aR aJ=>?_)|guard_hyp ns;(try simp only[Act.put,ub4,ua8,ua9,gE,gF,gG]);refine tk 16 fq ?_;refine tk 17 fq ?_;refine tk 18 fq ?_;refine tkO 19 (fun aR aJ=>?_)|(try simp only[Act.put,gE,gF,gG]);refine tk 11 fq ?_;refine tk 12 fq ?_;refine tk 13 fq ?_;refine tkO 14 (fun aR aJ=>?_));go_simp;refine aJ.out _ _ iH ?_;clear aJ aR;(first|guard_hyp la;(try simp only[Act.put,ub4,ua8,ua9,gE,gF,gG]);refine tkO 32 (fun aR aJ=>?_)|guard_hyp ns;(try simp only[Act.put,ub4,ua8,ua9,gE,gF,gG]);refine tkO 20 (fun aR aJ=>?_)|(try simp only[Act.put,gE,gF,gG]);refine tkO 15 (fun aR aJ=>?_));go_simp;refine aJ.out _ _ iH ?_;clear aJ aR;(first|guard_hyp la;(try simp only[Act.put,ub4,ua8,ua9,gE,gF,gG]);refine tkO 33 (fun aR aJ=>?_)|guard_hyp ns;(try simp only[Act.put,ub4,ua8,ua9,gE,gF,gG]);refine tkO 21 (fun aR aJ=>?_)|(try simp only[Act.put,gE,gF,gG]);refine tkO 16 (fun aR aJ=>?_));go_simp;refine aJ.out _ _ iH ?_;clear aJ aR;(first|guard_hyp xC;(try simp only[Act.put,gE,gF,gG])|(try simp only[Act.put,ub4,ua8,ua9,gE,gF,gG]));refine ug7 kR ?_ _;refine uf0 ?_;(first|guard_hyp xC;(try simp only[Act.put,gE,gF,gG])|(try simp only[Act.put,ub4,ua8,ua9,gE,gF,gG]));go_wp2_with fail;obtain ⟨bi,aW,bc,br,bL, -⟩:=kak cW.o;refine ub2 (v:=ag #[aa #[I .i64 cy,I U cv,V cr,Q t9,D ci bX c9],I U dM,V ff]) (by simp[results,results131,go_sem,bi,aW,bc,br,bL]) rfl ?_;exact di.o|guard_hyp Sk;(first|guard_hyp nt;have di:=hD (kaR (F:=F) (W:=aK.drew) cA.o.drew (by show w.heap.size<aK.heap.size;omega) ck cF (fun _ h=>h.elim) (I U cy) (I U cv) (V cr) (Q t9) (D ci bX c9));have fq:=vB.o c7 dG;have iH:=GD.o c7 dG (I U cy) (I U cv) (V cr) (Q t9) (D ci bX c9)|guard_hyp nu;have di:=hD (kaR (F:=F) (W:=aq.drew) a7.o.drew (by show w.heap.size<aq.heap.size;omega) ck cF xa.o (I U cy) (I U cv) (V cr) (Q t9) (D ci bX c9));have fq:=(b7.o c7 (a7.o.trans (dG.mono a7.o.size))).2;have iH:=(b7.o _ (kdc (a7.o.trans (dG.mono a7.o.size)) (nR) (I U cy) (I U cv) (V cr) (Q t9) (D ci bX c9))).2|have di:=hD (kaR (F:=F) cN.o oM ck cF (fun i (hi:aq.heap.size≤i)=>⟨oM, .inr oM⟩) (I U cy) (I U cv) (V cr) (Q t9) (D ci bX c9));have fq:=(b7.o c7 (cN.o.trans (dG.mono cN.o.size))).2;have iH:=(b7.o _ (kdc (cN.o.trans (dG.mono cN.o.size)) (nR) (I U cy) (I U cv) (V cr) (Q t9) (D ci bX c9))).2);clear ck cF dm dG;refine aJ.out _ _ fq ?_;clear aJ aR;(try simp only[Act.put,ub4,ua8,ua9,gE,gF,gG]);(first|guard_hyp nt;refine tk 28 fq ?_;refine tk 29 fq ?_;refine tk 30 fq ?_;refine tkO 31 (fun aR aJ=>?_)|guard_hyp nu;refine tk 16 fq ?_;refine tk 17 fq ?_;refine tk 18 fq ?_;refine tkO 19 (fun aR aJ=>?_)|refine tk 15 fq ?_;refine tk 16 fq ?_;refine tk 17 fq ?_;refine tkO 18 (fun aR aJ=>?_));go_simp;refine aJ.out _ _ iH ?_;clear aJ aR;(try simp only[Act.put,ub4,ua8,ua9,gE,gF,gG]);(first|guard_hyp nt;refine tkO 32 (fun aR aJ=>?_)|guard_hyp nu;refine tkO 20 (fun aR aJ=>?_)|refine tkO 19 (fun aR aJ=>?_));go_simp;refine aJ.out _ _ iH ?_;clear aJ aR;(try simp only[Act.put,ub4,ua8,ua9,gE,gF,gG]);(first|guard_hyp nt;refine tkO 33 (fun aR aJ=>?_)|guard_hyp nu;refine tkO 21 (fun aR aJ=>?_)|refine tkO 20 (fun aR aJ=>?_));go_simp;refine aJ.out _ _ iH ?_;clear aJ aR;(try simp only[Act.put,ub4,ua8,ua9,gE,gF,gG]);refine ug7 kR ?_ _;refine uf0 ?_;(try simp only[Act.put,ub4,ua8,ua9,gE,gF,gG]);go_wp2_with fail;obtain ⟨bi,aW,bc,br,bL, -⟩:=kak cW.o;refine ub2 (v:=ag #[aa #[I .i64 cy,I U cv,V cr,Q t9,D ci bX c9],I U dM,V ff]) (by simp[results,results131,go_sem,bi,aW,bc,br,bL]) rfl ?_;exact di.o|guard_hyp Tp;(first|guard_hyp xB;have di:=hD (kaR (F:=F) cA.o oM ck cF l1.o (I U cy) (I U cv) (V cr) (Q t9) (D ci bX c9))|have di:=hD (kaR (F:=F) a7.o oM ck cF (fun _ h=>h.elim) (I U cy) (I U cv) (V cr) (Q t9) (D ci bX c9)));clear ck cF dm;go_wp2_with fail;obtain ⟨bi,aW,bc,br,bL, -⟩:=kak cW.o;refine ub2 (v:=ag #[aa #[I .i64 cy,I U cv,V cr,Q t9,D ci bX c9],I U dM,V ff]) (by simp[results,results131,go_sem,bi,aW,bc,br,bL]) rfl ?_;exact di.o|guard_hyp S4;have di:=hD (kaR (F:=F) cN.o oM ck cF pA.o (I U cy) (I U cv) (V cr) (Q t9) (D ci bX c9));clear ck cF dm;go_wp2_with fail;obtain ⟨bi,aW,bc,br,bL, -⟩:=kak cW.o;refine ub2 (v:=ag #[aa #[I .i64 cy,I U cv,V cr,Q t9,D ci bX c9],I U dM,V ff]) (by simp[results,results131,go_sem,bi,aW,bc,br,bL]) rfl ?_;exact di.o|guard_hyp Ue;have di:=hD (kaR (F:=F) ep.o oM ck cF Ud.o (I U cy) (I U cv) (V cr) (Q t9) (D ci bX c9));clear ck cF dm;go_wp2_with fail;obtain ⟨bi,aW,bc,br,bL, -⟩:=kak cW.o;refine ub2 (v:=ag #[aa #[I .i64 cy,I U cv,V cr,Q t9,D ci bX c9],I U dM,V ff]) (by simp[results,results131,go_sem,bi,aW,bc,br,bL]) rfl ?_;exact di.o|guard_hyp S0;have di:=hD (kaR (F:=F) bU.o oM ck cF (fun _ h=>h.elim) (I U cy) (I U cv) (V cr) (Q t9) (D ci bX c9));clear ck cF dm;go_wp2_with fail;obtain ⟨bi,aW,bc,br,bL, -⟩:=kak cW.o;refine ub2 (v:=ag #[aa #[I .i64 cy,I U cv,V cr,Q t9,D ci bX c9],I U dM,V ff]) (by simp[results,results82,go_sem,bi,aW,bc,br,bL]) rfl ?_;exact di.o|guard_hyp TZ;have di:=hD (kaR (F:=F) cA.o oM ck cF (fun _ h=>h.elim) (I U cy) (I U cv) (V cr) (Q t9) (D ci bX c9));clear ck cF dm;go_wp2_with fail;obtain ⟨bi,aW,bc,br,bL, -⟩:=kak cW.o;refine ub2 (v:=ag #[aa #[I .i64 cy,I U cv,V cr,Q t9,D ci bX c9],I U dM,V ff]) (by simp[results,results82,go_sem,bi,aW,bc,br,bL]) rfl ?_;exact di.o|guard_hyp S1;have di:=hD (kaR (F:=F) f1.o oM ck cF (fun _ h=>h.elim) (I U cy) (I U cv) (V cr) (Q t9) (D ci bX c9));clear ck cF dm;go_wp2_with fail;obtain ⟨bi,aW,bc,br,bL, -⟩:=kak cW.o;refine ub2 (v:=ag #[aa #[I .i64 cy,I U cv,V cr,Q t9,D ci bX c9],I U dM,V ff]) (by simp[results,results82,go_sem,bi,aW,bc,br,bL]) rfl ?_;exact di.o|guard_hyp S2;have di:=hD (kaR (F:=F) f2.o oM ck cF yx.o (I U cy) (I U cv) (V cr) (Q t9) (D ci bX c9));clear ck cF dm;go_wp2_with fail;obtain ⟨bi,aW,bc,br,bL, -⟩:=kak cW.o;refine ub2 (v:=ag #[aa #[I .i64 cy,I U cv,V cr,Q t9,D ci bX c9],I U dM,V ff]) (by simp[results,results82,go_sem,bi,aW,bc,br,bL]) rfl ?_;exact di.o|guard_hyp Kl;have di:=hD (kaR (F:=F) (W:=aq.drew) a7.o.drew (by show w.heap.size<aq.heap.size;omega) ck cF (fun _ h=>h.elim) (I U cy) (I U cv) (V cr) (Q t9) (D ci bX c9));have fq:=b7.o c7 (a7.o.trans (dG.mono a7.o.size));have iH:=b7.o _ (kdc (a7.o.trans (dG.mono a7.o.size)) (nR) (I U cy) (I U cv) (V cr) (Q t9) (D ci bX c9));clear ck cF dm dG;refine aJ.out _ _ fq ?_;clear aJ aR;(try simp only[Act.put,ub4,ua8,ua9,gE,gF,gG]);refine tk 21 fq ?_;refine tk 22 fq ?_;refine tk 23 fq ?_;refine tkO 24 (fun aR aJ=>?_);go_simp;refine aJ.out _ _ iH ?_;clear aJ aR;(try simp only[Act.put,ub4,ua8,ua9,gE,gF,gG]);refine tkO 25 (fun aR aJ=>?_);go_simp;refine aJ.out _ _ iH ?_;clear aJ aR;(try simp only[Act.put,ub4,ua8,ua9,gE,gF,gG]);refine tkO 26 (fun aR aJ=>?_);go_simp;refine aJ.out _ _ iH ?_;clear aJ aR;(try simp only[Act.put,ub4,ua8,ua9,gE,gF,gG]);refine ug7 kR ?_ _;refine uf0 ?_;(try simp only[Act.put,ub4,ua8,ua9,gE,gF,gG]);go_wp2_with fail;obtain ⟨bi,aW,bc,br,bL, -⟩:=kak cW.o;refine ub2 (v:=ag #[aa #[I .i64 cy,I U cv,V cr,Q t9,D ci bX c9],I U dM,V ff]) (by simp[results,results83,go_sem,bi,aW,bc,br,bL]) rfl ?_;exact di.o|guard_hyp Tb;have di:=hD (kaR (F:=F) qF.o oM ck cF (fun _ h=>h.elim) (I U cy) (I U cv) (V cr) (Q t9) (D ci bX c9));clear ck cF dm;go_wp2_with fail;obtain ⟨bi,aW,bc,br,bL, -⟩:=kak cW.o;refine ub2 (v:=ag #[aa #[I .i64 cy,I U cv,V cr,Q t9,D ci bX c9],I U dM,V ff]) (by simp[results,results131,go_sem,bi,aW,bc,br,bL]) rfl ?_;exact di.o|guard_hyp S5;have di:=hD (kaR (F:=F) cN.o oM ck cF (fun _ h=>h.elim) (I U cy) (I U cv) (V cr) (Q t9) (D ci bX c9));clear ck cF dm;go_wp2_with fail;obtain ⟨bi,aW,bc,br,bL, -⟩:=kak cW.o;refine ub2 (v:=ag #[aa #[I .i64 cy,I U cv,V cr,Q t9,D ci bX c9],I U dM,V ff]) (by simp[results,results131,go_sem,bi,aW,bc,br,bL]) rfl ?_;exact di.o|guard_hyp S3;have di:=hD (kaR (F:=F) f2.o oM ck cF (fun _ h=>h.elim) (I U cy) (I U cv) (V cr) (Q t9) (D ci bX c9));clear ck cF dm;go_wp2_with fail;obtain ⟨bi,aW,bc,br,bL, -⟩:=kak cW.o;refine ub2 (v:=ag #[aa #[I .i64 cy,I U cv,V cr,Q t9,D ci bX c9],I U dM,V ff]) (by simp[results,results82,go_sem,bi,aW,bc,br,bL]) rfl ?_;exact di.o|guard_hyp Fs;have di:=hD (kaR (F:=F) qF.o oM ck cF (fun _ h=>h.elim) (I U cy) (I U cv) (V cr) (Q t9) (D ci bX c9));clear ck cF dm;go_wp2_with fail;obtain ⟨bi,aW,bc,br,bL, -⟩:=kak cW.o;refine ub2 (v:=ag #[aa #[I .i64 cy,I U cv,V cr,Q t9,D ci bX c9],I U dM,V ff]) (by simp[results,results83,go_sem,bi,aW,bc,br,bL]) rfl ?_;exact di.o|have di:=hD (kaR (F:=F) cA.o oM ck cF (fun _ h=>h.elim) (I U cy) (I U cv) (V cr) (Q t9) (D ci bX c9));clear ck cF dm;go_wp2_with fail;obtain ⟨bi,aW,bc,br,bL, -⟩:=kak cW.o;refine ub2 (v:=ag #[aa #[I .i64 cy,I U cv,V cr,Q t9,D ci bX c9],I U dM,V ff]) (by simp[results,results131,go_sem,bi,aW,bc,br,bL]) rfl ?_;exact di.o):=h
def keu {α:Type} {l:List α} {k:Nat} {x:α} (h:l[k]? =N x):l.drop k=x::l.drop (k+1):=by obtain ⟨aw,aG⟩:=ue1.1 h;rw[ue7 aw,aG]
def kBg {b k m:Nat} {S:List Rg.W4} {s:Rg.W4} (h:S[k]? =N s):Rg.mbT b k (S.drop k) m=Rg.mbT b (k+1) (S.drop (k+1)) (if Rg.has s b then m|||2^k else m):=by rw[keu h];rfl
def kws {x k m f:Nat} {F:List Nat} (h:F[k]? =N f):Rg.mbP x k (F.drop k) m=Rg.mbP x (k+1) (F.drop (k+1)) (if x / 2^k % 2=1 then m|||f else m):=by rw[keu h];rfl
def kk1 {l:List Nat} {x B:Nat} (h:∀ aC∈l,aC<B) (aA:x<B):∀ aC∈Rg.addN l x,aC<B:=by
 intro aC bp;unfold Rg.addN at bp;split at bp
 .exact h aC bp
 .rcases uh2.1 bp with af|af
  .exact h aC af
  .rw[ug5.1 af];exact aA
def kk2 (l:List Nat) (x:Nat):(Rg.addN l x).length≤l.length+1:=by
 unfold Rg.addN;split
 .omega
 .rw[ua6];exact nR
def E1 (S:List Rg.W4) (l:List Nat) (b:Nat):List Nat:=Rg.addN l (Rg.mbT b 0 S 0)
def kBf (S:List Rg.W4):Rg.mcc S=((List.range 256).drop 0).foldl (E1 S) []:=by unfold Rg.mcc E1;rw[ul4]
def kvy {b:Nat} (h:b<256):(List.range 256)[b]? =N b:=by rw[List.getElem?_range h]
def kBe {S:List Rg.W4} {l:List Nat} {b:Nat} (h:b<256):((List.range 256).drop b).foldl (E1 S) l=((List.range 256).drop (b+1)).foldl (E1 S) (Rg.addN l (Rg.mbT b 0 S 0)):=by rw[keu (kvy h)];rfl
def ksp {jO l:List Nat} {x k c:Nat} (h:jO[k]? =N c):Rg.mbD (jO.drop k) l x=Rg.mbD (jO.drop (k+1)) (Rg.addN l (x&&& c)) x:=by rw[keu h];rfl
def ksh {a:Nat} (b:Nat) (h:a<18446744073709551616):a&&& b<18446744073709551616:=Nat.lt_of_le_of_lt Nat.and_le_left h
def kqC (r:Rx) (cs:List C) (w:O) (F:Nat→Prop) (h:RxOk w F r cs) (hm:r.pos≤64) (vU:Bool):
 L prog 124 #[aa cs.toArray,V vU,I U 256] w fun e w'=>e=ac (I U (Rg.mbs r vU:Nat))∧H w w w':=by
 have b4:=hD h.F;have SR:=kat w (y cs.toArray 105);have K7:=fun (W:O) (ak:H w w W) (fn:w.heap.size<W.heap.size) (iJ:ChM W (w.heap.size+1) ⟨[],[]⟩)=>kq6 r.size r (nR) cs W F (w.heap.size+1) ⟨[],[]⟩ (h.below ak (nR)).v (fun i hi=>by have:=b4.o i hi;omega) h.fmd h.mat h.big iJ ⟨rfl,(fun x aA=>by cases aA),(fun x aA=>by cases aA)⟩ (by rw[uj7];omega);have dz:=keS r.size r (nR) h.fmd ⟨[],[]⟩ rfl;have i8:=keR r.size r h.mat ⟨[],[]⟩ ⟨rfl,(fun x aA=>by cases aA),(fun x aA=>by cases aA)⟩;obtain ⟨aaa,vx⟩:=xE (Rg.mbs r vU);rw[←vx];unfold Rg.mbs at vx;obtain ⟨rh,jY⟩:=xE (Rg.mak r.size r ⟨[],[]⟩);rw[←jY] at dz i8 vx;have K8:Hz (∀ W:O,H w w W→w.heap.size<W.heap.size→ChM W (w.heap.size+1) ⟨[],[]⟩→L prog 160 #[ab (N ⟨w.heap.size+1,0,Z⟩),aa cs.toArray] W (kcO (w.heap.size+1) W rh)):=hD (fun W af ao av=>by rw[jY];exact K7 W af ao av);obtain ⟨⟨aL,b2,bx⟩,⟨S,sk⟩⟩:=rh;have hSl:S.length≤64:=(by have:=dz.2;simp only[uj7,ud3] at this;omega);have K9:sk.length=S.length:=dz.1;have sH:b2<18446744073709551616:=i8.1.1;have SS:=hD i8.2.F;have j7:=hD i8.2.S;dsimp only at vx;obtain ⟨i9,Gf⟩:=xE (Rg.mcc S);obtain ⟨st,cg⟩:=xE ((if vU then b2 else 0));rw[←Gf,←cg] at vx;have ST:st<18446744073709551616:=(by rw[cg];split;exact sH;decide);have ls:Hz (((List.range 256).drop 0).foldl (E1 S) []=i9):=hD (by rw[Gf,kBf]);obtain ⟨gv,uD,rW⟩:=hd3 vx cg K9;obtain ⟨kd,a0,aY,bh,a3,lo,hi,A,n,c9,rfl⟩:=h.v.eight;obtain ⟨aq,aQ⟩:=xE (w.alloc (y #[I .i64 kd,I Y a0,I Y aY,I Y bh,I Y a3,I U lo,I U hi,D A n c9] 105));have dT:=bR aQ;have c4:=bA aQ;have fy:=wS aQ;have cd:=hD aQ;have Gg:Blk (aq.alloc (y #[D Z 0 0,D Z 0 0] 224)) (w.heap.size+1) 224 #[D Z 0 0,D Z 0 0]:=(by rw[←fy];exact Blk.new aq _ _);obtain ⟨aF,bW⟩:=xE (aq.alloc (y #[D Z 0 0,D Z 0 0] 224));have fP:=bA bW;rw[←bW] at Gg;have lu:aF.heap.size=w.heap.size+1+1:=(by rw[bW];simp;omega);have e1:=hD bW;have dZ:=c4.trans (fP.mono c4.size);have co:=hD (dT.below fP dT.lt);have La:ChM aF (w.heap.size+1) ⟨[],[]⟩:=⟨Z,0,Z,0,Gg,⟨rfl, .inl ⟨rfl,rfl⟩⟩,⟨rfl, .inl ⟨rfl,rfl⟩⟩⟩;have kq:Hz (L prog 160 #[ab (N ⟨w.heap.size+1,0,Z⟩),aa #[I .i64 kd,I Y a0,I Y aY,I Y bh,I Y a3,I U lo,I U hi,D A n c9]] aF fun e w'=>e=ac (aa #[V aL,I Y (b2:Nat),I Y (bx:Nat)])∧ChM w' (w.heap.size+1) ⟨S,sk⟩∧KCh (w.heap.size+1) aF w'):=hD (K8.o aF dZ oM La);have Gh:=hD dZ;clear h K7 jY dz i8 vx Gf cg K9 dT c4 aQ fP bW dZ Gg La K8 b4 SR;go_enter func124,ntmps124;go_upto_region 1 with (fail);rw[←cd.o];go_upto_region 2 with (fail);rw[←e1.o];clear cd e1;obtain ⟨⟨⟨aN,aM⟩,aZ,bC⟩,⟨b1,c5⟩,ct,bI⟩:=co.o.cells;go_wp2_with fail;refine kq.o.mono ?_;rintro cG aK ⟨rfl,lb,dg⟩;obtain ⟨bm,eM⟩:=xE (aK.alloc (y #[V aL,I Y (b2:Nat),I Y (bx:Nat)] 226));have o6:=bM eM;have gq:=bA eM;have tA:=wS eM;have g9:=hD eM;have vy:=lb.below gq;have Gi:Hz (H w w bm):=hD ((KCh.trans dg (KCh.of_below gq)).below Gh.o oM Gh.o.size);obtain ⟨dA,k1,fD,bS,af,ao,av⟩:=vy;dsimp only at af ao av;obtain ⟨_,_,bJ,ey⟩:=kds ao;obtain ⟨rfl, -,rfl⟩:=uj2 bJ;obtain ⟨_,_,dn,Lb⟩:=kds av;obtain ⟨rfl, -,rfl⟩:=uj2 dn;obtain ⟨fz,Lc,ks,rl⟩:=hd4 ey Lb af o6;obtain ⟨B,b0⟩:=xE bm.heap.size;have tm:w.heap.size≤B:=(by rw[b0];exact Gi.o.size);obtain ⟨ry,ph⟩:=xE aK.heap.size;rw[←ph] at rl;have Ld:=hD ph;have ev:=hD b0;clear eM lb dg gq o6 af ao av bJ dn ey Lb tA ph Gh kq co aN aM aZ bC b1 c5 ct bI;go_upto_region 3 with (fail);rw[←g9.o,←Ld.o];clear g9 Ld;go_wp2_with fail;go_loopg [9,10,11,12] 257 (fun f eB X4 _ _ wr=>∃(b:Nat) (l:List Nat) (dF:Option ae) (cK:Nat),X4=I U b∧eB=D dF l.length cK∧b≤256∧256<b+f∧l.length≤b∧Hz (((List.range 256).drop b).foldl (E1 S) l=i9)∧Hz (∀ aC∈l,aC<2^64)∧Hz (wr.ownsRow B 100 1 (D dF l.length cK) l.length (nuC l))∧Hz (H B bm wr))
 case atStart=>exact ⟨0,[],Z,0,rfl,rfl,oM,oM,nR,ls,hD (fun aC bp=>by cases bp),hD ⟨rfl, .inl ⟨rfl,rfl⟩⟩,hD (ub5 _ _)⟩
 case round=>
  clear ls;obtain ⟨b,l,dF,cK,rfl,rfl,ak,CL,AL,jZ,k8,c1,aV⟩:=hrel;obtain ⟨f,rfl⟩:=xS gk;by_cases Nk:b<256
  .have fl:=jZ.o;rw[kBe Nk] at fl;have Le:=hD fl;clear fl jZ;have ni:(b:Int)<256:=oM;have w2:=IntWalk.u8_in (b:Int) oM;go_wp2_with fail;go_loopg [11,12] (S.length+1) (fun f X5 nW jK=>∃(k m:Nat),nW=I U k∧X5=I Y m∧k≤S.length∧S.length<k+f∧m<18446744073709551616∧Hz (Rg.mbT b k (S.drop k) m=Rg.mbT b 0 S 0)∧Hz (jK.ownsRow B 100 1 (D dF l.length cK) l.length (nuC l))∧Hz (H B bm jK))
   case atStart=>exact ⟨0,0,rfl,rfl,oM,oM,oM,hD rfl,c1,aV⟩
   case round=>
    clear c1 aV;obtain ⟨k,m,rfl,rfl,aw,fo,bg,CM,c1,aV⟩:=hrel;obtain ⟨dS,rfl⟩:∃ f,gk=f+1:=⟨gk-1,oM⟩;have pX:B≤wr.heap.size:=(by rw[ev.o];exact aV.o.size);have vz:=ks.o.below (aV.o.mono (Nat.le_of_eq ev.o.symm)) ks.o.lt;have eD:=vz.cell 0;have eS:=vz.cell 1;simp only[gA,gB,gC] at eD eS;clear vz;by_cases bG:k<S.length
    .obtain ⟨s,al⟩:=xG S bG;obtain ⟨cx,dp,rfl, -,eZ,cq⟩:=fz.o.2 oM;have qe:=kqa al;have qG:=fun (j:Nat) (u:C) (aI:(leC S)[j]? =N u)=>(aV.o.cell (p:=⟨cx,dp+j,Z⟩) (show cx<B by rw[ev.o];exact eZ)).trans (cq j u aI);have bu:=qG _ _ qe.1;have bY:=qG _ _ qe.2.1;have cP:=qG _ _ qe.2.2.1;have c8:=qG _ _ qe.2.2.2;rw[←un6] at bY cP c8;have ku:=j7.o s (ua4 al);have ll:=CM.o;rw[kBg al] at ll;obtain ⟨aT,aU,aX,a2⟩:=s;dsimp only at bu bY cP c8 ku;obtain ⟨x,aA⟩:=xE (Rg.has (aT,aU,aX,a2) b);have dh:=hD (fun (W:O)=>kra aT aU aX a2 ku.1 ku.2.1 ku.2.2.1 ku.2.2.2 b oM W);rw[←aA] at ll dh;have cU:(k:Int)<(S.length:Int):=oM;have bE:=nN k;have CN:=hD ll;clear al qe qG cq ku ll aA;go_wp2_with fail;refine (dh.o _).mono ?_;rintro cG du ⟨rfl,eu⟩;have f1:=hD (aV.o.trans (eu.mono pX));have Lf:=hD (kaI c1.o eu);clear eu bu bY cP c8 eD eS aV c1 dh CM
     cases x with
     |true=>
      obtain ⟨kC,tU⟩:=xE (2^k);have EG:kC<18446744073709551616:=(by rw[tU];exact Nat.lt_of_le_of_lt (ur8 dC (show k≤63 by omega)) dC);have sQ:IntKind.u64.wrap (2^k)=(kC:Int):=(by rw[ut5,show ((2:Int)^k)=((2^k:Nat):Int) by simp,←tU];omega);have pV:=un8 m kC bg EG;have ll:=CN.o;rw[ua1 rfl,←tU] at ll;have Gj:=hD ll;have jl:=kdu bg EG;have Lg:k<64:=oM;clear ll CN tU;go_wp2_with fail;go_roundg dS
      case measure=>omega
      case rel=>exact ⟨k+1,m|||kC,by go_num,rfl,oM,oM,jl,Gj,Lf,f1⟩
     |false=>
      have ll:=CN.o;rw[ua0 dC] at ll;have Gj:=hD ll;clear ll CN;go_wp2_with fail;go_roundg dS
      case measure=>omega
      case rel=>exact ⟨k+1,m,by go_num,rfl,oM,oM,bg,Gj,Lf,f1⟩
    .obtain rfl:k=S.length:=oM;have ll:=CM.o;rw[ug8 (nR)] at ll;have Gk:m=Rg.mbT b 0 S 0:=ll;have qI:=hD (kku B l dF cK m wr bg oM pX c1.o k8.o);have HMC:=hD Gk;have vA:=Le;rw[←Gk] at vA;have tV:=hD (kk1 k8.o bg);have dL:=kk2 l m;obtain ⟨l',g2⟩:=xE (Rg.addN l m);rw[←g2] at qI vA tV dL;have i7:=hD (fun (i:Nat) (e:(D dF l.length cK).ownBlock=N i)=>(kbM c1.o e).1);clear ll Gk g2 CM Le;go_wp2_with fail;refine qI.o.mono ?_;rintro cG dl ⟨e4,bI,rfl,fm,fV, -⟩;have rp:=hD fm;have f2:=hD (aV.o.grown fV pX (fun j e=>i7.o j e));clear fm fV eD eS c1 aV qI i7 k8;go_wp2_with fail;go_roundg f
     case measure=>omega
     case rel=>exact ⟨b+1,l',e4,bI,by go_num,rfl,oM,oM,oM,vA,tV,rp,f2⟩
  .obtain rfl:b=256:=oM;have fl:=jZ.o;have ia:i9=l:=(show l=i9 from fl).symm;subst ia;obtain ⟨gx,uZ⟩:=xE wr;subst uZ;have z1:=aV.o.mono (Nat.le_of_eq ev.o.symm);obtain ⟨rq,wQ,SU⟩:=hd3 (rl.o.below z1 rl.o.lt) (ks.o.below z1 ks.o.lt) (RdF.keep (G:=fun _=>True) Lc.o (fun i _ hi=>z1.block i hi) z1.size (fun _ _ _=>trivial));obtain ⟨_,_,dM,xr⟩:=kds c1.o;obtain ⟨rfl, -,rfl⟩:=uj2 dM;have z2:=hD xr;obtain ⟨lB,dZ⟩:=xE gx.heap.size;have bo:=hD dZ;have Lh:=k8;have Gl:=hD (Gi.o.trans (aV.o.mono tm));have Li:w.heap.size≤lB:=(by rw[dZ];exact Gl.o.size);obtain ⟨CO,Gm⟩:=xE (Rg.mbD i9 [] b2);have CP:=gv.o;rw[←Gm] at CP;obtain ⟨R,aH⟩:=xE (Rg.mbM i9 sk st 258 0 CO);rw[←aH] at CP;have qh:=hD CP;have sU:Hz (Rg.mbD (i9.drop 0) [] b2=CO):=hD (by rw[ul4];exact Gm.symm);have kc:=hD aH.symm;clear fl jZ CL ak Nk z1 dM xr dZ CP Gm aH aV c1 k8 rl ks Lc ev Gi gv fz j7 tm;go_wp2_with fail;go_loopg [13,14] (i9.length+1) (fun f vN vO wr=>∃(k:Nat) (l:List Nat) (c6:Option ae) (mD:Nat),vO=I U k∧vN=D c6 l.length mD∧k≤i9.length∧i9.length<k+f∧l.length≤k∧Hz (Rg.mbD (i9.drop k) l b2=CO)∧Hz (∀ aC∈l,aC<2^64)∧Hz (wr.ownsRow lB 100 1 (D c6 l.length mD) l.length (nuC l))∧Hz (H lB gx wr))
   case atStart=>exact ⟨0,[],Z,0,rfl,rfl,oM,oM,nR,sU,hD (fun aC bp=>by cases bp),hD ⟨rfl, .inl ⟨rfl,rfl⟩⟩,hD (ub5 _ _)⟩
   case round=>
    clear sU;obtain ⟨k,l,c6,mD,rfl,rfl,aw,fo,m8,jZ,k8,c1,aV⟩:=hrel;obtain ⟨f,rfl⟩:=xS gk;have pX:lB≤wr.heap.size:=(by rw[bo.o];exact aV.o.size);by_cases bG:k<i9.length
    .obtain ⟨x,aA⟩:=xG i9 bG;obtain ⟨cx,dp,rfl, -,eZ,cq⟩:=z2.o.2 oM;have bu:wr.cell? ⟨cx,dp+k,Z⟩=N (I Y x):=(aV.o.cell (p:=⟨cx,dp+k,Z⟩) (show cx<lB by rw[bo.o];exact eZ)).trans (cq k _ (kfV aA));have d8:wr.cell? ⟨ry,1,Z⟩=N (I Y b2):=(aV.o.cell (p:=⟨ry,1,Z⟩) (show ry<lB by rw[bo.o];exact rq.o.lt)).trans (rq.o.cell 1);have ov:x<18446744073709551616:=Lh.o x (ua4 aA);have Gn:=u64_and_nat b2 x sH ov;have fl:=jZ.o;rw[ksp aA] at fl;have dL:=ksh x sH;obtain ⟨z,bd⟩:=xE (b2&&& x);rw[←bd] at Gn fl dL;have qI:=hD (kku lB l c6 mD z wr.drew dL oM pX (kaI c1.o (ub5 _ wr).drew) k8.o);have tV:=hD (kk1 k8.o dL);have qH:=kk2 l z;obtain ⟨l',g2⟩:=xE (Rg.addN l z);rw[←g2] at qI fl tV qH;have vA:=hD fl;have i7:=hD (fun (i:Nat) (e:(D c6 l.length mD).ownBlock=N i)=>(kbM c1.o e).1);have cU:(k:Int)<(i9.length:Int):=oM;have bE:=nN k;have Lj:ry<lB:=(by rw[bo.o];exact rq.o.lt);have dR:cx<lB:=(by rw[bo.o];exact eZ);clear aA cq fl bd g2 eZ jZ;go_upto_region 18 with (fail);refine ue4 ?_;refine ud6 (S:=(fun w'=>w'.cell? ⟨cx,dp+k,Z⟩=N (I Y x)∧w'.cell? ⟨ry,1,Z⟩=N (I Y b2))) kR ⟨bu,d8⟩ (fun ay=>?_);have SV:=();exact kfp
    .obtain rfl:k=i9.length:=oM;have fl:=jZ.o;rw[ug8 (nR)] at fl;have Lk:l=CO:=fl;have Gp:=kc;rw[←Lk] at Gp;have eI:l.length≤512:=oM;clear fl Lk jZ kc m8 fo aw bG;go_wp2_with fail;go_loopg [13,15,16,17,18] 258 (fun f vN nW _ _ _ wr=>∃(i f9:Nat) (l:List Nat) (c6:Option ae) (mD:Nat),nW=I U i∧vN=D c6 l.length mD∧i≤256∧256<i+f∧i+f9=258∧l.length≤512∧Hz (Rg.mbM i9 sk st f9 i l=R)∧Hz (∀ aC∈l,aC<2^64)∧Hz (wr.ownsRow lB 100 1 (D c6 l.length mD) l.length (nuC l))∧Hz (H lB gx wr))
     case atStart=>exact ⟨0,258,l,c6,mD,rfl,rfl,oM,oM,rfl,eI,Gp,k8,c1,aV⟩
     case round=>
      clear Gp k8 c1 aV eI pX;clear l c6 mD;obtain ⟨i,f9,l,c6,mD,rfl,rfl,hi,BO,SW,eI,oU,k8,c1,aV⟩:=hrel;obtain ⟨f,rfl⟩:=xS gk;obtain ⟨f9,rfl⟩:∃ f,f9=f+1:=⟨f9-1,oM⟩;obtain ⟨cT,gd⟩:=xE wr;subst gd;have pX:lB≤cT.heap.size:=(by rw[bo.o];exact aV.o.size);by_cases i1:i<l.length
      .by_cases f6:l.length≤256
       .have hi2:i+1≤256:=oM;have h8:=oU.o;rw[Rg.mbM,ua1 ⟨i1,f6⟩] at h8;obtain ⟨x,aA⟩:=xG l i1;have ii:l.getD i 0=x:=(by rw[ub6,aA];rfl);rw[ii] at h8;have ov:x<18446744073709551616:=k8.o x (ua4 aA);obtain ⟨_,_,dM,hl⟩:=kds c1.o;obtain ⟨rfl, -,rfl⟩:=uj2 dM;obtain ⟨u0,SX,rfl, -,bv,r6⟩:=hl.2 oM;have dj:cT.cell? ⟨u0,SX+i,Z⟩=N (I Y x):=r6 i _ (kfV aA);have d8:cT.cell? ⟨ry,1,Z⟩=N (I Y b2):=(aV.o.cell (p:=⟨ry,1,Z⟩) (show ry<lB by rw[bo.o];exact rq.o.lt)).trans (rq.o.cell 1);have vz:=wQ.o.below (aV.o.mono (Nat.le_of_eq bo.o.symm)) wQ.o.lt;have eD:=vz.cell 0;have eS:=vz.cell 1;simp only[gA,gB,gC] at eD eS;have cU:(i:Int)<(l.length:Int):=oM;have bE:=nN i;have c2:(l.length:Int)≤256:=oM;have Ll:=hD h8;clear h8 aA ii dM hl bv r6 vz oU;go_upto_if 82 with (fail)
        go_cut [16] (fun v wc=>v=I Y (st:Nat)∧cT=wc)
        case first=>
         cases vU with
         |true=>
          go_wp2_with fail;go_meet
          case rel=>exact ⟨by rw[uD.o];rfl,rfl⟩
         |false=>
          go_wp2_with fail;go_meet
          case rel=>exact ⟨by rw[uD.o];rfl,rfl⟩
        case rest=>
        obtain ⟨rfl,rfl⟩:=hcut;clear d8;go_wp2_with fail;go_loopg [16,17] (S.length+1) (fun f HF vO jK=>∃(k m:Nat),vO=I U k∧HF=I Y m∧k≤S.length∧S.length<k+f∧m<18446744073709551616∧Hz (Rg.mbP x k (sk.drop k) m=Rg.mbP x 0 sk st)∧cT=jK)
        case atStart=>exact ⟨0,st,rfl,rfl,oM,oM,ST,hD (by rw[ul4]),rfl⟩
        case round=>
         obtain ⟨k,m,rfl,rfl,aw,fo,bg,z6,rfl⟩:=hrel;obtain ⟨jN,rfl⟩:∃ f,gk=f+1:=⟨gk-1,oM⟩;by_cases bG:k<S.length
         .obtain ⟨aC,bp⟩:∃ aC,sk[k]? =N aC:=⟨_,ua3 (by rw[rW.o];exact bG)⟩;obtain ⟨cx,dp,rfl, -,eZ,cq⟩:=SU.o.2 (by rw[rW.o];omega);have bu:cT.cell? ⟨cx,dp+k,Z⟩=N (I Y aC):=(aV.o.cell (p:=⟨cx,dp+k,Z⟩) (show cx<lB by rw[bo.o];exact eZ)).trans (cq k _ (kfV bp));have Cq:=SS.o aC (ua4 bp);have oA:=z6.o;rw[kws bp] at oA;have r0:(k:Int)<(S.length:Int):=oM;have d5:=nN k;have fM:(k:Int)<(sk.length:Int):=(by rw[rW.o];omega);by_cases pm:x / 2^k % 2=1
          .rw[ua1 pm] at oA;have ni:(((x:Int) / 2^k).tmod 2==1)=K:=(by rw[kf4];exact ub3 pm);have pV:=un8 m aC bg Cq;have jl:=kdu bg Cq;have Gq:=hD oA;clear bp cq oA pm eZ z6;go_wp2_with fail;go_roundg jN
           case measure=>omega
           case rel=>exact ⟨k+1,m|||aC,by go_num,rfl,oM,oM,jl,Gq,rfl⟩
          .rw[ua0 pm] at oA;have ni:(((x:Int) / 2^k).tmod 2==1)=J:=(by rw[kf4];exact ua5 pm);have Gq:=hD oA;clear bp cq oA pm eZ z6;go_wp2_with fail;go_roundg jN
           case measure=>omega
           case rel=>exact ⟨k+1,m,by go_num,rfl,oM,oM,bg,Gq,rfl⟩
         .obtain rfl:k=S.length:=oM;have oA:=z6.o;rw[ug8 (by rw[rW.o];exact nR)] at oA;have Lm:m=Rg.mbP x 0 sk st:=oA;have h8:=Ll.o;rw[←Lm] at h8;obtain ⟨Gs,Gt⟩:=xE (Rg.mbD i9 l m);rw[←Gt] at h8;have Ln:=hD h8;have Lo:Hz (Rg.mbD (i9.drop 0) l m=Gs):=hD (by rw[ul4];exact Gt.symm);clear oA Lm h8 Gt Ll z6 fo aw bG;go_wp2_with fail;go_loopg [13,18] (i9.length+1) (fun f vN vO jK=>∃(k:Nat) (l':List Nat) (c6:Option ae) (mD:Nat),vO=I U k∧vN=D c6 l'.length mD∧k≤i9.length∧i9.length<k+f∧l'.length≤256+k∧Hz (Rg.mbD (i9.drop k) l' m=Gs)∧Hz (∀ aC∈l',aC<2^64)∧Hz (jK.ownsRow lB 100 1 (D c6 l'.length mD) l'.length (nuC l'))∧Hz (H lB gx jK))
          case atStart=>exact ⟨0,l,_,_,rfl,rfl,oM,oM,oM,Lo,k8,c1,aV⟩
          case round=>
           clear Lo k8 c1 aV pX dj eD eS cU bE c2 i1 f6 ov eI;obtain ⟨k,et,ve,Gu,rfl,rfl,aw,fo,m8,jZ,k8,c1,aV⟩:=hrel;obtain ⟨mP,rfl⟩:∃ f,gk=f+1:=⟨gk-1,oM⟩;have pX:lB≤wr.heap.size:=(by rw[bo.o];exact aV.o.size);by_cases bG:k<i9.length
           .obtain ⟨cn,aA⟩:=xG i9 bG;obtain ⟨cx,dp,rfl, -,eZ,cq⟩:=z2.o.2 oM;have bu:wr.cell? ⟨cx,dp+k,Z⟩=N (I Y cn):=(aV.o.cell (p:=⟨cx,dp+k,Z⟩) (show cx<lB by rw[bo.o];exact eZ)).trans (cq k _ (kfV aA));have ov:cn<18446744073709551616:=Lh.o cn (ua4 aA);have Gn:=u64_and_nat m cn bg ov;have fl:=jZ.o;rw[ksp aA] at fl;have dL:=ksh cn bg;obtain ⟨z,bd⟩:=xE (m&&& cn);rw[←bd] at Gn fl dL;have qI:=hD (kku lB et ve Gu z wr dL oM pX c1.o k8.o);have tV:=hD (kk1 k8.o dL);have qH:=kk2 et z;obtain ⟨l',g2⟩:=xE (Rg.addN et z);rw[←g2] at qI fl tV qH;have vA:=hD fl;have i7:=hD (fun (i:Nat) (e:(D ve et.length Gu).ownBlock=N i)=>(kbM c1.o e).1);have cU:(k:Int)<(i9.length:Int):=oM;have bE:=nN k;clear aA cq fl bd g2 eZ jZ;go_wp2_with fail;refine qI.o.mono ?_;rintro cG dl ⟨e4,bI,rfl,fm,fV, -⟩;have rp:=hD fm;have f2:=hD (aV.o.grown fV pX (fun j e=>i7.o j e));clear fm fV c1 aV qI i7 k8 bu;go_wp2_with fail;go_roundg mP
            case measure=>omega
            case rel=>exact ⟨k+1,l',e4,bI,by go_num,rfl,oM,oM,oM,vA,tV,rp,f2⟩
           .obtain rfl:k=i9.length:=oM;have fl:=jZ.o;rw[ug8 (nR)] at fl;have FJ:et=Gs:=fl;have Lp:=Ln;rw[←FJ] at Lp;clear fl FJ jZ Ln;go_wp2_with fail;go_roundg f
            case measure=>omega
            case rel=>exact ⟨i+1,f9,et,ve,Gu,by go_num,rfl,oM,oM,oM,oM,Lp,k8,c1,aV⟩
       .have h8:=oU.o;rw[Rg.mbM,ua0 (fun h=>f6 h.2)] at h8;have tW:=qh.o;rw[←h8,show min (l.length+1) 257=257 by omega] at tW;have Gv:=hD tW;have z7:=hD (Gl.o.trans (aV.o.mono Li));have cU:(i:Int)<(l.length:Int):=oM;have c2:¬(l.length:Int)≤256:=oM;have Gw:=hD (show min ((l.length:Int)+1) 257=((257:Nat):Int) by omega);clear h8 tW oU qh;go_wp2_with fail;go_ret;exact ⟨by rw[Gv.o,←Gw.o];rfl,z7.o⟩
      .have h8:=oU.o;rw[Rg.mbM,ua0 (fun h=>i1 h.1)] at h8;have tW:=qh.o;rw[←h8] at tW;obtain ⟨M,h3⟩:=xE (min (l.length+1) 257);rw[←h3] at tW;have Gw:=hD (show min ((l.length:Int)+1) 257=(M:Int) by rw[h3];omega);have Gv:=hD tW;have z7:=hD (Gl.o.trans (aV.o.mono Li));have cU:¬(i:Int)<(l.length:Int):=oM;clear h8 tW oU qh h3;go_wp2_with fail;go_ret;exact ⟨by rw[Gv.o,←Gw.o];rfl,z7.o⟩
end Go.Proofs.YtamhdmkolfmmdaaGreatDoor
