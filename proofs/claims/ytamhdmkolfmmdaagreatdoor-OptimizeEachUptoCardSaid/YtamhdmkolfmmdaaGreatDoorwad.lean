/- Part ad of the proof. -/
import Derived.Test.YtamhdmkolfmmdaaGreatDoorwaa
set_option linter.all false
set_option maxHeartbeats 16000000
set_option maxRecDepth 100000
open Go.Proofs.Tryz
open Go.Value renaming int→I,slice→D,bool→V,string→Q,pointer→ab,agg→aa,tuple→ag,nilIface→aj
open Go.IntKind renaming i64→U,u64→Y,u8→ai
open Go.Obj renaming cells→y
open Go.Ending renaming returned→ac
open Option renaming none→Z,some→N
open Bool renaming true→K,false→J
open Go renaming World→O,Value→C,Calls→L,TypeId→ah,Addr→ae
open Go.RowKit renaming Below→H
namespace Go.Proofs.YtamhdmkolfmmdaaGreatDoor
open Go
variable {P:Prop}
section
variable {P:Program} {cD:Array Oper} {cY:Exit→Act→O→Prop} {ez:Region.Mode} {S:O→Prop}
def kbZ (P:Program) (ez:Region.Mode) (cD:Array Oper) (cY:Exit→Act→O→Prop) (S:O→Prop) (z:Nat):Nat→Array Bool→Act→O→Prop
 |0,ee,a,w=>Region.ready ez cD ee=[]∧cY .normal a w
 | fuel + 1, ee, a, w =>
  (Region.ready ez cD ee = [] → cY .normal a w) ∧
  ∀ i ∈ Region.ready ez cD ee, wpOp P cD cY i (fun ib w' => (i ≠ z → S w') ∧ kbZ P ez cD cY S z fuel (ee.setIfInBounds i K) ib w') a w
theorem knK {z:Nat} :∀(fuel:Nat) (ee:Array Bool) (a:Act) (w:O),kbZ P ez cD cY S z fuel ee a w→wpAny P ez cD cY fuel ee a w
 |0,_,_,_,h=>h
 |fuel+1,_,_,_,h=>⟨h.1,fun i hi=>wpOp_mono (fun ib w' fg=>knK fuel _ ib w' fg.2) (h.2 i hi)⟩
def keL (ez:Region.Mode) (cD:Array Oper) (z i:Nat):Bool:=match cD[z]? with
 |some uW=>uW.after.any fun e=>Region.binds ez e&&e.on==i
 |none=>false
theorem kuf {z i:Nat} (h:keL ez cD z i=K):∃ uW,cD[z]? =N uW∧∃ e∈uW.after,Region.binds ez e=K∧e.on=i:=by
 unfold keL at h;split at h
 .rename_i uW bd;obtain ⟨e,aG,ak⟩:=Array.any_eq_true'.1 h;simp only[uj0,ut1] at ak;exact ⟨uW,bd,e,aG,ak.1,ak.2⟩
 .cases h
theorem ksG {i z:Nat} {hc:Oper} {v:C} (hi:cD[i]? =N hc) (bd:keL ez cD z i=K) (Na:∀(j:Nat) (o:Oper) cs b,cD[j]? =N o→o.op≠ .select cs b)
 (iD:∀ c a w,cY (.panic c) (a.put hc.dst v) w→cY (.panic c) a w):
 ∀(fuel:Nat) (ee:Array Bool) (a:Act) (w:O),
 (∀ j uV,cD[j]? =N uV→j≠i→ee.getD j K=J→(∀ e∈uV.after,Region.binds ez e=K→e.on≠i)→hc.apart cD uV=K)→
 i∈Region.ready ez cD ee→YieldsIf P cD S hc v a→S w→
 kbZ P ez cD cY S z fuel (ee.setIfInBounds i K) (a.put hc.dst v) w→kbZ P ez cD cY S z (fuel+1) ee a w:=by
 intro fuel
 induction fuel with
 |zero=>
  intro ee a w _ am bp dO eR;refine ⟨fun h=>(by rw[h] at am;cases am),fun j aS=>?_⟩;by_cases b9:j=i
  .subst b9;exact bp.wpOp hi dO ⟨fun _=>dO,eR⟩
  .have:=ready_mono aS b9;rw[eR.1] at this;cases this
 |succ fuel bQ=>
  intro ee a w MF am bp dO eR;refine ⟨fun h=>(by rw[h] at am;cases am),fun j aS=>?_⟩;by_cases b9:j=i
  .subst b9;exact bp.wpOp hi dO ⟨fun _=>dO,eR⟩
  .have af:=eR.2 j (ready_mono aS b9);obtain ⟨Jd,uV,BN,rR⟩:=mem_ready.1 aS
   have Je:∀ e∈uV.after,Region.binds ez e=K→e.on≠i:=fun e aG ak q4=>by
    have af:=rR e aG ak;have aD:=(mem_ready.1 am).1;rw[q4] at af;rcases ug1 i ee.size with fg|fg
    .simp[fg] at aD af;rw[aD] at af;cases af
    .simp[um4 fg] at af
   have y1:j≠z:=fun e=>by subst e;obtain ⟨uW,ao,e,aG,ak,q4⟩:=kuf bd;rw[BN] at ao;injection ao with ao;subst ao;exact Je e aG ak q4
   have ao:=wpOp_putIf BN (MF j uV BN b9 Jd Je) (fun cs b=>Na i hc cs b hi) (fun cs b=>Na j uV cs b BN) iD bp (wpOp_mono (fun ib w' h=>(⟨h.1 y1,h⟩:S w'∧_)) af)
   have hfree' : ∀ k ok, cD[k]? = N ok → k ≠ i → (ee.setIfInBounds j K).getD k K = J →
     (∀ e ∈ ok.after, Region.binds ez e = K → e.on ≠ i) → hc.apart cD ok = K := fun k ok aw X2 MW dY => by
    refine MF k ok aw X2 ?_ dY
    by_cases iS : j = k
    ·
     subst iS; exact Jd
    ·
     rw [getD_set_ne K iS] at MW; exact MW
   refine wpOp_mono (fun ib w' av=>⟨fun _=>av.2.1,bQ (ee.setIfInBounds j K) ib w' hfree' (ready_mono am (Ne.symm b9)) av.1 av.2.1 ?_⟩) ao;rw[Array.setIfInBounds_comm _ _ b9];exact av.2.2.2
theorem knL {i z:Nat} {hc:Oper} {v:C} {fuel:Nat} {ee:Array Bool} {a:Act} {w:O} (hi:cD[i]? =N hc) (bd:keL ez cD z i=K)
  (al : Region.noSelect cD = K) (b5 : Region.free ez cD ee i = K) (am : (Region.ready ez cD ee).contains i = K)
  (iD : ∀ c a w, cY (.panic c) (a.put hc.dst v) w → cY (.panic c) a w) (bp : YieldsIf P cD S hc v a) (dO : S w)
  (h : kbZ P ez cD cY S z fuel (ee.setIfInBounds i K) (a.put hc.dst v) w) : kbZ P ez cD cY S z (fuel + 1) ee a w :=
 ksG hi bd (Region.noSelect_spec al) iD fuel ee a w (Region.free_spec hi b5) (by simpa using am) bp dO h
theorem ksF {i z:Nat} {o:Oper} {fuel:Nat} {ee:Array Bool} {a:Act} {w:O} (am:Region.ready ez cD ee=[i]) (bf:cD[i]? =N o)
  (h : ∀ hH : Act → O → Prop, Shut (∀ a w, (i ≠ z → S w) → kbZ P ez cD cY S z fuel (ee.setIfInBounds i K) a w → hH a w) → if Region.wanted o (yielded cD a.tmps) = K then Oper.wp P o a w hH cY else hH (a.put o.dst undef) w) : kbZ P ez cD cY S z (fuel + 1) ee a w :=
 by
 refine ⟨fun aD => (by rw [am] at aD; cases aD), fun j aS => ?_⟩
 rw [am] at aS
 have : j = i := by simpa using aS
 subst this
 exact wpOp_step bf (fun hH aJ => h hH (fun a w dO dH => aJ a w ⟨dO, dH⟩))
theorem kiN {z:Nat} {ee:Array Bool} {a:Act} {w:O} (am:Region.ready ez cD ee=[]) (h:cY .normal a w):∀ fuel,kbZ P ez cD cY S z fuel ee a w
 |0=>⟨am,h⟩
 |_+1=>⟨fun _=>h,by rw[am];simp⟩
theorem kd6 {id z:Nat} {a:Act} {w:O} (bg:P.follows .mixedOrders=K) (dO:S w.drew)
  (h : S w.drew → kbZ P .any cD cY S z cD.size (Array.replicate cD.size J) a w.drew) : (Code.region id cD K).wp P cY a w :=
 wp_region_any bg (knK _ _ _ _ (h dO))
theorem ksI {i:Nat} {o:Oper} {fuel:Nat} {ee:Array Bool} {a:Act} {w:O} (am:Region.ready ez cD ee=[i]) (bf:cD[i]? =N o)
  (h : ∀ hH : Act → O → Prop, Shut (∀ a w, S w → wpAnyH P ez cD cY S fuel (ee.setIfInBounds i K) a w → hH a w) → if Region.wanted o (yielded cD a.tmps) = K then Oper.wp P o a w hH cY else hH (a.put o.dst undef) w) : wpAnyH P ez cD cY S (fuel + 1) ee a w :=
 wpAnyH_ready am (by simp) (uu3 bf (fun hH aJ => h hH (fun a w dO dH => aJ a w dO (fun _ => dH))) AllReadyH.nil)
theorem tkO (i:Nat) {o:Oper} {fuel:Nat} {ee:Array Bool} {a:Act} {w:O}
 (h:∀ hH:Act→O→Prop,Shut (∀ a w,S w→wpAnyH P ez cD cY S fuel (ee.setIfInBounds i K) a w→hH a w)→if Region.wanted o (yielded cD a.tmps)=K then Oper.wp P o a w hH cY else hH (a.put o.dst undef) w)
 (am:Region.ready ez cD ee=[i]:=by kernel_rfl) (bf:cD[i]? =N o:=by rfl):wpAnyH P ez cD cY S (fuel+1) ee a w:=ksI am bf h
theorem tkP (i:Nat) {z:Nat} {o:Oper} {fuel:Nat} {ee:Array Bool} {a:Act} {w:O}
 (h:∀ hH:Act→O→Prop,Shut (∀ a w,(i≠z→S w)→kbZ P ez cD cY S z fuel (ee.setIfInBounds i K) a w→hH a w)→if Region.wanted o (yielded cD a.tmps)=K then Oper.wp P o a w hH cY else hH (a.put o.dst undef) w)
 (am:Region.ready ez cD ee=[i]:=by kernel_rfl) (bf:cD[i]? =N o:=by rfl):kbZ P ez cD cY S z (fuel+1) ee a w:=ksF am bf h
theorem tkZ (i:Nat) {z:Nat} {hc:Oper} {v:C} {fuel:Nat} {ee l':Array Bool} {a ib:Act} {w:O} (dO:S w)
  (h : kbZ P ez cD cY S z fuel l' ib w)
  (hi : cD[i]? = N hc := by rfl) (bd : keL ez cD z i = K := by kernel_rfl) (al : Region.noSelect cD = K := by kernel_rfl) (b5 : Region.free ez cD ee i = K := by kernel_rfl) (am : (Region.ready ez cD ee).contains i = K := by kernel_rfl)
  (iD : ∀ c a w, cY (.panic c) (a.put hc.dst v) w → cY (.panic c) a w := by exact fun _ _ _ h => h) (hg : Region.wanted hc (yielded cD a.tmps) = K := by kernel_rfl)
  (bp : ∀ w', S w' → (execOp a.eval hc).run P w' = .ok (.value v) w' := by
   intro w' Hs
   (try dsimp only at Hs)
   go_simp <;> with_reducible rfl)
  (aE : a.put hc.dst v = ib := by
   (try simp only [Act.put, ub4, ua8, ua9, gE, gF, gG])
   exact rfl)
  (az : ee.setIfInBounds i K = l' := by
   (try simp only [gE, gF, gG])
   exact rfl) : kbZ P ez cD cY S z (fuel + 1) ee a w :=
 knL hi bd al b5 am iD (Or.inl ⟨hg, bp⟩) dO (by rw [aE, az]; exact h)
theorem tsZ (i:Nat) {z:Nat} {hc:Oper} {fuel:Nat} {ee l':Array Bool} {a ib:Act} {w:O} (dO:S w)
  (h : kbZ P ez cD cY S z fuel l' ib w)
  (hi : cD[i]? = N hc := by rfl) (bd : keL ez cD z i = K := by kernel_rfl) (al : Region.noSelect cD = K := by kernel_rfl) (b5 : Region.free ez cD ee i = K := by kernel_rfl) (am : (Region.ready ez cD ee).contains i = K := by kernel_rfl)
  (iD : ∀ c a w, cY (.panic c) (a.put hc.dst undef) w → cY (.panic c) a w := by exact fun _ _ _ h => h) (hg : Region.wanted hc (yielded cD a.tmps) = J := by kernel_rfl)
  (aE : a.put hc.dst undef = ib := by
   (try simp only [Act.put, ub4, ua8, ua9, gE, gF, gG])
   exact rfl)
  (az : ee.setIfInBounds i K = l' := by
   (try simp only [gE, gF, gG])
   exact rfl) : kbZ P ez cD cY S z (fuel + 1) ee a w :=
 knL hi bd al b5 am iD (Or.inr ⟨hg, rfl⟩) dO (by rw [aE, az]; exact h)
end
end Go.Proofs.YtamhdmkolfmmdaaGreatDoor
namespace Go.Proofs.YtamhdmkolfmmdaaGreatDoor
variable {P:Prop}
def khV (h:P:=by exact ⟨nR,by dsimp only;omega,fun h=>by cases h⟩):=h
namespace Gr
def nx (T:List UInt8) (k:Nat):UInt8:=match T[k]? with
 |some b=>b
 |none=>0
def mas (T:List UInt8):Nat→Nat→Nat→Nat×Nat
 |0,k,n=>(n,k)
 | f + 1, k, n => match T[k]? with
  | none => (n, k)
  | some b => if 48 ≤ b ∧ b ≤ 57 then mas T f (k + 1) (min (10 * n + (b.toNat - 48)) 1000) else (n, k)
def num (T:List UInt8) (k:Nat) (b:Bool):Nat×Nat×Bool:=
 ((mas T (T.length + 1) k 0).1, (mas T (T.length + 1) k 0).2,
  (b || decide ((mas T (T.length + 1) k 0).2 = k)) || (decide (k + 1 < (mas T (T.length + 1) k 0).2) && T[k]? == N 48) || decide (64 < (mas T (T.length + 1) k 0).1))
def bnd (T:List UInt8) (k:Nat):Nat×Int×Nat×Bool:=
 if nx T (num T k J).2.1 = 44 then
  (if nx T ((num T k J).2.1 + 1) = 125 then ((num T k J).1, -1, (num T k J).2.1 + 2, (num T k J).2.2)
   else ((num T k J).1, (num T ((num T k J).2.1 + 1) (num T k J).2.2).1, (num T ((num T k J).2.1 + 1) (num T k J).2.2).2.1 + 1,
   ((num T ((num T k J).2.1 + 1) (num T k J).2.2).2.2 || decide ((num T ((num T k J).2.1 + 1) (num T k J).2.2).1 < (num T k J).1)) || (nx T (num T ((num T k J).2.1 + 1) (num T k J).2.2).2.1 != 125)))
 else ((num T k J).1,(num T k J).1,(num T k J).2.1+1,(num T k J).2.2||(nx T (num T k J).2.1 != 125))
def mbN:Rx:= .node 0 0 0 0 0 0 0 []
def cls (T:List UInt8) (k:Nat):Rx×Nat×Bool:=
 let mO:=if T[k+1]? =N 94 then k+2 else k+1
 match ka7 T (T.length+1) mO with
 |none=>(mbN,k,true)
 | some e => match lsP (e - 1 - mO + 1) ((T.drop mO).take (e - 1 - mO)) kad with
  | none => (Rx.set (if T[k + 1]? = some 94 then kah kad else kad), e, true)
  | some S => (Rx.set (if T[k + 1]? = some 94 then kah S else S), e, false)
def trm (T:List UInt8) (E:Nat→Rx×Nat×Bool) (k:Nat):Rx×Nat×Bool:=match T[k]? with
 |none=>(Rx.one 0,k+1,false)
 | some b =>
  if b = 46 then (Rx.set ka2, k + 1, J)
  else if b = 40 then ((E (k + 1)).1, (E (k + 1)).2.1 + 1, (E (k + 1)).2.2 || (nx T (E (k + 1)).2.1 != 41))
  else if b = 91 then cls T k
  else if b = 92 then match kaU (T.drop k) with
   | none => (mbN, k, true)
   | some (x, u) => (Rx.one x, k + u, false)
  else if specials.contains b then (mbN, k, K)
  else (Rx.one b, k + 1, J)
def ma1 (T:List UInt8):Nat→Rx→Nat→Bool→Rx×Nat×Bool
 |0,r,k,b=>(r,k,b)
 | f + 1, r, k, b =>
  if b then (r, k, b)
  else if nx T k = 42 then ma1 T f (Rx.rep 0 (-1) r) (k + 1) J
  else if nx T k = 43 then ma1 T f (Rx.rep 1 (-1) r) (k + 1) J
  else if nx T k = 63 then ma1 T f (Rx.rep 0 1 r) (k + 1) J
  else if nx T k = 123 then ma1 T f (Rx.rep (bnd T (k + 1)).1 (bnd T (k + 1)).2.1 r) (bnd T (k + 1)).2.2.1 (bnd T (k + 1)).2.2.2
  else (r, k, J)
def cnt (T:List UInt8) (E:Nat→Rx×Nat×Bool) (k:Nat):Rx×Nat×Bool:=ma1 T (T.length+2) (trm T E k).1 (trm T E k).2.1 (trm T E k).2.2
def mbf (T:List UInt8) (E:Nat→Rx×Nat×Bool):Nat→List Rx→Nat→Bool→List Rx×Nat×Bool
 |0,l,k,b=>(l,k,b)
 |f+1,l,k,b=>if kbu T k||b then (l,k,b) else mbf T E f (l++[(cnt T E k).1]) (cnt T E k).2.1 (cnt T E k).2.2
def sqn (T:List UInt8) (E:Nat→Rx×Nat×Bool) (k:Nat):Rx×Nat×Bool:=
 (Rx.seq (mbf T E (T.length+2) [] k J).1,(mbf T E (T.length+2) [] k J).2.1,(mbf T E (T.length+2) [] k J).2.2)
def mbh (T:List UInt8) (E:Nat→Rx×Nat×Bool):Nat→List Rx→Nat→Bool→List Rx×Nat×Bool
 |0,l,k,b=>(l,k,b)
 |f+1,l,k,b=>if T[k]? =N 124∧b=J then mbh T E f (l++[(sqn T E (k+1)).1]) (sqn T E (k+1)).2.1 (sqn T E (k+1)).2.2 else (l,k,b)
def alt (T:List UInt8) (E:Nat→Rx×Nat×Bool) (k:Nat):Rx×Nat×Bool:=
 (Rx.alt (mbh T E (T.length+2) [(sqn T E k).1] (sqn T E k).2.1 (sqn T E k).2.2).1,(mbh T E (T.length+2) [(sqn T E k).1] (sqn T E k).2.1 (sqn T E k).2.2).2.1,(mbh T E (T.length+2) [(sqn T E k).1] (sqn T E k).2.1 (sqn T E k).2.2).2.2)
def exN (T:List UInt8):Nat→Nat→Rx×Nat×Bool
 |0,k=>(mbN,k,K)
 |n+1,k=>alt T (exN T n) k
end Gr
section
variable {T:List UInt8}
theorem kqQ:∀(f k n:Nat),n≤1000→k≤(Gr.mas T f k n).2∧(Gr.mas T f k n).2≤max k T.length∧(Gr.mas T f k n).1≤1000
 |0,k,n,h=>by rw[Gr.mas];omega
 |f+1,k,n,h=>by
  rw[Gr.mas];split
  .omega
  .rename_i b ak;have:=kaj ak;split
   .have:=kqQ f (k+1) (min (10*n+(b.toNat-48)) 1000) oM;omega
   .omega
theorem keZ (k:Nat) (b:Bool):k≤(Gr.num T k b).2.1∧(Gr.num T k b).2.1≤max k T.length∧(Gr.num T k b).1≤1000:=kqQ _ _ _ oM
theorem kda {k:Nat} (h:Gr.nx T k≠0):k<T.length:=by
 unfold Gr.nx at h;split at h
 .rename_i b ak;exact kaj ak
 .exact absurd rfl h
theorem kcd {k:Nat} {b:UInt8} (h:T[k]? =N b):Gr.nx T k=b:=by unfold Gr.nx;rw[h]
theorem kyV {k:Nat} {b:UInt8} (h:Gr.nx T k=b) (ak:b≠0):T[k]? =N b:=by
 unfold Gr.nx at h;split at h
 .rename_i c an;rw[an,h]
 .exact absurd h.symm ak
theorem kkm {k:Nat} (aw:k≤T.length):k<(Gr.bnd T k).2.2.1∧(Gr.bnd T k).2.2.1≤T.length+2∧(Gr.bnd T k).1≤1000∧ -1≤(Gr.bnd T k).2.1∧(Gr.bnd T k).2.1≤1000:=by
 have af:=keZ (T:=T) k J;have ao:=keZ (T:=T) ((Gr.num T k J).2.1+1) (Gr.num T k J).2.2;unfold Gr.bnd;split
 .rename_i an;have:=kda (T:=T) (k:=(Gr.num T k J).2.1) (by rw[an];decide);split
  .refine ⟨?_,?_,?_,?_,?_⟩ <;> dsimp only <;> omega
  .refine ⟨?_,?_,?_,?_,?_⟩ <;> dsimp only <;> omega
 .refine ⟨?_,?_,?_,?_,?_⟩ <;> dsimp only <;> omega
theorem khn {t:List UInt8} {x:UInt8} {u:Nat} (h:kaU t=N (x,u)):1≤u∧u≤t.length:=by
 unfold kaU at h;split at h
 .cases h
 .rename_i b t;split at h
  .cases h
  split at h
  .injection h with h;injection h with af ao;rw[uc8];omega
  .split at h
   .cases h
   .rename_i aC k aL;injection h with h;injection h with af ao;have:=khr aL;rw[uc8];omega
theorem ky0 {k:Nat} (aw:k<T.length):k≤(Gr.cls T k).2.1∧(Gr.cls T k).2.1≤T.length∧((Gr.cls T k).2.2=J→k<(Gr.cls T k).2.1):=by
 unfold Gr.cls;dsimp only;split
 .exact khV
 .rename_i e aG;have aO:=khs _ _ _ aG;have b5:k<(if T[k+1]? =N 94 then k+2 else k+1):=(by split <;> omega);split <;> (refine ⟨?_,?_,fun _=>?_⟩ <;> dsimp only <;> omega)
def Gr.Ok (T:List UInt8) (d:Nat) (E:Nat→Rx×Nat×Bool):Prop:=∀ k,k≤T.length→k≤(E k).2.1∧(E k).2.1≤T.length+d∧((E k).2.2=J→(E k).2.1≤T.length)
variable {E:Nat→Rx×Nat×Bool} {d:Nat}
theorem kki (hd:2≤d) (ce:Gr.Ok T d E) {k:Nat} (aw:k<T.length):k≤(Gr.trm T E k).2.1∧(Gr.trm T E k).2.1≤T.length+d+1∧((Gr.trm T E k).2.2=J→k<(Gr.trm T E k).2.1∧(Gr.trm T E k).2.1≤T.length):=by
 unfold Gr.trm;split
 .rename_i ax;have:=uc6.1 ax;omega
 .rename_i b ak;split
  .refine ⟨?_,?_,fun _=>?_⟩ <;> dsimp only <;> omega
  split
  .have:=ce (k+1) oM;refine ⟨?_,?_,fun h=>?_⟩
   .dsimp only;omega
   .dsimp only;omega
   .dsimp only at h ⊢;rw[ul7] at h;have ao:Gr.nx T (E (k+1)).2.1=41:=(by simpa using h.2);have:=kda (T:=T) (k:=(E (k+1)).2.1) (by rw[ao];decide);omega
  split
  .have:=ky0 aw;exact ⟨this.1,oM,fun h=>⟨this.2.2 h,this.2.1⟩⟩
  split
  .split
   .exact khV
   .rename_i x u aL;have:=khn aL;rw[ud9] at this;refine ⟨?_,?_,fun _=>?_⟩ <;> dsimp only <;> omega
  split
  .exact khV
  .refine ⟨?_,?_,fun _=>?_⟩ <;> dsimp only <;> omega
theorem kkl {k:Nat} (aw:k≤T.length) (h:(Gr.bnd T k).2.2.2=J):(Gr.bnd T k).2.2.1≤T.length:=by
 have af:=keZ (T:=T) k J;unfold Gr.bnd at h ⊢;split at h
 .rename_i an;rw[ua1 an];split at h
  .rename_i ao;rw[ua1 ao];have:=kda (T:=T) (k:=(Gr.num T k J).2.1+1) (by rw[ao];decide);dsimp only;omega
  .rename_i ao;rw[ua0 ao];dsimp only at h ⊢;rw[ul7] at h;have av:Gr.nx T (Gr.num T ((Gr.num T k J).2.1+1) (Gr.num T k J).2.2).2.1=125:=(by simpa using h.2);exact kda (T:=T) (by rw[av];decide)
 .rename_i an;rw[ua0 an];dsimp only at h ⊢;rw[ul7] at h;have av:Gr.nx T (Gr.num T k J).2.1=125:=(by simpa using h.2);exact kda (T:=T) (by rw[av];decide)
theorem kkk {M:Nat} (h3:T.length+2≤M):∀(f:Nat) (r:Rx) (k:Nat) (b:Bool),(b=J→k≤T.length)→k≤M→k≤(Gr.ma1 T f r k b).2.1∧(Gr.ma1 T f r k b).2.1≤M∧((Gr.ma1 T f r k b).2.2=J→b=J∧(Gr.ma1 T f r k b).2.1≤T.length)
 |0,r,k,b,h,aw=>⟨nR,aw,fun e=>⟨e,h e⟩⟩
 |f+1,r,k,b,h,aw=>by
  rw[Gr.ma1];split
  .exact ⟨nR,aw,fun e=>⟨e,h e⟩⟩
  rename_i ak;have ak:b=J:=(by simpa using ak);have aw:=h ak;have go:Gr.nx T k≠0→∀ hb,k≤(Gr.ma1 T f hb (k+1) J).2.1∧(Gr.ma1 T f hb (k+1) J).2.1≤M∧((Gr.ma1 T f hb (k+1) J).2.2=J→b=J∧(Gr.ma1 T f hb (k+1) J).2.1≤T.length):=fun aA hb=>by have:=kda aA;have:=kkk h3 f hb (k+1) J (fun _=>by omega) oM;exact ⟨oM,this.2.1,fun e=>⟨ak,(this.2.2 e).2⟩⟩
  split
  .rename_i an;exact go (by rw[an];decide) _
  split
  .rename_i an;exact go (by rw[an];decide) _
  split
  .rename_i an;exact go (by rw[an];decide) _
  split
  .rename_i an;have az:=kda (T:=T) (k:=k) (by rw[an];decide);have af:=kkm (T:=T) (k:=k+1) oM;have:=kkk h3 f (Rx.rep (Gr.bnd T (k+1)).1 (Gr.bnd T (k+1)).2.1 r) _ _ (fun e=>kkl oM e) (show (Gr.bnd T (k+1)).2.2.1≤M by omega);exact ⟨oM,this.2.1,fun e=>⟨ak,(this.2.2 e).2⟩⟩
  .exact ⟨nR,oM,fun _=>⟨ak,aw⟩⟩
theorem kkj (hd:2≤d) (ce:Gr.Ok T d E) {k:Nat} (aw:k<T.length):k≤(Gr.cnt T E k).2.1∧(Gr.cnt T E k).2.1≤T.length+d+1∧((Gr.cnt T E k).2.2=J→k<(Gr.cnt T E k).2.1∧(Gr.cnt T E k).2.1≤T.length):=by have af:=kki hd ce aw;have ao:=kkk (T:=T) (M:=T.length+d+1) oM (T.length+2) (Gr.trm T E k).1 (Gr.trm T E k).2.1 (Gr.trm T E k).2.2 (fun e=>(af.2.2 e).2) af.2.1;exact ⟨uc9 af.1 ao.1,ao.2.1,fun e=>⟨ua7 (af.2.2 (ao.2.2 e).1).1 ao.1,(ao.2.2 e).2⟩⟩
theorem kqK (hd:2≤d) (ce:Gr.Ok T d E):∀(f:Nat) (l:List Rx) (k:Nat) (b:Bool),(b=J→k≤T.length)→k≤T.length+d+1→k≤(Gr.mbf T E f l k b).2.1∧(Gr.mbf T E f l k b).2.1≤T.length+d+1∧((Gr.mbf T E f l k b).2.2=J→(Gr.mbf T E f l k b).2.1≤T.length)
 |0,l,k,b,h,aw=>⟨nR,aw,h⟩
 |f+1,l,k,b,h,aw=>by
  rw[Gr.mbf];split
  .exact ⟨nR,aw,h⟩
  rename_i an;rw[ur4,ul6] at an;have bG:k<T.length:=(by have:=an.1;unfold kbu at this;simp only[ur4,ul6,ue8] at this;omega);have af:=kkj hd ce bG;have:=kqK hd ce f (l++[(Gr.cnt T E k).1]) (Gr.cnt T E k).2.1 (Gr.cnt T E k).2.2 (fun e=>(af.2.2 e).2) af.2.1;exact ⟨uc9 af.1 this.1,this.2⟩
theorem keY (hd:2≤d) (ce:Gr.Ok T d E) {k:Nat} (aw:k≤T.length):k≤(Gr.sqn T E k).2.1∧(Gr.sqn T E k).2.1≤T.length+d+1∧((Gr.sqn T E k).2.2=J→(Gr.sqn T E k).2.1≤T.length):=
 kqK hd ce _ _ _ _ (fun _=>aw) oM
theorem kqY (hd:2≤d) (ce:Gr.Ok T d E):∀(f:Nat) (l:List Rx) (k:Nat) (b:Bool),(b=J→k≤T.length)→k≤T.length+d+1→k≤(Gr.mbh T E f l k b).2.1∧(Gr.mbh T E f l k b).2.1≤T.length+d+1∧((Gr.mbh T E f l k b).2.2=J→(Gr.mbh T E f l k b).2.1≤T.length)
 |0,l,k,b,h,aw=>⟨nR,aw,h⟩
 |f+1,l,k,b,h,aw=>by
  rw[Gr.mbh];split
  .rename_i an;have:=kaj an.1;have af:=keY hd ce (k:=k+1) oM;have:=kqY hd ce f (l++[(Gr.sqn T E (k+1)).1]) (Gr.sqn T E (k+1)).2.1 (Gr.sqn T E (k+1)).2.2 af.2.2 af.2.1;exact ⟨oM,this.2⟩
  .exact ⟨nR,aw,h⟩
theorem ky4 (hd:2≤d) (ce:Gr.Ok T d E):Gr.Ok T (d+1) (Gr.alt T E):=fun k aw=>by have af:=keY hd ce aw;have:=kqY hd ce (T.length+2) [(Gr.sqn T E k).1] (Gr.sqn T E k).2.1 (Gr.sqn T E k).2.2 af.2.2 af.2.1;exact ⟨uc9 af.1 this.1,this.2⟩
theorem kf5:∀ n:Nat,Gr.Ok T (n+2) (Gr.exN T n)
 |0,k,aw=>⟨nR,by show k≤_;omega,fun h=>by cases h⟩
 |n+1,k,aw=>ky4 oM (kf5 n) k aw
end
end Go.Proofs.YtamhdmkolfmmdaaGreatDoor
namespace Go.Proofs.YtamhdmkolfmmdaaGreatDoor
open Go.RowKit
variable {P:Prop}
def kzn (b:UInt8) (w:O):L prog 247 #[I .u8 b.toNat] w fun e w'=>e=ac (I U (kaN b))∧w=w':=by exact kmp
def ky6 (b:UInt8) (w:O):L prog 248 #[I .u8 b.toNat] w fun e w'=>e=ac (V (kcj b))∧w=w':=by have PW:=();exact kim
def kiv (h:P:=by
 cases dt with
 |true=>have r4:=hD (show fG=(n,k,K) by rw[pF];rfl);clear pF;go_wp2_with fail;go_ret;exact b4.o _ r4.o
 |false=>
 by_cases aD:k=k0
 .exact ksC
 .exact ksB):=h
def ksB (h:P:=by
 have bb:((k:Int)==(k0:Int))=J:=(by simp;omega);obtain ⟨d,hd⟩:∃ d,T[k0]? =N d:=⟨T[k0]'(md (fun e=>aD e.symm)),ua3 _⟩;have g4:=kaX (P:=prog) underlying9 hd;have gp:=kaj hd;by_cases fZ:k0+1<k
 .have db:decide ((k0:Int)+1<(k:Int))=K:=(by simp;omega);by_cases p5:d=48
  .have t3:((d.toNat:Int)==48)=K:=(by rw[p5];rfl);have r4:=hD (show fG=(n,k,K) by rw[pF,ua5 aD,ub3 fZ,hd,p5];rfl);clear pF hd p5;go_wp2_with fail;go_ret;exact b4.o _ r4.o
  .have t3:((d.toNat:Int)==48)=J:=kba (c:=48) p5;have r4:=hD (show fG=(n,k,decide ((64:Int)<(n:Int))) by rw[show decide ((64:Int)<(n:Int))=decide (64<n) from ul2.2 oM,pF,ua5 aD,ub3 fZ,hd,show (N d==N (48:UInt8))=J from ua2.2 (fun e=>p5 (by injection e))];rfl);clear pF hd p5;go_wp2_with fail;go_ret;exact b4.o _ r4.o
 .have db:decide ((k0:Int)+1<(k:Int))=J:=(by simp;omega);have r4:=hD (show fG=(n,k,decide ((64:Int)<(n:Int))) by rw[show decide ((64:Int)<(n:Int))=decide (64<n) from ul2.2 oM,pF,ua5 aD,ua5 fZ];rfl);clear pF hd;go_wp2_with fail;go_ret;exact b4.o _ r4.o):=h
def ksC (h:P:=by have bb:((k:Int)==(k0:Int))=K:=(by simp;omega);have r4:=hD (show fG=(n,k,K) by rw[pF,ub3 aD];rfl);clear pF;go_wp2_with fail;go_ret;exact b4.o _ r4.o):=h
def GS (T:List UInt8) (w:O) (g k:Nat) (b:Bool):Prop:=Blk w g 217 #[Q ⟨T.toArray⟩,I U k,V b]
section
variable {T:List UInt8} {w:O} {g k:Nat} {b:Bool}
theorem GS.cells (h:GS T w g k b):w.cell? ⟨g,0,Z⟩=N (Q ⟨T.toArray⟩)∧w.cell? ⟨g,1,Z⟩=N (I U k)∧w.cell? ⟨g,2,Z⟩=N (V b)∧w.frozen? ⟨g,1,Z⟩=J∧w.frozen? ⟨g,2,Z⟩=J:=by have aD:=Blk.cell h 0;have af:=Blk.cell h 1;have ao:=Blk.cell h 2;simp only[gA,gB,gC] at aD af ao;exact ⟨aD,af,ao,Blk.frozen h 1,Blk.frozen h 2⟩
theorem GS.drewN (h:GS T w g k b) (n:Nat):GS T (w.drewN n) g k b:=h
theorem GS.go (h:GS T w g k b) (k':Nat):GS T (w.setCell ⟨g,1,Z⟩ (I U k')) g k' b:=Blk.mac h 1 _
theorem GS.mark (h:GS T w g k b) (cx:Bool):GS T (w.setCell ⟨g,2,Z⟩ (V cx)) g k cx:=Blk.mac h 2 _
theorem GS.kept {F:Nat→Prop} {w':O} (h:GS T w g k b) (aw:Kept F w w') (hg:¬F g):GS T w' g k b:=Blk.kept h aw hg
theorem GS.alloc (h:GS T w g k b) (o:Obj):GS T (w.alloc o) g k b:=Blk.alloc h o
theorem GS.lt (h:GS T w g k b):g<w.heap.size:=Blk.lt h
end
def kAI (w:O) (a b:Nat):(w.drewN a).drewN b=w.drewN (a+b):=by unfold World.drewN;simp[un6]
def kdb {T:List UInt8} {g k:Nat} {b:Bool} (w:O) (h:GS T w g k b) (dr:T.length≤262144) (aw:k≤1000000):L prog 186 #[ab (N ⟨g,0,Z⟩)] w fun e w'=>e=ac (ag #[I .u8 (Gr.nx T k).toNat,V (decide (k<T.length))])∧∃ n,w'=w.drewN n:=by
 obtain ⟨aN,aM,_,_,_⟩:=h.cells;have dN:=bZ T;rcases an:T[k]? with _|c
 .have az:T.length≤k:=uc6.1 an;have aL:decide (k<T.length)=J:=(by simp;omega);have bJ:Gr.nx T k=0:=(by unfold Gr.nx;rw[an]);have dn:decide ((T.length:Int)≤(k:Int))=K:=(by simp;omega);rw[aL,bJ];clear h an aL bJ;go_enter func186,ntmps186;go_wp2_with fail;go_quiet (fail);go_wp2_with fail;go_ret2
  exact ⟨rfl,_,rfl⟩
 .have az:=kaj an;have aL:decide (k<T.length)=K:=(by simp;omega);have bJ:Gr.nx T k=c:=kcd an;have dn:decide ((T.length:Int)≤(k:Int))=J:=(by simp;omega);have g4:=kaX (P:=prog) underlying9 an;rw[aL,bJ];clear h an aL bJ;go_enter func186,ntmps186;go_wp2_with fail;go_quiet (fail);go_wp2_with fail;go_quiet (fail);go_wp2_with fail;go_ret2
  exact ⟨rfl,_,kAI _ _ _⟩
def kiS {b c:UInt8} :((b.toNat:Int)==(c.toNat:Int))=(b==c):=by
 rw[uk5];simp only[ut1];constructor
 .intro h;exact uo0.1 oM
 .intro h;rw[h]
def kyJ (b:UInt8) (w:O):L prog 240 #[I .u8 b.toNat] w fun e w'=>e=ac (V (specials.contains b))∧w=w':=by
 obtain ⟨r,am⟩:=xE (specials.contains b);rw[←am];obtain ⟨S,dO⟩:∃ S:List UInt8,S=specials:=⟨_,rfl⟩;have dz:S.length=12:=(by rw[dO];rfl);have q6:=fun (i:Nat) (c:UInt8) (h:S[i]? =N c)=>kaX (P:=prog) underlying9 h;rw[dO] at q6;unfold specials at q6;have Jf:=hD q6;rw[←dO] at am;have a1:=hD am;have oS:=hD dz;obtain ⟨kH,nz⟩:=u8b b;rw[←show S=[92,46,91,93,40,41,123,125,124,42,43,63] from dO] at Jf;have uD:=hD (show S=[92,46,91,93,40,41,123,125,124,42,43,63] from dO);clear am dO dz q6;go_enter func240,ntmps240;go_wp2_with fail;rw[←uD.o];go_loopg [4] 13 (fun f v wr=>∃ i:Nat,v=I U i∧(i+f=13∧i≤12)∧Hz ((S.take i).contains b=J)∧wr=w)
 case atStart=>exact ⟨0,rfl,⟨rfl,oM⟩,hD rfl,rfl⟩
 case round=>
  obtain ⟨i,rfl,BO,dY,rfl⟩:=hrel;obtain ⟨f,rfl⟩:=xS gk;have dN:(ByteArray.mk S.toArray).size=12:=(by simp[ByteArray.size,oS.o]);rcases an:S[i]? with _|c
  .have az:12≤i:=(by have:=uc6.1 an;rw[oS.o] at this;omega);have dn:decide ((i:Int)<12)=J:=(by simp;omega);have aH:r=J:=(by have af:=dY.out;rw[ui7 (show S.length≤i by rw[oS.o];exact az)] at af;rw[a1.o,af]);subst aH;clear an;go_wp2_with fail;go_ret;exact ⟨rfl,rfl⟩
  .have az:i<12:=(by have:=kaj an;rw[oS.o] at this;omega);have dn:decide ((i:Int)<12)=K:=(by simp;omega);have g4:=Jf.o i c an;by_cases ej:c=b
   .subst ej;have aL:((c.toNat:Int)==(c.toNat:Int))=K:=(by simp);have aH:r=K:=(by rw[a1.o];exact List.contains_iff_mem.2 (ua4 an));subst aH;clear an;go_wp2_with fail;go_ret;exact ⟨rfl,rfl⟩
   .have aL:((c.toNat:Int)==(b.toNat:Int))=J:=by rw[kiS];exact ua2.2 ej
    have od:=hD (show (S.take (i+1)).contains b=J by
     rw[ue0,an];have af:=dY.out;simp only[List.contains_eq_mem,un5] at af ⊢;rw[uh2];rintro (h|h)
     .exact af h
     .simp at h;exact ej h.symm)
    clear an dY ej;go_wp2_with fail;go_roundg f
    case measure=>omega
    case rel=>exact ⟨i+1,by rw[show ((i+1:Nat):Int)=(i:Int)+1 by omega],⟨oM,oM⟩,od,rfl⟩
def kba {b c:UInt8} (h:b≠c):((b.toNat:Int)==(c.toNat:Int))=J:=by rw[kiS];exact ua2.2 h
def kDi (T:List UInt8) (w:O) (g k0:Nat) (dt:Bool) (R:Nat×Nat) (f:Nat) (v:C) (wr:O):Prop:=
 ∃ k n:Nat,v=I U n∧Hz (GS T wr g k dt)∧k0≤k∧k≤max k0 T.length∧n≤1000∧T.length-k<f∧Hz (Gr.mas T f k n=R)∧Hz (Kept (isG g) w wr)
def kqO {T:List UInt8} {f k n:Nat} {b:UInt8} (ak:T[k]? =N b):Gr.mas T (f+1) k n=if 48≤b∧b≤57 then Gr.mas T f (k+1) (min (10*n+(b.toNat-48)) 1000) else (n,k):=by rw[Gr.mas,ak]
def kq4 {T:List UInt8} {g k0:Nat} {dt:Bool} (w:O) (h:GS T w g k0 dt) (dr:T.length≤262144) (jw:k0≤600000):L prog 241 #[ab (N ⟨g,0,Z⟩)] w fun e w'=>
 e=ac (I U (Gr.num T k0 dt).1)∧GS T w' g (Gr.num T k0 dt).2.1 (Gr.num T k0 dt).2.2∧Kept (isG g) w w':=by
 obtain ⟨R,aH⟩:=xE (Gr.mas T (T.length+1) k0 0);obtain ⟨fG,cO⟩:=xE (Gr.num T k0 dt);rw[←cO];unfold Gr.num at cO;rw[←aH] at cO;obtain ⟨cf,a1,AD⟩:=hd3 cO aH h;obtain ⟨aN,aM,aZ,bE,c2⟩:=h.cells;have dN:=bZ T;clear aH cO h;go_enter func241,ntmps241;go_wp2_with fail;go_loopg [4] (T.length+1) (fun f v wr=>kDi T w g k0 dt R f v wr)
 case atStart=>exact ⟨k0,0,rfl,AD,oM,oM,oM,oM,hD a1.o.symm,hD (Kept.refl _ _)⟩
 case round=>
  clear aN aM aZ bE c2;obtain ⟨k,n,rfl,aO,af,ao,av,bk,cZ,aJ⟩:=hrel;obtain ⟨f,rfl⟩:=xS gk;obtain ⟨aN,aM,aZ,bE,c2⟩:=aO.out.cells;have bH:=cZ.out;have bF:=hD (kdb wr aO.out dr oM);clear cZ;go_wp2_with fail;refine bF.o.mono ?_;rintro e aq ⟨rfl,v6,rfl⟩;clear bF;obtain ⟨c,an⟩:=xE (Gr.nx T k);rw[←an];obtain ⟨kH,nz⟩:=u8b c;have d3:=hD (aO.out.drewN v6);have jd:=hD (aJ.out.drewN v6);obtain ⟨aq,aQ⟩:=xE (wr.drewN v6);rw[←aQ] at d3 jd ⊢;clear aQ aN aM aZ bE c2;obtain ⟨aN,aM,aZ,bE,c2⟩:=d3.o.cells
  have BQ:(∃ b,T[k]? =N b∧c=b∧48≤(c.toNat:Int)∧(c.toNat:Int)≤57)∨(R=(n,k)∧(¬(k<T.length)∨(k<T.length∧(c.toNat:Int)<48)∨(k<T.length∧48≤(c.toNat:Int)∧57<(c.toNat:Int)))):=by
   rcases ak:T[k]? with _|b
   .rw[Gr.mas,ak] at bH;exact .inr ⟨bH.symm, .inl (by have:=uc6.1 ak;omega)⟩
   .have az:=kaj ak;rw[kcd ak] at an;subst an;rw[kqO ak] at bH;have Jg:(48≤c)↔48≤(c.toNat:Int):=(by rw[uf8,show (48:UInt8).toNat=48 from rfl];omega);have Jh:(c≤57)↔(c.toNat:Int)≤57:=(by rw[uf8,show (57:UInt8).toNat=57 from rfl];omega);by_cases hd:48≤c∧c≤57
    .exact .inl ⟨c,rfl,rfl,Jg.1 hd.1,Jh.1 hd.2⟩
    .rw[ua0 hd] at bH;refine .inr ⟨bH.symm, .inr ?_⟩;rw[Jg,Jh] at hd;by_cases cb:48≤(c.toNat:Int)
     .exact .inr ⟨az,cb,oM⟩
     .exact .inl ⟨az,oM⟩
  rcases BQ with ⟨b,ak,ej,mR,kK⟩|⟨MT,qf⟩
  .have az:=kaj ak;subst ej;rw[kqO ak,ua1 ⟨by rw[uf8,show (48:UInt8).toNat=48 from rfl];omega,by rw[uf8,show (57:UInt8).toNat=57 from rfl];omega⟩] at bH;have cp:=hD bH;have d8:decide (k<T.length)=K:=(by simp;omega);have g1:decide ((c.toNat:Int)<48)=J:=(by simp;omega);have eN:decide (57<(c.toNat:Int))=J:=(by simp;omega);have Ji:Hz (((min (10*n+(c.toNat-48)) 1000:Nat):Int)=min (10*(n:Int)+(c.toNat:Int)-48) 1000):=hD oM;clear bH ak an;go_wp2_with fail
   all_goals
    go_roundg f
    case measure=>omega
    case rel=>exact ⟨k+1,min (10*n+(c.toNat-48)) 1000,ud4 (I U) oM,hD (by rw[show (k:Int)+1=((k+1:Nat):Int) by omega];exact d3.o.go (k+1)),oM,oM,oM,oM,cp,hD (jd.o.setCell (p:=⟨g,1,Z⟩) (.inl rfl) _)⟩
  .have pF:=cf.o;rw[MT] at pF;dsimp only at pF;have ms:=hD (fun b:Bool=>d3.o.mark b);clear bH MT an a1 cf AD aO;have qu:∀ b:Bool,fG=(n,k,b)→ac (I U n)=ac (I U fG.1)∧GS T (aq.setCell ⟨g,2,Z⟩ (V b)) g fG.2.1 fG.2.2∧Kept (isG g) w (aq.setCell ⟨g,2,Z⟩ (V b)):=fun b ak=>by rw[ak];exact ⟨rfl,d3.o.mark b,jd.o.setCell (p:=⟨g,2,Z⟩) (.inl rfl) _⟩
   have b4:=hD qu;clear qu;have md:k0≠k→k0<T.length:=fun e=>by omega
   rcases qf with cb|⟨cb,dE⟩|⟨cb,dE,fi⟩
   .have d8:decide (k<T.length)=J:=(by simp;omega);exact kiv
   .have d8:decide (k<T.length)=K:=(by simp;omega);have g1:decide ((c.toNat:Int)<48)=K:=(by simp;omega);exact kiv
   .have d8:decide (k<T.length)=K:=(by simp;omega);have g1:decide ((c.toNat:Int)<48)=J:=(by simp;omega);have eN:decide (57<(c.toNat:Int))=K:=(by simp;omega);exact kiv
def kcU {b c:UInt8} :((b.toNat:Int) != (c.toNat:Int))=(b != c):=by unfold bne;rw[kiS]
def GS.end {T:List UInt8} {w he:O} {g k:Nat} {b:Bool} (h:GS T w g k b) (aw:Kept (isG g) he w) (cx:Bool) (k':Nat):GS T ((w.setCell ⟨g,2,Z⟩ (V cx)).setCell ⟨g,1,Z⟩ (I U k')) g k' cx∧Kept (isG g) he ((w.setCell ⟨g,2,Z⟩ (V cx)).setCell ⟨g,1,Z⟩ (I U k')):=
 ⟨(h.mark cx).go k',(aw.setCell (p:=⟨g,2,Z⟩) (.inl rfl) _).setCell (p:=⟨g,1,Z⟩) (.inl rfl) _⟩
def zq2 (h:P:=by
 go_enter func239,ntmps239;go_wp2_with fail;go_ret2
 rw[a1.o];exact ⟨rfl,0,rfl⟩):=h
def klq (h:P:=by
 have aH:=a1.o;rw[aO] at aH;have co:=hD aH;clear aH aO cp a1;go_wp2_with fail;go_ret2
 rw[co.o];exact ⟨rfl,0,rfl⟩):=h
def elR (t:List UInt8) (k:Nat):Int×Nat:=match kaU (t.drop k) with
 |none=>(-1,k)
 |some (x,u)=>((x.toNat:Int),k+u)
def kf3 (t:List UInt8) (k:Nat):Option (UInt8×Nat):=match t[k]? with
 |none=>none
 | some d => match t[k + 1]? with
  | none => none
  | some e => if 0 ≤ kaN d ∧ 0 ≤ kaN e then some (UInt8.ofNat (16 * kaN d + kaN e).toNat, 4) else none
def kkd {b:UInt8} {d:Nat} (h:ka6 b=N d):kaN b=d:=by unfold kaN;rw[h]
def kke {b:UInt8} (h:ka6 b=Z):kaN b= -1:=by unfold kaN;rw[h]
def kqy (b:UInt8): -1≤kaN b∧kaN b<16:=by
 rcases h:ka6 b with _|d
 .rw[kke h];omega
 .have:=kkc h;rw[kkd h];omega
theorem kAQ (t:List UInt8) (k:Nat):(match kaG t k with
 |none=>none
 |some (h,k1)=>match kaG t k1 with
 |none=>none
 |some (l,bS)=>some (UInt8.ofNat (16*h+l),bS))=(kf3 t k).map fun p=>(p.1,k+2):=by
 unfold kaG kf3;rcases t[k]? with _|d
 .rfl
 .dsimp only;rcases af:ka6 d with _|x
  .dsimp only;rcases t[k+1]? with _|e
   .rfl
   .dsimp only;rw[ua0 (by rw[kke af];omega)];rfl
  .dsimp only;rcases t[k+1]? with _|e
   .rfl
   .dsimp only;rcases ao:ka6 e with _|aC
    .dsimp only;rw[ua0 (by rw[kke ao];omega)];rfl
    .dsimp only;rw[kkd af,kkd ao,ua1 oM];try rfl
theorem kAx (t:List UInt8) (k:Nat):kaU (t.drop k)=match t[k]? with
 |none=>none
 |some b=>if b=93∨b=45 then none else if b≠92 then some (b,1) else match t[k+1]? with
 |none=>none
 |some c=>if c=110 then some (10,2) else if c=116 then some (9,2) else if c=114 then some (13,2) else if c=120 then kf3 t (k+2) else if kcj c then some (c,2) else none:=by
 have hd:∀ j,(t.drop k)[j]? =t[k+j]? :=fun j=>by rw[ud0]
 rcases aD:t[k]? with _|b
 .rw[um3 (uc6.1 aD)];try rfl
 .have az:=kaj aD;rw[ue7 az];have ak:t[k]=b:=(by rw[ua3 az] at aD;injection aD);rw[ak];have mR:∀ j,(b::t.drop (k+1))[j]? =t[k+j]? :=fun j=>by rw[←hd,ue7 az,ak]
  dsimp only;rw[kkH];generalize (b::t.drop (k+1))=l at*;split
  .rfl
  split
  .rfl
  unfold kaO;rw[mR 1];rcases t[k+1]? with _|c
  .rfl
  .dsimp only;by_cases aM:c=110
   .rw[ua1 aM,ua1 aM]
   rw[ua0 aM,ua0 aM];by_cases aZ:c=116
   .rw[ua1 aZ,ua1 aZ]
   rw[ua0 aZ,ua0 aZ];by_cases bC:c=114
   .rw[ua1 bC,ua1 bC]
   rw[ua0 bC,ua0 bC];by_cases b1:c=120
   .rw[ua1 b1,ua1 b1]
    have e : ∀ z : Option (UInt8 × Nat), (match z with
      | none => none
      | some (x, k) => some (x, k)) = z := fun z => by rcases z with _ | ⟨x, k⟩ <;> rfl
    refine Eq.trans (e _) (Eq.trans (kAQ l 2) ?_);unfold kf3;rw[mR 2,mR 3,show k+2+1=k+3 by omega];rcases t[k+2]? with _|d
    .rfl
    .dsimp only;rcases t[k+3]? with _|e
     .rfl
     .dsimp only;split <;> rfl
   .rw[ua0 b1,ua0 b1];cases kcj c <;> rfl
def kq9 (b:UInt8) (x:Int) (aA:kaN b=x) (w:O):L prog 247 #[I .u8 b.toNat] w fun e w'=>e=ac (I U x)∧w'=w:=by subst aA;exact (kzn b w).mono fun _ _ h=>⟨h.1,h.2.symm⟩
def GEl (t:List UInt8) (k:Nat) (w:O) (e:Ending) (w':O):Prop:=e=ac (ag #[I .i64 (elR t k).1,I U (elR t k).2])∧∃ n,w'=w.drewN n
section
variable {t:List UInt8} {k:Nat} (w:O) (dr:t.length≤262144)
theorem kks (aw:k≤600000) (dr:t.length≤262144):L prog 239 #[Q ⟨t.toArray⟩,I U k] w (GEl t k w):=by
 have dN:=bZ t;obtain ⟨R,aH⟩:=xE (elR t k);unfold GEl;rw[←aH];unfold elR at aH;rw[kAx] at aH;rcases aD:t[k]? with _|b
 .rw[aD] at aH;have a1:=hD aH;have bw:decide ((t.length:Int)≤(k:Int))=K:=(by have:=uc6.1 aD;simp;omega);have aL:¬(k<t.length):=(by have:=uc6.1 aD;omega);clear aH aD;exact zq2
 have az:=kaj aD;have bw:decide ((t.length:Int)≤(k:Int))=J:=(by simp;omega);have kH:=kaX (P:=prog) underlying9 aD;obtain ⟨PX,PY⟩:=u8b b;rw[aD] at aH;dsimp only at aH;by_cases sx:b=93
 .have bb:((b.toNat:Int)==93)=K:=(by rw[sx];rfl);rw[ua1 (.inl sx)] at aH;have a1:=hD aH;clear aH aD sx;exact zq2
 have bb:((b.toNat:Int)==93)=J:=kba (c:=93) sx;by_cases uj:b=45
 .have db:((b.toNat:Int)==45)=K:=(by rw[uj];rfl);rw[ua1 (.inr uj)] at aH;have a1:=hD aH;clear aH aD sx uj;exact zq2
 have db:((b.toNat:Int)==45)=J:=kba (c:=45) uj;rw[ua0 (by rintro (e|e);exact sx e;exact uj e)] at aH;by_cases uk:b=92;rotate_left
 .have t3:((b.toNat:Int)==92)=J:=kba (c:=92) uk;have t4:((b.toNat:Int) != 92)=K:=(by simpa using t3);rw[ua1 uk] at aH;have a1:=hD aH;clear aH aD sx uj uk;exact zq2
 have t3:((b.toNat:Int)==92)=K:=(by rw[uk];rfl);have t4:((b.toNat:Int) != 92)=J:=(by rw[uk];rfl);rw[ua0 (by simpa using uk)] at aH;rcases af:t[k+1]? with _|c
 .rw[af] at aH;have a1:=hD aH;have aL:decide ((t.length:Int)≤(k:Int)+1)=K:=(by have:=uc6.1 af;simp;omega);clear aH aD af sx uj uk;exact zq2
 have ew:=kaj af;have aL:decide ((t.length:Int)≤(k:Int)+1)=J:=(by simp;omega);have nz:=kaX (P:=prog) underlying9 af;rw[show ((k+1:Nat):Int)=(k:Int)+1 by omega] at nz;obtain ⟨Ey,Ez⟩:=u8b c;rw[af] at aH;dsimp only at aH;clear aD af sx uj uk;by_cases sy:c=110
 .have s1:((c.toNat:Int)==110)=K:=(by rw[sy];rfl);rw[ua1 sy] at aH;have a1:=hD aH;clear aH sy;exact zq2
 have s1:((c.toNat:Int)==110)=J:=kba (c:=110) sy;rw[ua0 sy] at aH;by_cases ul:c=116
 .have s2:((c.toNat:Int)==116)=K:=(by rw[ul];rfl);rw[ua1 ul] at aH;have a1:=hD aH;clear aH sy ul;exact zq2
 have s2:((c.toNat:Int)==116)=J:=kba (c:=116) ul;rw[ua0 ul] at aH;by_cases vW:c=114
 .have s3:((c.toNat:Int)==114)=K:=(by rw[vW];rfl);rw[ua1 vW] at aH;have a1:=hD aH;clear aH sy ul vW;exact zq2
 have s3:((c.toNat:Int)==114)=J:=kba (c:=114) vW;rw[ua0 vW] at aH;by_cases xQ:c=120
 .have s4:((c.toNat:Int)==120)=K:=(by rw[xQ];rfl);rw[ua1 xQ] at aH;unfold kf3 at aH;clear sy ul vW xQ;rcases ao:t[k+2]? with _|d
  .rw[ao] at aH;have a1:=hD aH;have bJ:decide ((k:Int)+3<(t.length:Int))=J:=(by have:=uc6.1 ao;simp;omega);clear aH ao;exact zq2
  rw[ao] at aH;dsimp only at aH;rcases av:t[k+2+1]? with _|e
  .rw[av] at aH;have a1:=hD aH;have bJ:decide ((k:Int)+3<(t.length:Int))=J:=(by have:=uc6.1 av;simp;omega);clear aH ao av;exact zq2
  rw[av] at aH;dsimp only at aH;have kJ:=kaj av;have bJ:decide ((k:Int)+3<(t.length:Int))=K:=(by simp;omega);have BR:=kaX (P:=prog) underlying9 ao;rw[show ((k+2:Nat):Int)=(k:Int)+2 by omega] at BR;have BS:=kaX (P:=prog) underlying9 av;rw[show ((k+2+1:Nat):Int)=(k:Int)+3 by omega] at BS;obtain ⟨x,aA⟩:=xE (kaN d);obtain ⟨aC,bp⟩:=xE (kaN e);have c2:=kqy d;have j4:=kqy e;rw[←aA] at c2 aH;rw[←bp] at j4 aH;have l3:=hD (kq9 d x aA.symm);have na:=hD (kq9 e aC bp.symm);have aZ:=l3.o;have bC:=na.o;clear ao av aA bp;by_cases hx0':x<0
  .have bE:decide (0≤x)=J:=(by simp;omega);rw[ua0 oM] at aH;have a1:=hD aH;clear aH aZ bC;go_enter func239,ntmps239;go_wp2_with fail;refine (l3.o _).mono ?_;rintro e aq ⟨rfl,rfl⟩;go_wp2_with fail;go_ret2
   rw[a1.o];exact ⟨rfl,0,rfl⟩
  by_cases hy0':aC<0
  .have bE:decide (0≤x)=K:=(by simp;omega);have mi:decide (0≤aC)=J:=(by simp;omega);rw[ua0 oM] at aH;have a1:=hD aH;clear aH aZ bC;go_enter func239,ntmps239;go_wp2_with fail;refine (l3.o _).mono ?_;rintro e aq ⟨rfl,rfl⟩;go_wp2_with fail;refine (na.o _).mono ?_;rintro e aq ⟨rfl,rfl⟩;go_wp2_with fail;go_ret2
   rw[a1.o];exact ⟨rfl,0,rfl⟩
  have bE:decide (0≤x)=K:=(by simp;omega);have mi:decide (0≤aC)=K:=(by simp;omega);rw[ua1 oM] at aH;dsimp only at aH;rw[show (((UInt8.ofNat (16*x+aC).toNat).toNat:Nat):Int)=16*x+aC by rw[UInt8.toNat_ofNat'];omega] at aH;have a1:=hD aH;clear aH;go_enter func239,ntmps239;go_wp2_with fail;refine (l3.o _).mono ?_;rintro e aq ⟨rfl,rfl⟩;go_wp2_with fail;refine (na.o _).mono ?_;rintro e aq ⟨rfl,rfl⟩;go_wp2_with fail;go_quiet (first|(with_reducible exact up5 (aZ _))|(with_reducible exact up5 (bC _)))
  go_wp2_with fail;go_ret2
  rw[a1.o];exact ⟨rfl,_,rfl⟩
 have s4:((c.toNat:Int)==120)=J:=kba (c:=120) xQ;rw[ua0 xQ] at aH;have a1:=hD aH;have cp:=hD (ky6 c);clear aH sy ul vW xQ;go_enter func239,ntmps239;go_wp2_with fail;refine (cp.o w).mono ?_;rintro e aq ⟨rfl,rfl⟩
 cases aO:kcj c with
 |true=>exact klq
 |false=>exact klq
end
def zq9 (h:P:=by
 go_wp2_with fail;go_roundg f
 case measure=>omega
 case rel=>exact ⟨i+1,by rw[show ((i+1:Nat):Int)=(i:Int)+1 by omega],⟨oM,oM⟩,bF⟩):=h
def kab (S:LS):Array C:=((List.range 256).map fun i=>V (S i)).toArray
def kec (S:LS) (i:Nat) (hi:i<256):(kab S)[i]? =N (V (S i)):=by unfold kab;rw[gA,ub9,List.getElem?_range hi];rfl
def kbd (S:LS):(kab S).size=256:=by unfold kab;simp
def wUp (S:LS) (i q:Nat):Nat:=wdN S q (min (i-64*q) 64)
def kd7 (S:LS) (i:Nat):Array C:= #[I .u64 (wUp S i 0),I Y (wUp S i 1),I Y (wUp S i 2),I Y (wUp S i 3)]
def knN {S:LS} {i q:Nat} (h:q≠i / 64):wUp S (i+1) q=wUp S i q:=by unfold wUp;rw[show min (i+1-64*q) 64=min (i-64*q) 64 by omega]
def knO (S:LS) (i:Nat):wUp S (i+1) (i / 64)=wUp S i (i / 64)+(if S i then 2^(i % 64) else 0):=by unfold wUp;rw[show min (i+1-64*(i / 64)) 64=i % 64+1 by omega,show min (i-64*(i / 64)) 64=i % 64 by omega,wdN,show 64*(i / 64)+i % 64=i by omega]
def kgS {S:LS} {i:Nat} (h:S i=J) (q:Nat):wUp S (i+1) q=wUp S i q:=by
 by_cases bj:q=i / 64
 .subst bj;rw[knO,h];rfl
 .exact knN bj
def kgR (S:LS) (q:Nat):wUp S 0 q=0:=by unfold wUp;rw[Nat.zero_sub,Nat.zero_min];rfl
def ksS (S:LS) {q:Nat} (h:q<4):wUp S 256 q=wd S q:=by unfold wUp wd;rw[show min (256-64*q) 64=64 by omega]
def ksR (S:LS) (i:Nat):wUp S i (i / 64)<2^(i % 64):=by unfold wUp;rw[show min (i-64*(i / 64)) 64=i % 64 by omega];exact kgQ S _ _
def kfy (S:LS) (i:Nat) {q:Nat} (h:q<4):(kd7 S i)[q]? =N (I Y (wUp S i q)):=by have:q=0∨q=1∨q=2∨q=3:=oM;rcases this with rfl|rfl|rfl|rfl <;> rfl
def ksT (S:LS) (i:Nat) (hi:i<256):(kd7 S i).setIfInBounds (i / 64) (I Y (wUp S (i+1) (i / 64):Nat))=kd7 S (i+1):=by
 have h:i / 64=0∨i / 64=1∨i / 64=2∨i / 64=3:=oM;have o:=fun q (bj:q≠i / 64)=>knN (S:=S) bj;unfold kd7;rcases h with e|e|e|e
 .rw[e,o 1 oM,o 2 oM,o 3 oM];rfl
 .rw[e,o 0 oM,o 2 oM,o 3 oM];rfl
 .rw[e,o 0 oM,o 1 oM,o 3 oM];rfl
 .rw[e,o 0 oM,o 1 oM,o 2 oM];rfl
structure LtSt (S:LS) (A:Array C) (w wr:O) (i:Nat):Prop where
 a:Blk wr w 296 A
 r:Blk wr (w.heap.size+1) 102 #[I .u64 0,I Y 0,I Y 0,I Y 0]
 o:Blk wr (w.heap.size+1+1) 102 (kd7 S i)
 b:H w w wr
theorem kf6 (S:LS) (w:O):L prog 234 #[aa (kab S)] w fun e w'=>e=ac (aa #[I .u64 (wd S 0),I Y (wd S 1),I Y (wd S 2),I Y (wd S 3)])∧H w w w':=by
 obtain ⟨A,d4⟩:=xE (kab S);rw[←d4];have Jj:=hD (fun i (hi:i<256)=>kec S i hi);rw[←d4] at Jj;have dN:A.size=256:=(by rw[d4];exact kbd S);clear d4;go_enter func234,ntmps234;go_wp2_with fail;go_loopg [4] 257 (fun f v wr=>∃ i:Nat,v=I U i∧(i+f=257∧i≤256)∧Hz (LtSt S A w wr i))
 case atStart=>
  refine ⟨0,rfl,⟨rfl,oM⟩,hD ⟨?_,?_,?_,?_⟩⟩
  .exact ((Blk.new w _ A).alloc _).alloc _
  .have:=(Blk.new (w.alloc (y A 296)) 102 #[I .u64 0,I Y 0,I Y 0,I Y 0]).alloc (y #[I .u64 0,I Y 0,I Y 0,I Y 0] 102);simpa using this
  .have:=Blk.new ((w.alloc (y A 296)).alloc (y #[I .u64 0,I Y 0,I Y 0,I Y 0] 102)) 102 #[I .u64 0,I Y 0,I Y 0,I Y 0];unfold kd7;rw[kgR,kgR,kgR,kgR];simpa using this
  .exact (((ub5 _ w).alloc (nR) _).alloc (by simp) _).alloc (by simp;omega) _
 case round=>
  obtain ⟨i,rfl,⟨BO,Jk⟩,cg⟩:=hrel;obtain ⟨f,rfl⟩:=xS gk;by_cases bG:i<256
  .have bw:decide ((i:Int)<256)=K:=(by simp;omega);have rb:=(Blk.cell cg.out.a i).trans (Jj.o i bG);have wD:i / 64<4:=oM;have ft:=(Blk.cell cg.out.o (i / 64)).trans (kfy S i wD);have PZ:=Blk.frozen cg.out.o (i / 64)
   cases dO:S i with
   |true=>rw[dO] at rb;have au:(IntKind.u64.wrap ((wUp S i (i / 64):Int)+IntKind.u64.wrap (2^(i % 64))))=((wUp S (i+1) (i / 64):Nat):Int):=(by have af:=ksR S i;have ao:2^(i % 64)≤2^63:=ur8 oM oM;rw[knO,dO,ua1 rfl];have e:((2:Int)^(i % 64))=((2^(i % 64):Nat):Int):=(by push_cast;rfl);rw[show IntKind.u64.wrap ((2:Int)^(i % 64))=((2^(i % 64):Nat):Int) by rw[e];exact IntWalk.u64_in _ oM,IntWalk.u64_in _ oM];omega);have bF:=hD (show LtSt S A w (wr.setCell ⟨w.heap.size+1+1,i / 64,Z⟩ (I Y (IntKind.u64.wrap ((wUp S i (i / 64):Int)+IntKind.u64.wrap (2^(i % 64)))))) (i+1) from by rw[au];refine ⟨Blk.far cg.out.a (p:=⟨w.heap.size+1+1,i / 64,Z⟩) (by show w.heap.size≠w.heap.size+1+1;omega) _,Blk.far cg.out.r (p:=⟨w.heap.size+1+1,i / 64,Z⟩) (by show w.heap.size+1≠w.heap.size+1+1;omega) _,?_,cg.out.b.setCell (by show w.heap.size≤w.heap.size+1+1;omega) _⟩;have:=Blk.mac cg.out.o (i / 64) (I Y (wUp S (i+1) (i / 64):Nat));rw[ksT S i bG] at this;exact this);clear dO cg au;exact zq9
   |false=>rw[dO] at rb;have bF:=hD (show LtSt S A w wr (i+1) from ⟨cg.out.a,cg.out.r,by have:=cg.out.o;unfold kd7 at this ⊢;rw[kgS dO,kgS dO,kgS dO,kgS dO];exact this,cg.out.b⟩);clear dO cg;exact zq9
  .obtain rfl:i=256:=oM;have bw:decide (((256:Nat):Int)<256)=J:=dC;have aN:=(Blk.cell cg.out.o 0).trans (kfy S 256 (q:=0) oM);have aM:=(Blk.cell cg.out.o 1).trans (kfy S 256 (q:=1) oM);have aZ:=(Blk.cell cg.out.o 2).trans (kfy S 256 (q:=2) oM);have bC:=(Blk.cell cg.out.o 3).trans (kfy S 256 (q:=3) oM);rw[ksS S oM] at aN aM aZ bC;have f0:=Blk.frozen cg.out.r 0;have b2:=Blk.frozen cg.out.r 1;have cB:=Blk.frozen cg.out.r 2;have dS:=Blk.frozen cg.out.r 3;have r0:=Blk.cell cg.out.r 0;have d5:=Blk.cell cg.out.r 1;have fM:=Blk.cell cg.out.r 2;have jM:=Blk.cell cg.out.r 3;simp only[gA,gB,gC] at r0 d5 fM jM;have gM:=Blk.mac (Blk.mac (Blk.mac (Blk.mac cg.out.r 0 (I Y (wd S 0))) 1 (I Y (wd S 1))) 2 (I Y (wd S 2))) 3 (I Y (wd S 3));have ck:=(((cg.out.b.setCell (p:=⟨w.heap.size+1,0,Z⟩) (by show w.heap.size≤w.heap.size+1;omega) (I Y (wd S 0))).setCell (p:=⟨w.heap.size+1,1,Z⟩) (by show w.heap.size≤w.heap.size+1;omega) (I Y (wd S 1))).setCell (p:=⟨w.heap.size+1,2,Z⟩) (by show w.heap.size≤w.heap.size+1;omega) (I Y (wd S 2))).setCell (p:=⟨w.heap.size+1,3,Z⟩) (by show w.heap.size≤w.heap.size+1;omega) (I Y (wd S 3));obtain ⟨c7,jn⟩:=xE ((((wr.setCell ⟨w.heap.size+1,0,Z⟩ (I Y (wd S 0))).setCell ⟨w.heap.size+1,1,Z⟩ (I Y (wd S 1))).setCell ⟨w.heap.size+1,2,Z⟩ (I Y (wd S 2))).setCell ⟨w.heap.size+1,3,Z⟩ (I Y (wd S 3)));rw[←jn] at gM ck;obtain ⟨pG,ho,wE⟩:=hd3 gM ck jn;clear gM ck jn cg;go_wp2_with fail;rw[←wE.o];have bi:=Blk.cell pG.o 0;have aW:=Blk.cell pG.o 1;have bc:=Blk.cell pG.o 2;have br:=Blk.cell pG.o 3;simp at bi aW bc br;refine ub2 (v:=aa #[I .u64 (wd S 0),I Y (wd S 1),I Y (wd S 2),I Y (wd S 3)]) (by simp[results,results234,go_sem,bi,aW,bc,br]) rfl ?_;exact ⟨rfl,ho.o⟩
section
variable {P:Program} {w:O} {g n:Nat} {t:ah} {cs Do:Array C}
theorem Blk.row (h:Blk w g t Do):Blk (w.setRow g cs) g t cs:=setRow_heap w g Do cs t (0,0) h
theorem Blk.mbL {mH:Nat} (h:Blk w g t Do) (hg:g≠mH):Blk (w.setRow mH cs) g t Do:=(setRow_other w mH g cs hg).trans h
theorem khG {B:Nat} {he:O} (h:H B he w) (hg:B≤g):H B he (w.setRow g cs):=
 h.trans ⟨rfl,rfl,rfl,by rw[setRow_size];exact nR,fun i hi=>setRow_other w g i cs oM⟩
end
def kdq (S:LS):(kab S).all (·.oneCell')=K:=by rw[Array.all_eq_true_iff_forall_mem];intro v au;unfold kab at au;simp at au;obtain ⟨i,_,rfl⟩:=au;rfl
def kg6 (S:LS) (i:Nat) (hi:i<256) (b:Bool):(kab S).setIfInBounds i (V b)=kab (fun n=>if n=i then b else S n):=by
 apply Array.ext
 .rw[un3,kbd,kbd]
 .intro j af ao;rw[kbd] at ao;have aL:((kab S).setIfInBounds i (V b))[j]? =N ((kab S).setIfInBounds i (V b))[j]:=uj1 af;have bJ:=kec (fun n=>if n=i then b else S n) j ao;by_cases aS:i=j
  .subst aS;rw[Array.getElem_setIfInBounds_self];have:=(um6.1 bJ).2;rw[this,ua1 rfl]
  .rw[Array.getElem_setIfInBounds_ne _ aS];have:=(um6.1 bJ).2;rw[this,ua0 (fun e=>aS e.symm)];exact (um6.1 (kec S j ao)).2
def kdp {S R:LS} (h:∀ i,i<256→S i=R i):kab S=kab R:=by unfold kab;congr 1;exact um0 fun i hi=>by rw[h i (uk3.1 hi)]
def kci:zeroCells296=kab kad:=kR
def kko (b:UInt8) (w:O):L prog 237 #[I .i64 b.toNat] w fun e w'=>e=ac (aa #[I .i64 2,I Y (wd (kaa b.toNat) 0),I Y (wd (kaa b.toNat) 1),I Y (wd (kaa b.toNat) 2),I Y (wd (kaa b.toNat) 3),I U 0,I U 0,D Z 0 0])∧H w w w':=by obtain ⟨kH,nz⟩:=u8b b;obtain ⟨W,dH⟩:=xE (w.alloc (y #[I .i64 0,I Y 0,I Y 0,I Y 0,I Y 0,I U 0,I U 0,D Z 0 0] 105));have aH:=bM dH;have b0:H w w W:=(by rw[dH];exact (ub5 _ w).alloc (nR) _);have Jl:=wS dH;obtain ⟨aq,aQ⟩:=xE (W.alloc (y zeroCells296 296));have BT:Blk aq (w.heap.size+1) 296 (kab kad):=(by rw[aQ,←Jl,←kci];exact Blk.new _ _ _);have dT:Blk aq w 105 #[I .i64 0,I Y 0,I Y 0,I Y 0,I Y 0,I U 0,I U 0,D Z 0 0]:=(by rw[aQ];exact Blk.alloc aH _);have c4:H w w aq:=(by rw[aQ];exact b0.alloc b0.size _);have ak:b.toNat<256:=oM;have nH:=Blk.mac BT b.toNat (V K);rw[kg6 _ _ ak,kdp (R:=kaa b.toNat) (fun i _=>by unfold kaa kad;by_cases h:i=b.toNat <;> simp[h])] at nH;have gi:=Blk.far dT (p:=⟨w.heap.size+1,b.toNat,Z⟩) (by show w.heap.size≠w.heap.size+1;omega) (V K);have dZ:=c4.setCell (p:=⟨w.heap.size+1,b.toNat,Z⟩) (by show w.heap.size≤w.heap.size+1;omega) (V K);have aM:=(Blk.cell BT b.toNat).trans (kec _ _ ak);have b2:=Blk.frozen BT b.toNat;obtain ⟨aF,bW⟩:=xE (aq.setCell ⟨w.heap.size+1,b.toNat,Z⟩ (V K));rw[←bW] at nH gi dZ;obtain ⟨ex,eg,co,bo,gu,cd,e1⟩:=hd7 nH (kf6 (kaa b.toNat) aF) gi dZ dH aQ bW;obtain ⟨A,d4⟩:=xE (kab (kaa b.toNat));rw[←d4] at ex eg;have P0:A.size=256:=(by rw[d4];exact kbd _);have P1:((prog).info? 296).map (·.size)=N A.size:=(by rw[P0];kernel_rfl);obtain ⟨aT,ht⟩:=xE (wd (kaa b.toNat) 0);obtain ⟨aU,iZ⟩:=xE (wd (kaa b.toNat) 1);obtain ⟨aX,g5⟩:=xE (wd (kaa b.toNat) 2);obtain ⟨a2,i0⟩:=xE (wd (kaa b.toNat) 3);rw[←ht,←iZ,←g5,←i0] at eg ⊢;clear aH b0 Jl BT dT c4 nH gi dZ dH aQ bW d4 ht iZ g5 i0 ak;go_enter func237,ntmps237;go_upto_region 2 with (fail);rw[←gu.o,←cd.o];go_upto_region 3 with (fail);rw[←e1.o];(go_wp2_with (refine uk6 rfl 296 (Operand.tmp 3) rfl (w.heap.size+1) rfl 296 A (0,0) _ ex.o underlying296 rfl P1 ?_));refine eg.o.mono ?_;rintro e a6 ⟨rfl,b3⟩;have e8:=co.o.below b3 co.o.lt;have bU:=bT bo b3;have BU:R8 a6 w (I U 0) (I Y 0) (I Y 0) (I Y 0) (I Y 0) (I U 0) (I U 0) (D Z 0 0):=e8;obtain ⟨⟨⟨Zf,Zg⟩,Zh,Zi⟩,⟨Zj,Zk⟩,Zl,Zm⟩:=BU.cells;obtain ⟨⟨⟨Zn,Zo⟩,Zp,Zq⟩,⟨Zr,f15⟩,Zs,Zt⟩:=BU.free;have b4:=hD (BU.all (I U 2) (I Y aT) (I Y aU) (I Y aX) (I Y a2) (I U 0) (I U 0) (D Z 0 0));have aV:=hD (kcM bU.o (uf1 w) (I U 2) (I Y aT) (I Y aU) (I Y aX) (I Y a2) (I U 0) (I U 0) (D Z 0 0));clear b3 eg aM b2 e8 BU;go_wp2_with fail;obtain ⟨⟨⟨bi,aW⟩,bc,br⟩,⟨bL,d0⟩,d1,d2⟩:=b4.o.cells;unfold mae at bi aW bc br bL d0 d1 d2;refine ub2 (v:=aa #[I .i64 2,I Y aT,I Y aU,I Y aX,I Y a2,I U 0,I U 0,D Z 0 0]) (by simp[results,results237,go_sem,bi,aW,bc,br,bL,d0,d1,d2]) rfl ?_;exact ⟨rfl,aV.o⟩
def klK (h:P:=by
 by_cases h:n=i
 .subst h;rw[ua1 rfl,ua1 oM]
 .rw[ua0 h];by_cases ao:n<i
  .rw[ua1 ao,ua1 oM]
  .rw[ua0 ao,ua0 oM]):=h
def kc8 (S:LS) (i:Nat):LS:=fun n=>if n<i then !S n else S n
def kwZ (S:LS):kab (kc8 S 256)=kab (kah S):=kdp fun i hi=>by unfold kc8 kah;rw[ua1 hi]
def kwX (S:LS):kab (kc8 S 0)=kab S:=kdp fun i _=>by unfold kc8;rw[ua0 oM]
def kwY (S:LS) (i:Nat) (hi:i<256):(kab (kc8 S i)).setIfInBounds i (V (!S i))=kab (kc8 S (i+1)):=by rw[kg6 _ _ hi];refine kdp fun n _=>?_;unfold kc8;exact klK
def kw0 (S:LS) (i:Nat):kc8 S i i=S i:=by unfold kc8;rw[ua0 oM]
structure NgSt (S:LS) (w wr:O) (i:Nat):Prop where
 a:Blk wr w 296 (kab (kc8 S i))
 r:Blk wr (w.heap.size+1) 296 (kab kad)
 b:H w w wr
def kbD (S:LS):((prog).info? 296).map (·.size)=N (kab S).size:=by rw[kbd];kernel_rfl
def koL {mI:Func} {p:Tmp} (h:mI.results= #[.cell p 296]) (tmps:Array C) (w:O) (g:Nat) (S:LS) (aO:tmps.getD p undef=ab (N ⟨g,0,Z⟩)) (hg:Blk w g 296 (kab S)):
 (results mI tmps).run prog w= .ok (aa (kab S)) w:=results_cell_row h tmps w g 296 (kab S) (0,0) _ aO hg underlying296 rfl (kbD S)
def kkp (S:LS) (w:O):L prog 235 #[aa (kab S)] w fun e w'=>e=ac (aa (kab (kah S)))∧H w w w':=by
 obtain ⟨A,d4⟩:=xE (kab S);have hR:=hD d4;rw[←d4];clear d4;go_enter func235,ntmps235;go_wp2_with fail;go_loopg [3] 257 (fun f v wr=>∃ i:Nat,v=I U i∧(i+f=257∧i≤256)∧Hz (NgSt S w wr i))
 case atStart=>
  refine ⟨0,rfl,⟨rfl,oM⟩,hD ⟨?_,?_,?_⟩⟩
  .rw[kwX,←hR.o];exact (Blk.new w _ A).alloc _
  .have:=Blk.new (w.alloc (y A 296)) 296 zeroCells296;rw[kci] at this ⊢;simpa using this
  .exact ((ub5 _ w).alloc (nR) _).alloc (by simp) _
 case round=>
  obtain ⟨i,rfl,⟨BO,Jk⟩,cg⟩:=hrel;obtain ⟨f,rfl⟩:=xS gk;by_cases bG:i<256
  .have bw:decide ((i:Int)<256)=K:=(by simp;omega);have rb:=(Blk.cell cg.out.a i).trans (kec _ i bG);have Zu:=Blk.frozen cg.out.a i;rw[kw0] at rb;have bF:=hD (show NgSt S w (wr.setCell ⟨w,i,Z⟩ (V (!S i))) (i+1) from by refine ⟨?_,Blk.far cg.out.r (p:=⟨w,i,Z⟩) (by show w.heap.size+1≠w.heap.size;omega) _,cg.out.b.setCell (by show w.heap.size≤w.heap.size;omega) _⟩;have:=Blk.mac cg.out.a i (V (!S i));rw[kwY S i bG] at this;exact this);clear cg;exact zq9
  .obtain rfl:i=256:=oM;have bw:decide (((256:Nat):Int)<256)=J:=dC;obtain ⟨af,ao,av⟩:=cg.out;rw[kwZ] at af;obtain ⟨pG,ho,kQ,lR⟩:=hd4 (Blk.row (cs:=kab (kah S)) ao) (khG (cs:=kab (kah S)) (g:=w.heap.size+1) av oM) af ao;clear af ao av cg;(go_wp2_with (first|refine uk6 rfl 296 _ rfl w rfl 296 (kab (kah S)) (0,0) _ kQ.o underlying296 rfl (kbD _) ?_|refine uk0 rfl 296 _ _ rfl (w.heap.size+1) (kab (kah S)) rfl rfl 296 (kab kad) lR.o (kbD _) (by rw[kbd,kbd]) (kdq _) ?_));refine ub2 (koL rfl _ _ _ _ rfl pG.o) rfl ?_;exact ⟨rfl,ho.o⟩
def kdS (S:LS) (i:Nat):LS:=fun n=>if n<i then S n else J
def kwb (S:LS):kab (kdS S 256)=kab S:=kdp fun i hi=>by unfold kdS;rw[ua1 hi]
def kv9 (S:LS):kab (kdS S 0)=kab kad:=kdp fun i _=>by unfold kdS kad;rw[ua0 oM]
def kwa (S:LS) (i:Nat) (hi:i<256):(kab (kdS S i)).setIfInBounds i (V (S i))=kab (kdS S (i+1)):=by rw[kg6 _ _ hi];refine kdp fun n _=>?_;unfold kdS;exact klK
def lwA (S:LS):Array C:= #[I .u64 (wd S 0),I Y (wd S 1),I Y (wd S 2),I Y (wd S 3)]
def kxx (S:LS) {q:Nat} (h:q<4):(lwA S)[q]? =N (I Y (wd S q)):=by have:q=0∨q=1∨q=2∨q=3:=oM;rcases this with rfl|rfl|rfl|rfl <;> rfl
structure OfSt (S:LS) (w wr:O) (i:Nat):Prop where
 a:Blk wr w 102 (lwA S)
 r:Blk wr (w.heap.size+1) 296 (kab kad)
 o:Blk wr (w.heap.size+1+1) 296 (kab (kdS S i))
 b:H w w wr
def ksM (S:LS) (i:Nat):decide (wd S (i / 64) / 2^(i % 64) % 2=1)=S i:=by have h:=keE S (i / 64) (i % 64);rw[Nat.testBit_eq_decide_div_mod_eq] at h;rw[h,ub3 (by omega:i % 64<64),Bool.true_and,show 64*(i / 64)+i % 64=i by omega]
def kzc (S:LS) (w:O):L prog 236 #[aa (lwA S)] w fun e w'=>e=ac (aa (kab S))∧H w w w':=by
 obtain ⟨A,d4⟩:=xE (lwA S);have hR:=hD d4;rw[←d4];clear d4;go_enter func236,ntmps236;go_wp2_with fail;go_loopg [4] 257 (fun f v wr=>∃ i:Nat,v=I U i∧(i+f=257∧i≤256)∧Hz (OfSt S w wr i))
 case atStart=>
  refine ⟨0,rfl,⟨rfl,oM⟩,hD ⟨?_,?_,?_,?_⟩⟩
  .rw[←hR.o];exact ((Blk.new w _ A).alloc _).alloc _
  .have:=(Blk.new (w.alloc (y A 102)) 296 zeroCells296).alloc (y zeroCells296 296);rw[kci] at this ⊢;simpa using this
  .have:=Blk.new ((w.alloc (y A 102)).alloc (y zeroCells296 296)) 296 zeroCells296;rw[kv9];rw[kci] at this ⊢;simpa using this
  .exact (((ub5 _ w).alloc (nR) _).alloc (by simp) _).alloc (by simp;omega) _
 case round=>
  obtain ⟨i,rfl,⟨BO,Jk⟩,cg⟩:=hrel;obtain ⟨f,rfl⟩:=xS gk;by_cases bG:i<256
  .have bw:decide ((i:Int)<256)=K:=(by simp;omega);have wD:i / 64<4:=oM;have rb:=(Blk.cell cg.out.a (i / 64)).trans (kxx S wD);obtain ⟨cT,gd⟩:=xE wr;subst gd;have PZ:=Blk.frozen cg.out.o i;have ft:=(Blk.cell cg.out.o i).trans (kec _ i bG);obtain ⟨X,d6⟩:=xE (wd S (i / 64));have y2:X<2^64:=(by rw[d6];exact kc3 _ _);have Zv:(X:Int)≤18446744073709551615:=oM;rw[←d6] at rb;have dr:=ksM S i;rw[←d6] at dr;have eY:=hD dr;clear d6 y2 dr;go_wp2_with fail;go_loopg [5,6] (i % 64+1) (fun f v5 fw wr=>∃ j x:Nat,v5=I Y x∧fw=I U j∧(j+f=i % 64+1∧j≤i % 64∧x≤X)∧Hz (x=X / 2^j)∧wr=cT)
   case atStart=>exact ⟨0,X,rfl,rfl,⟨oM,oM,nR⟩,hD (by simp),rfl⟩
   case round=>
    obtain ⟨j,x,rfl,rfl,⟨af,ao,av⟩,aA,rfl⟩:=hrel;obtain ⟨cB,rfl⟩:=xS gk;by_cases aS:j<i % 64
    .have aL:decide ((j:Int)<(i:Int) % 64)=K:=(by simp;omega);have de:=hD (show x / 2=X / 2^(j+1) by rw[aA.out,Nat.div_div_eq_div_mul,Nat.pow_succ]);clear aA;go_wp2_with fail;go_roundg cB
     case measure=>omega
     case rel=>exact ⟨j+1,x / 2,by simp,by rw[show ((j+1:Nat):Int)=(j:Int)+1 by omega],⟨oM,oM,oM⟩,de,rfl⟩
    .obtain rfl:j=i % 64:=oM;have aL:decide (((i % 64:Nat):Int)<(i:Int) % 64)=J:=(by simp);have au:decide (x % 2=1)=S i:=(by rw[aA.out];exact eY.o);have bF:=hD (show OfSt S w (wr.setCell ⟨w.heap.size+1+1,i,Z⟩ (V (decide (x % 2=1)))) (i+1) from by rw[au];refine ⟨Blk.far cg.out.a (p:=⟨w.heap.size+1+1,i,Z⟩) (by show w.heap.size≠w.heap.size+1+1;omega) _,Blk.far cg.out.r (p:=⟨w.heap.size+1+1,i,Z⟩) (by show w.heap.size+1≠w.heap.size+1+1;omega) _,?_,cg.out.b.setCell (by show w.heap.size≤w.heap.size+1+1;omega) _⟩;have:=Blk.mac cg.out.o i (V (S i));rw[kwa S i bG] at this;exact this);have dB:=hD (show ((x:Int) % 2==1)=decide (x % 2=1) by rw[uk5];simp;omega);clear aA cg au eY;go_wp2_with fail;go_roundg f
     case measure=>omega
     case rel=>exact ⟨i+1,by rw[show ((i+1:Nat):Int)=(i:Int)+1 by omega],⟨oM,oM⟩,by rw[dB.o];exact bF⟩
  .obtain rfl:i=256:=oM;have bw:decide (((256:Nat):Int)<256)=J:=dC;obtain ⟨aD,ao,af,av⟩:=cg.out;rw[kwb] at af;obtain ⟨pG,ho,kQ,lR⟩:=hd4 (Blk.row (cs:=kab S) ao) (khG (cs:=kab S) (g:=w.heap.size+1) av oM) af ao;clear aD af ao av cg;(go_wp2_with (first|refine uk6 rfl 296 _ rfl (w.heap.size+1+1) rfl 296 (kab S) (0,0) _ kQ.o underlying296 rfl (kbD _) ?_|refine uk0 rfl 296 _ _ rfl (w.heap.size+1) (kab S) rfl rfl 296 (kab kad) lR.o (kbD _) (by rw[kbd,kbd]) (kdq _) ?_));refine ub2 (koL rfl _ _ _ _ rfl pG.o) rfl ?_;exact ⟨rfl,ho.o⟩
def klQ (h:P:=by go_wp2_with fail;refine bq.o.mono ?_;rintro e aF ⟨rfl,dP,rfl⟩;have j7:=hD (d3.o.drewN dP);obtain ⟨aF,bW⟩:=xE (aq.drewN dP);rw[←bW] at j7 ⊢;clear bW d3 bq;exact kl1):=h
def kln (h:P:=by refine ⟨lo.toNat,rfl,⟨oM,oM,oM⟩,hD ⟨iB.o,?_,pr.o⟩⟩;rw[kt2];exact d3.o.o):=h
def knd (h:P:=by
 go_wp2_with fail;obtain ⟨P2,AN⟩:=xE aq;subst AN;have iB:=hD d3.o.r;have pr:=hD d3.o.b;clear a1;go_loopg [9] (lo.toNat+2-lo.toNat) (fun tf v9 wr=>∃ q:Nat,v9=I U q∧(q+tf=lo.toNat+2∧lo.toNat≤q∧q≤lo.toNat+1)∧Hz (SpSt w wr (kd9 S lo.toNat q)))
 case atStart=>exact kln
 case round=>
  obtain ⟨q,rfl,⟨jV,kZ,wF⟩,og⟩:=hrel;obtain ⟨tf,rfl⟩:=xS gk;by_cases Yo:q≤lo.toNat
  .have dM:decide ((q:Int)≤(lo.toNat:Int))=K:=(by simp;omega);exact kl2
  .exact ksD):=h
def kl2 (h:P:=by
 have Jm:q<256:=oM;have oh:=(Blk.cell og.out.o q).trans (kec _ q Jm);have Zw:=Blk.frozen og.out.o q;have bF:=hD (show SpSt w (wr.setCell ⟨w.heap.size+1,q,Z⟩ (V K)) (kd9 S lo.toNat (q+1)) from by refine ⟨Blk.far og.out.r (p:=⟨w.heap.size+1,q,Z⟩) (by show w.heap.size≠w.heap.size+1;omega) _,?_,og.out.b.setCell (by show w.heap.size≤w.heap.size+1;omega) _⟩;have:=Blk.mac og.out.o q (V K);rw[kt3 _ _ _ Jm kZ] at this;exact this);clear og d3 iB pr cp;go_wp2_with fail;go_roundg tf
 case measure=>omega
 case rel=>exact ⟨q+1,by rw[show ((q+1:Nat):Int)=(q:Int)+1 by omega],⟨oM,oM,oM⟩,bF⟩):=h
def kl1 (h:P:=by clear a1;have al:=j7.o;obtain ⟨lR,pG,ho⟩:=hd3 al.r (Blk.row (cs:=zeroCells296) al.r) (khG (cs:=zeroCells296) (g:=w.heap.size) al.b (nR));clear al j7;(go_wp2_with (first|refine uk0 rfl 296 _ _ rfl w zeroCells296 rfl rfl 296 (kab kad) lR.o klV (by rw[kbd,kci,kbd]) (by rw[kci];exact kdq _) ?_));refine ub2 (ko5 rfl _ _ w 296 zeroCells296 (0,0) _ (I U 4) rfl rfl pG.o underlying296 rfl klV) rfl ?_;exact ⟨by rw[kci];rfl,ho.o⟩):=h
def ksD (h:P:=by
 obtain rfl:q=lo.toNat+1:=oM;have dM:decide (((lo.toNat+1:Nat):Int)≤(lo.toNat:Int))=J:=ua5 oM;have hv:=og.out;rw[koq] at hv;have bF:=hD hv;clear hv og d3 iB pr;go_wp2_with fail;go_roundg f
 case measure=>omega
 case rel=>exact ⟨k1,orS S (kbg lo.toNat lo.toNat),rfl,⟨oM,oM⟩,cp,bF⟩):=h
def spR (R:Option LS):LS:=match R with
 |some S=>S
 |none=>kad
def spC (R:Option LS):Int:=match R with
 |some _=>0
 |none=>4
theorem kzd {f:Nat} {t:List UInt8} {k:Nat} {S:LS} (aw:k<t.length):lsP (f+1) (t.drop k) S=match kaU (t.drop k) with
 |none=>none
 |some (lo,u)=>if t[k+u]? =some 45 then (match kaU (t.drop (k+u+1)) with
 |none=>none
 |some (hi,lD)=>if hi<lo then none else lsP f (t.drop (k+u+1+lD)) (orS S (kbg lo.toNat hi.toNat)))
 else lsP f (t.drop (k+u)) (orS S (kbg lo.toNat lo.toNat)):=by
 rw[ue7 aw,lsP];rcases kaU (t[k]::t.drop (k+1)) with _|⟨lo,u⟩
 .rfl
 .dsimp only;rw[←ue7 aw,us3];rcases h:t[k+u]? with _|c
  .rw[um3 (uc6.1 h),ua0 (by simp)]
  .have az:=kaj h;have an:t[k+u]=c:=(by rw[ua3 az] at h;injection h);rw[ue7 az,an];by_cases gJ:c=45
   .subst gJ;rw[ua1 rfl]
    show (match kaU (t.drop (k + u + 1)) with
     | none => none
     | some (hi, lD) => if hi < lo then none else lsP f ((t.drop (k + u + 1)).drop lD) (orS S (kbg lo.toNat hi.toNat))) = _
    rcases kaU (t.drop (k+u+1)) with _|⟨hi,lD⟩
    .rfl
    .dsimp only;rw[us3]
   .rw[ua0 (by intro e;injection e with e;exact gJ e)];split
    .rename_i t' e;injection e with aL bJ;exact absurd aL gJ
    .rfl
structure SpSt (w wr:O) (S:LS):Prop where
 r:Blk wr w 296 (kab kad)
 o:Blk wr (w.heap.size+1) 296 (kab S)
 b:H w w wr
def SpSt.drewN {w wr:O} {S:LS} (h:SpSt w wr S) (n:Nat):SpSt w (wr.drewN n) S:=⟨h.r,h.o,kbm h.b n⟩
def kd9 (S:LS) (lo b:Nat):LS:=orS S (fun n=>decide (lo≤n)&&decide (n<b))
def kt2 (S:LS) (lo:Nat):kab (kd9 S lo lo)=kab S:=kdp fun i _=>by show (S i||(decide (lo≤i)&&decide (i<lo)))=S i;rw[show (decide (lo≤i)&&decide (i<lo))=J by simp,uq7]
def koq (S:LS) (lo hi:Nat):kd9 S lo (hi+1)=orS S (kbg lo hi):=by funext n;show (S n||(decide (lo≤n)&&decide (n<hi+1)))=(S n||(decide (lo≤n)&&decide (n≤hi)));rw[show decide (n<hi+1)=decide (n≤hi) from ul2.2 oM]
def kt3 (S:LS) (lo b:Nat) (ak:b<256) (az:lo≤b):(kab (kd9 S lo b)).setIfInBounds b (V K)=kab (kd9 S lo (b+1)):=by
 rw[kg6 _ _ ak];refine kdp fun n _=>?_;show (if n=b then K else (S n||(decide (lo≤n)&&decide (n<b))))=(S n||(decide (lo≤n)&&decide (n<b+1)));by_cases h:n=b
 .subst h;rw[ua1 rfl,show (decide (lo≤n)&&decide (n<n+1))=K by simp;omega,Bool.or_true]
 .rw[ua0 h,show decide (n<b+1)=decide (n<b) from ul2.2 oM]
def ko5 {P:Program} {mI:Func} {p q:Tmp} {ty:ah} (h:mI.results= #[.cell p ty, .tmp q]) (tmps:Array C) (w:O) (g:Nat) (t:ah) (cs:Array C) (xJ:Nat×Nat) (d:TypeDesc) (u:C)
 (aO:tmps.getD p undef=ab (N ⟨g,0,Z⟩)) (bj:tmps.getD q undef=u) (hg:w.heap[g]? =N (y cs t xJ))
 (aI:P.underlying ty=some d) (hd:(match d with| .struct _| .array _ _=>true|_=>false)=true) (hi:(P.info? ty).map (·.size)=some cs.size):
 (results mI tmps).run P w= .ok (ag #[aa cs,u]) w:=by
 have P3:tmps[p]?.getD undef=ab (N ⟨g,0,Z⟩):=(by simpa using aO);have P4:tmps[q]?.getD undef=u:=(by simpa using bj);simp[results,h,P3,P4,asAddr,run_loadVar_row w g t ty cs xJ d hg aI hd hi]
def kuY {mI:Func} {p q:Tmp} (h:mI.results= #[.cell p 296, .tmp q]) (tmps:Array C) (w:O) (g:Nat) (S:LS) (u:C) (aO:tmps.getD p undef=ab (N ⟨g,0,Z⟩)) (bj:tmps.getD q undef=u) (hg:Blk w g 296 (kab S)):
 (results mI tmps).run prog w= .ok (ag #[aa (kab S),u]) w:=ko5 h tmps w g 296 (kab S) (0,0) _ u aO bj hg underlying296 rfl (kbD S)
def klV:((prog).info? 296).map (·.size)=N (zeroCells296).size:=by rw[kci];exact kbD _
def kqE (t:List UInt8) (w:O) (dr:t.length≤262144):L prog 246 #[Q ⟨t.toArray⟩] w fun e w'=>e=ac (ag #[aa (kab (spR (lsP (t.length+1) t kad))),I U (spC (lsP (t.length+1) t kad))])∧H w w w':=by
 have dN:=bZ t;obtain ⟨R,aH⟩:=xE (lsP (t.length+1) t kad);rw[←aH];have a1:=hD aH;clear aH;go_enter func246,ntmps246;go_wp2_with fail;go_loopg [5] (t.length+1) (fun f v wr=>∃(k:Nat) (S:LS),v=I U k∧(k≤t.length∧t.length-k<f)∧Hz (lsP f (t.drop k) S=R)∧Hz (SpSt w wr S))
 case atStart=>
  refine ⟨0,kad,rfl,⟨oM,oM⟩,hD (by rw[ul4];exact a1.o.symm),hD ⟨?_,?_,?_⟩⟩
  .rw[←kci];exact (Blk.new w _ _).alloc _
  .have:=Blk.new (w.alloc (y zeroCells296 296)) 296 zeroCells296;rw[kci] at this ⊢;simpa using this
  .exact ((ub5 _ w).alloc (nR) _).alloc (by simp) _
 case round=>
  obtain ⟨k,S,rfl,⟨aw,fo⟩,cZ,cg⟩:=hrel;obtain ⟨f,rfl⟩:=xS gk;by_cases bG:k<t.length;rotate_left
  .obtain rfl:k=t.length:=oM;have bw:decide (((t.length:Nat):Int)<(t.length:Int))=J:=(by simp);have bH:=cZ.out;rw[um3 (nR),lsP] at bH;obtain rfl:=bH;obtain ⟨kQ,lR,pG,ho⟩:=hd4 cg.out.o cg.out.r (Blk.row (cs:=kab S) cg.out.r) (khG (cs:=kab S) (g:=w.heap.size) cg.out.b (nR));clear cg a1;(go_wp2_with (first|refine uk6 rfl 296 _ rfl (w.heap.size+1) rfl 296 (kab S) (0,0) _ kQ.o underlying296 rfl (kbD _) ?_|refine uk0 rfl 296 _ _ rfl w (kab S) rfl rfl 296 (kab kad) lR.o (kbD _) (by rw[kbd,kbd]) (kdq _) ?_));refine ub2 (kuY rfl _ _ _ _ _ rfl rfl pG.o) rfl ?_;exact ⟨rfl,ho.o⟩
  .have bw:decide ((k:Int)<(t.length:Int))=K:=(by simp;omega);have bq:=hD (kks (t:=t) (k:=k) wr oM dr);unfold GEl at bq;have bH:=cZ.out;rw[kzd bG] at bH;obtain ⟨cT,gd⟩:=xE wr;subst gd;rcases hA:kaU (t.drop k) with _|⟨lo,u⟩
   .rw[hA] at bH;obtain rfl:Z=R:=bH;rw[show elR t k=(-1,k) by unfold elR;rw[hA]] at bq;have gv:=hD cg.out;clear cg hA;go_wp2_with fail;refine bq.o.mono ?_;rintro e aq ⟨rfl,bD,rfl⟩;have j7:=hD (gv.o.drewN bD);obtain ⟨aq,aQ⟩:=xE (cT.drewN bD);rw[←aQ] at j7 ⊢;clear aQ gv bq;exact kl1
   .rw[hA] at bH;dsimp only at bH;have aI:=khn hA;rw[ud9] at aI;obtain ⟨k1,fZ⟩:=xE (k+u);rw[show elR t k=((lo.toNat:Int),k1) by unfold elR;rw[hA,fZ]] at bq;rw[←fZ] at bH;have gv:=hD cg.out;obtain ⟨Zx,Zy⟩:=u8b lo;have rZ:decide ((lo.toNat:Int)<0)=J:=(by simp);have Zz:k<k1:=oM;have ZA:k1≤t.length:=oM;clear cZ cg hA fZ;go_wp2_with fail;refine bq.o.mono ?_;rintro e aq ⟨rfl,bD,rfl⟩;have d3:=hD (gv.o.drewN bD);obtain ⟨aq,aQ⟩:=xE (cT.drewN bD);rw[←aQ] at d3 ⊢;clear aQ gv bq;rcases ax:t[k1]? with _|c
    .have aL:decide ((k1:Int)<(t.length:Int))=J:=(by have:=uc6.1 ax;simp;omega);have I7:¬(k1<t.length):=(by have:=uc6.1 ax;omega);rw[ax,ua0 (by simp)] at bH;have cp:=hD bH;clear ax bH;exact knd
    .have ew:=kaj ax;have aL:decide ((k1:Int)<(t.length:Int))=K:=(by simp;omega);have g4:=kaX (P:=prog) underlying9 ax;by_cases gJ:c=45;rotate_left
     .have bb:((c.toNat:Int)==45)=J:=kba (c:=45) gJ;rw[ax,ua0 (by intro e;injection e with e;exact gJ e)] at bH;have cp:=hD bH;clear ax bH gJ;exact knd
     .have bb:((c.toNat:Int)==45)=K:=(by rw[gJ];rfl);rw[ax,gJ,ua1 rfl] at bH;have bq:=hD (kks (t:=t) (k:=k1+1) aq oM dr);unfold GEl at bq;rw[show ((k1+1:Nat):Int)=(k1:Int)+1 by omega] at bq;clear ax gJ;rcases hA:kaU (t.drop (k1+1)) with _|⟨hi,lD⟩
      .rw[hA] at bH;obtain rfl:Z=R:=bH;rw[show elR t (k1+1)=(-1,k1+1) by unfold elR;rw[hA]] at bq;have dM:decide (-1<(lo.toNat:Int))=K:=(by simp;omega);clear hA;exact klQ
      .rw[hA] at bH;dsimp only at bH;have l2:=khn hA;rw[ud9] at l2;obtain ⟨bS,cu⟩:=xE (k1+1+lD);rw[show elR t (k1+1)=((hi.toNat:Int),bS) by unfold elR;rw[hA,cu]] at bq;rw[←cu] at bH;obtain ⟨ZB,ZC⟩:=u8b hi;have ZD:bS≤t.length:=oM;have ZE:k<bS:=oM;clear hA cu;by_cases nm:hi<lo
       .rw[ua1 nm] at bH;obtain rfl:Z=R:=bH;have dM:decide ((hi.toNat:Int)<(lo.toNat:Int))=K:=(by have:=ul3.1 nm;simp;omega);have ZF:hi.toNat<lo.toNat:=ul3.1 nm;clear nm;exact klQ
       .rw[ua0 nm] at bH;have dM:decide ((hi.toNat:Int)<(lo.toNat:Int))=J:=(by have:=mt ul3.2 nm;simp;omega);have ZG:lo.toNat≤hi.toNat:=(by have:=mt ul3.2 nm;omega);have cp:=hD bH;clear nm bH;go_wp2_with fail;refine bq.o.mono ?_;rintro e aF ⟨rfl,dP,rfl⟩;have ex:=hD (d3.o.drewN dP);obtain ⟨aF,bW⟩:=xE (aq.drewN dP);rw[←bW] at ex ⊢;clear bW d3 bq;have d3:=ex;clear ex;go_wp2_with fail;obtain ⟨P2,AN⟩:=xE aF;subst AN;have iB:=hD d3.o.r;have pr:=hD d3.o.b;clear a1;go_loopg [9] (hi.toNat+2-lo.toNat) (fun tf v9 wr=>∃ q:Nat,v9=I U q∧(q+tf=hi.toNat+2∧lo.toNat≤q∧q≤hi.toNat+1)∧Hz (SpSt w wr (kd9 S lo.toNat q)))
        case atStart=>exact kln
        case round=>
         obtain ⟨q,rfl,⟨jV,kZ,wF⟩,og⟩:=hrel;obtain ⟨tf,rfl⟩:=xS gk;by_cases Yo:q≤hi.toNat
         .have dM:decide ((q:Int)≤(hi.toNat:Int))=K:=(by simp;omega);exact kl2
         .obtain rfl:q=hi.toNat+1:=oM;have dM:decide (((hi.toNat+1:Nat):Int)≤(hi.toNat:Int))=J:=ua5 oM;have hv:=og.out;rw[koq] at hv;have bF:=hD hv;clear hv og d3 iB pr;go_wp2_with fail;go_roundg f
          case measure=>omega
          case rel=>exact ⟨bS,orS S (kbg lo.toNat hi.toNat),rfl,⟨oM,oM⟩,cp,bF⟩
def klr (h:P:=by refine ⟨rfl,?_⟩;have gM:=bq.o;rw[show (125:Int)=((125:UInt8).toNat:Int) from rfl,kcU] at gM ⊢;exact gM):=h
def kzF {T:List UInt8} {g k0:Nat} (w:O) (h:GS T w g k0 J) (dr:T.length≤262144) (jw:k0≤T.length):L prog 229 #[ab (N ⟨g,0,Z⟩)] w fun e w'=>
 e=ac (ag #[I .i64 (Gr.bnd T k0).1,I U (Gr.bnd T k0).2.1])∧GS T w' g (Gr.bnd T k0).2.2.1 (Gr.bnd T k0).2.2.2∧Kept (isG g) w w':=by
 obtain ⟨fG,cO⟩:=xE (Gr.bnd T k0);rw[←cO];unfold Gr.bnd at cO;have bx:=keZ (T:=T) k0 J;have bF:=hD (kq4 w h dr oM);obtain ⟨lo,k1,cL,jV⟩:∃ lo k1 cL,Gr.num T k0 J=(lo,k1,cL):=⟨_,_,_,rfl⟩;rw[jV] at cO bx bF;dsimp only at cO bx bF;have cf:=hD cO;clear h jV cO;go_enter func229,ntmps229;go_wp2_with fail;refine bF.o.mono ?_;rintro e aq ⟨rfl,gZ,fZ⟩;obtain ⟨d3,jd,de⟩:=hd3 gZ fZ (kdb aq gZ dr oM);clear gZ fZ bF;go_wp2_with fail;refine de.o.mono ?_;rintro e aF ⟨rfl,dP,rfl⟩;clear de;have ex:=hD (d3.o.drewN dP);have fS:=hD (jd.o.drewN dP);obtain ⟨aF,bW⟩:=xE (aq.drewN dP);rw[←bW] at ex fS ⊢;clear bW d3 jd;obtain ⟨aM,i1⟩:=xE (Gr.nx T k1);rw[←i1];by_cases nX:aM=44
 .have bb:((aM.toNat:Int)==44)=K:=(by rw[nX];rfl);have ew:k1<T.length:=kda (T:=T) (by rw[←i1,nX];decide);have cO:=cf.o;rw[←i1,ua1 nX] at cO;have gt:=hD cO;clear cO cf i1 nX;obtain ⟨aN,aW,bc,bE,c2⟩:=ex.o.cells;have eA:=hD (ex.o.go (k1+1));have fx:=hD (fS.o.setCell (p:=⟨g,1,Z⟩) (.inl rfl) (I U ((k1+1:Nat):Int)));obtain ⟨a6,cl⟩:=xE (aF.setCell ⟨g,1,Z⟩ (I U ((k1+1:Nat):Int)));rw[←cl] at eA fx;rw[show ((k1+1:Nat):Int)=(k1:Int)+1 by omega] at cl;have ea:=hD cl;clear cl;have de:=hD (kdb a6 eA.o dr oM);go_wp2_with fail;rw[←ea.o];refine de.o.mono ?_;rintro e aK ⟨rfl,hf,rfl⟩;clear de aN aW bc bE c2 ea;have fO:=hD (eA.o.drewN hf);have fR:=hD (fx.o.drewN hf);obtain ⟨aK,e3⟩:=xE (a6.drewN hf);rw[←e3] at fO fR ⊢;clear e3;obtain ⟨aZ,f6⟩:=xE (Gr.nx T (k1+1));rw[←f6];by_cases ko:aZ=125
  .have db:((aZ.toNat:Int) != 125)=J:=(by rw[ko];rfl);have kI:k1+1<T.length:=kda (T:=T) (by rw[←f6,ko];decide);have cO:=gt.o;rw[←f6,ua1 ko] at cO;have fX:=hD cO;have l3:=hD f6;clear cO gt f6 ko;obtain ⟨aN,aW,bc,bE,c2⟩:=fO.o.cells;have de:=hD (kdb aK fO.o dr oM);go_wp2_with fail;refine de.o.mono ?_;rintro e bm ⟨rfl,m3,rfl⟩;have gN:=hD (fO.o.drewN m3);have gL:=hD (fR.o.drewN m3);obtain ⟨bm,eM⟩:=xE (aK.drewN m3);rw[←eM] at gN gL ⊢;clear eM de aN aW bc bE c2;obtain ⟨aN,aW,bc,bE,c2⟩:=gN.o.cells;rw[←l3.o];cases cL
   .have cO:=fX.o;have aG:=gN.o.end gL.o J (k1+2);rw[show ((k1+2:Nat):Int)=(k1:Int)+1+1 by omega] at aG;have bq:=hD aG;clear cO aG;go_wp2_with fail;go_ret2
    rw[fX.o];exact ⟨rfl,bq.o⟩
   .have aG:=gN.o.end gL.o K (k1+2);rw[show ((k1+2:Nat):Int)=(k1:Int)+1+1 by omega] at aG;have bq:=hD aG;clear aG;go_wp2_with fail;go_ret2
    rw[fX.o];exact ⟨rfl,bq.o⟩
  .have db:((aZ.toNat:Int) != 125)=K:=(by rw[show (125:Int)=((125:UInt8).toNat:Int) from rfl,kcU];exact uk2.2 ko);have cO:=gt.o;rw[←f6,ua0 ko] at cO;have et:=keZ (T:=T) (k1+1) cL;have bF:=hD (kq4 aK fO.o dr oM);obtain ⟨hi,bS,fH,kZ⟩:∃ hi bS fH,Gr.num T (k1+1) cL=(hi,bS,fH):=⟨_,_,_,rfl⟩;rw[kZ] at cO et bF;dsimp only at cO et bF;obtain ⟨bC,pB⟩:=xE (Gr.nx T bS);rw[←pB] at cO;have fX:=hD cO;have na:=hD pB;clear cO gt f6 pB ko kZ;go_wp2_with fail;refine bF.o.mono ?_;rintro e bm ⟨rfl,mX,gQ⟩;have gN:=hD mX;have gL:=hD (fR.o.maa gQ);clear mX gQ bF fO fR;obtain ⟨aN,aW,bc,bE,c2⟩:=gN.o.cells;obtain ⟨g6,b3⟩:=xE ((fH||decide (hi<lo)));rw[←b3] at fX;have lr:=hD (gN.o.mark g6);have iC:=hD (gL.o.setCell (p:=⟨g,2,Z⟩) (.inl rfl) (V g6));obtain ⟨du,hp⟩:=xE (bm.setCell ⟨g,2,Z⟩ (V g6));rw[←hp] at lr iC;have de:=hD (kdb du lr.o dr oM)
   have bv:g6=if fH=K then K else decide (hi<lo):=by
    rw[b3];cases fH
    .rw[ua0 dC,uk9]
    .rfl
   have bU:=hD bv;have tg:=hD hp;clear b3 bv hp;cases fH
   all_goals
    have bv:=bU.o;(first|rw[ua1 rfl] at bv|rw[ua0 dC] at bv);have hp:=tg.o;rw[bv] at hp;have qw:=hD hp;clear hp bv;go_wp2_with fail;rw[←qw.o];refine de.o.mono ?_;rintro e dl ⟨rfl,pz,rfl⟩;have r5:=hD (lr.o.drewN pz);have mz:=hD (iC.o.drewN pz);obtain ⟨dl,hB⟩:=xE (du.drewN pz);rw[←hB] at r5 mz ⊢;clear hB de aN aW bc bE c2 qw tg bU;obtain ⟨aN,aW,bc,bE,c2⟩:=r5.o.cells;rw[←na.o];cases g6
    .have aG:=r5.o.end mz.o ((bC.toNat:Int) != 125) (bS+1);rw[show ((bS+1:Nat):Int)=(bS:Int)+1 by omega] at aG;have bq:=hD aG;clear aG;go_wp2_with fail;go_ret2
     rw[fX.o];exact klr
    .have aG:=r5.o.end mz.o K (bS+1);rw[show ((bS+1:Nat):Int)=(bS:Int)+1 by omega] at aG;have bq:=hD aG;clear aG;go_wp2_with fail;go_ret2
     rw[fX.o];exact ⟨rfl,bq.o⟩
 .have bb:((aM.toNat:Int)==44)=J:=kba (c:=44) nX;have cO:=cf.o;rw[←i1,ua0 nX] at cO;have gt:=hD cO;have n9:=hD i1;clear cO cf i1;obtain ⟨aN,aW,bc,bE,c2⟩:=ex.o.cells;have de:=hD (kdb aF ex.o dr oM);go_wp2_with fail;refine de.o.mono ?_;rintro e a6 ⟨rfl,li,rfl⟩;have eA:=hD (ex.o.drewN li);have fx:=hD (fS.o.drewN li);obtain ⟨a6,cl⟩:=xE (aF.drewN li);rw[←cl] at eA fx ⊢;clear cl de aN aW bc bE c2;obtain ⟨aN,aW,bc,bE,c2⟩:=eA.o.cells;rw[←n9.o];cases cL
  .have aG:=eA.o.end fx.o ((aM.toNat:Int) != 125) (k1+1);rw[show ((k1+1:Nat):Int)=(k1:Int)+1 by omega] at aG;have bq:=hD aG;clear aG;go_wp2_with fail;go_ret2
   rw[gt.o];exact klr
  .have aG:=eA.o.end fx.o K (k1+1);rw[show ((k1+1:Nat):Int)=(k1:Int)+1 by omega] at aG;have bq:=hD aG;clear aG;go_wp2_with fail;go_ret2
   rw[gt.o];exact ⟨rfl,bq.o⟩
def kmz (h:P:=by
 clear EC tj;go_enter func238,ntmps238;go_upto_region 1 with (fail);rw[←cd.o];go_wp2_with fail;go_loopg [5] (T.length+1) (fun f v wr=>∃ e:Nat,v=I U e∧(F≤e∧e≤T.length+1∧T.length+1-e<f)∧Hz (ka7 T f e=ti)∧aq=wr)
 case atStart=>exact ⟨F,ud4 (I U) oM,⟨nR,oM,oM⟩,hD ic.o.symm,rfl⟩
 first
 |guard_hyp P9
  first
  |guard_hyp Qc
   case round=>
    obtain ⟨e,rfl,⟨Jn,ir,y3⟩,ce,rfl⟩:=hrel;obtain ⟨f,rfl⟩:=xS gk;have hS:=ce.out;rw[ka7] at hS;rcases ak:T[e]? with _|b
    .exact kie
    .have az:=kaj ak;exact absurd az oM
  |obtain ⟨e,rfl,⟨Jn,ir,y3⟩,ce,rfl⟩:=hrel;obtain ⟨f,rfl⟩:=xS gk;have hS:=ce.out;rw[ka7] at hS;rcases ak:T[e]? with _|b
   .exact kie
   .have az:=kaj ak;have rZ:decide ((e:Int)<(T.length:Int))=K:=ub3 oM;have dM:decide ((T.length:Int)≤(e:Int))=J:=ua5 oM;have g4:=kaX (P:=prog) underlying9 ak;rw[ak] at hS;dsimp only at hS;by_cases ny:b=93
    .have P5:=();exact kmH
    exact klX
 |obtain ⟨e,rfl,⟨Jn,ir,y3⟩,ce,rfl⟩:=hrel;obtain ⟨f,rfl⟩:=xS gk;have hS:=ce.out;rw[ka7] at hS;rcases ak:T[e]? with _|b
  .exact kie
  .have az:=kaj ak;have rZ:decide ((e:Int)<(T.length:Int))=K:=ub3 oM;have dM:decide ((T.length:Int)≤(e:Int))=J:=ua5 oM;have g4:=kaX (P:=prog) underlying9 ak;rw[ak] at hS;dsimp only at hS;by_cases ny:b=93
   .exact kmH
   exact klX):=h
def kmy (h:P:=by
 rw[←eM] at hX cQ pH;rw[show ((e+1:Nat):Int)=(e:Int)+1 by omega] at eM;obtain ⟨gN,gL,cN,dQ,g9,Jo⟩:=hd6 hX.1 hX.2 cQ pH eM ia;clear hX cQ pH eM ia EA fO fR cA da
 first
 |guard_hyp P6
  first
  |guard_hyp Qb;go_upto_region 17 with (first|(rw[←ea.o,←ev.o];refine uk0 rfl 296 _ _ rfl B (kab S) rfl rfl 296 zeroCells296 bU.o (kbD _) (by rw[kbd,kci,kbd]) (kdq _) ?_;rw[←k3.o]))
   rw[←g9.o];clear aN aM aZ bE c2 bU ea k3 g9 ev;have uX:=hD (kkp S bm);(go_wp2_with (first|refine uk6 rfl 296 _ rfl B rfl 296 (kab S) (0,0) _ cN.o underlying296 rfl (kbD _) ?_));refine uX.o.mono ?_;rintro cG du ⟨rfl,eu⟩;obtain ⟨lr,hC,iC,f1⟩:=hd4 (gN.o.below eu) (dQ.o.below eu dQ.o.lt) (gL.o.maa (Kept.of_below eu)) (Blk.below cN.o eu (Blk.lt cN.o));have f2:=hD (Blk.row (cs:=kab (kah S)) f1.o);have r5:=hD (show GS T (du.setRow B (kab (kah S))) g (e+1) K from Blk.mbL lr.o oM);exact kmX
  |go_upto_region 18 with (first|(rw[←ea.o,←ev.o];refine uk0 rfl 296 _ _ rfl B (kab S) rfl rfl 296 zeroCells296 bU.o (kbD _) (by rw[kbd,kci,kbd]) (kdq _) ?_;rw[←k3.o]))
   rw[←g9.o];clear aN aM aZ bE c2 bU ea k3 g9 ev;have nL:=hD (kf6 S bm);have jF:=fun (w':O) (F:Nat→Prop)=>keX w' F S;obtain ⟨aT,ht⟩:=xE (wd S 0);obtain ⟨aU,iZ⟩:=xE (wd S 1);obtain ⟨aX,g5⟩:=xE (wd S 2);obtain ⟨a2,i0⟩:=xE (wd S 3);rw[←ht,←iZ,←g5,←i0] at nL;simp only[←ht,←iZ,←g5,←i0] at jF;have uY:=hD jF;clear jF ht iZ g5 i0;(go_wp2_with (first|refine uk6 rfl 296 _ rfl B rfl 296 (kab S) (0,0) _ cN.o underlying296 rfl (kbD _) ?_));refine nL.o.mono ?_;rintro cG gx ⟨rfl,gn⟩;obtain ⟨th,h9,rc⟩:=hd3 (gN.o.below gn) (dQ.o.below gn dQ.o.lt) (gL.o.maa (Kept.of_below gn));clear gn nL gN dQ gL;exact kez
 |go_upto_region 17 with (first|(rw[←ea.o,←ev.o];refine uk0 rfl 296 _ _ rfl B (kab S) rfl rfl 296 zeroCells296 bU.o (kbD _) (by rw[kbd,kci,kbd]) (kdq _) ?_;rw[←k3.o]))
  rw[←g9.o];clear aN aM aZ bE c2 bU ea k3 g9 ev;have uX:=hD (kkp S bm);(go_wp2_with (first|refine uk6 rfl 296 _ rfl B rfl 296 (kab S) (0,0) _ cN.o underlying296 rfl (kbD _) ?_));refine uX.o.mono ?_;rintro cG du ⟨rfl,eu⟩;obtain ⟨lr,hC,iC,f1⟩:=hd4 (gN.o.below eu) (dQ.o.below eu dQ.o.lt) (gL.o.maa (Kept.of_below eu)) (Blk.below cN.o eu (Blk.lt cN.o));have f2:=hD (Blk.row (cs:=kab (kah S)) f1.o);have r5:=hD (show GS T (du.setRow B (kab (kah S))) g (e+1) J from Blk.mbL lr.o oM);exact kmX):=h
def kmI (h:P:=by subst nn;have hX:=fO.o.end fR.o K (e+1);have cQ:Blk ((aK.setCell ⟨g,2,Z⟩ (V K)).setCell ⟨g,1,Z⟩ (I U ((e+1:Nat):Int))) B 296 (kab S):=Blk.far (Blk.far cA.o (p:=⟨g,2,Z⟩) (by show B≠g;omega) _) (p:=⟨g,1,Z⟩) (by show B≠g;omega) _;have pH:R8 ((aK.setCell ⟨g,2,Z⟩ (V K)).setCell ⟨g,1,Z⟩ (I U ((e+1:Nat):Int))) w (I U 0) (I Y 0) (I Y 0) (I Y 0) (I Y 0) (I U 0) (I U 0) (D Z 0 0):=Blk.far (Blk.far da.o (p:=⟨g,2,Z⟩) (by show w.heap.size≠g;omega) _) (p:=⟨g,1,Z⟩) (by show w.heap.size≠g;omega) _;obtain ⟨bm,eM⟩:=xE ((aK.setCell ⟨g,2,Z⟩ (V K)).setCell ⟨g,1,Z⟩ (I U ((e+1:Nat):Int)));have P6:=();exact kmy):=h
def kmH (h:P:=by
 have bb:((b.toNat:Int)==93)=K:=(by rw[ny];rfl);have db:((b.toNat:Int) != 93)=J:=(by rw[ny];rfl);rw[ua1 ny] at hS;have re:ti=N (e+1):=hS.symm;clear ce hS ak ny;have ia:=ls.o (e+1) re;rw[show e+1-1-F+1=e-F+1 by omega,show e+1-1-F=e-F by omega] at ia;obtain ⟨t',h4⟩:=xE ((T.drop F).take (e-F));have Jp:t'.length=e-F:=(by rw[h4,ub8,ud9];omega);rw[←h4,←Jp] at ia;have mc:=fun W=>ki5 T F e oM oM W;rw[←h4] at mc
 first
 |guard_hyp P5;rw[show (F:Int)=(k:Int)+1 by omega] at mc;obtain ⟨cY,iD⟩:=xE (lsP (t'.length+1) t' kad);have m5:=hD (kqE t' aq oM);rw[←iD] at m5 ia;obtain ⟨S,dO⟩:=xE (spR cY);obtain ⟨jO,kL⟩:=xE (spC cY);rw[←dO,←kL] at m5
  have q9:(jO=0∧Gr.cls T k=(Rx.set (S),e+1,J))∨(jO=4∧Gr.cls T k=(Rx.set (S),e+1,K)):=by
   rw[ia,dO,kL];rcases cY with _|qP
   .exact .inr ⟨rfl,rfl⟩
   .exact .inl ⟨rfl,rfl⟩
  exact kno
 |rw[show (F:Int)=(k:Int)+1+1 by omega] at mc;obtain ⟨cY,iD⟩:=xE (lsP (t'.length+1) t' kad);have m5:=hD (kqE t' aq oM);rw[←iD] at m5 ia;obtain ⟨S,dO⟩:=xE (spR cY);obtain ⟨jO,kL⟩:=xE (spC cY);rw[←dO,←kL] at m5
  have q9:(jO=0∧Gr.cls T k=(Rx.set (kah S),e+1,J))∨(jO=4∧Gr.cls T k=(Rx.set (kah S),e+1,K)):=by
   rw[ia,dO,kL];rcases cY with _|qP
   .exact .inr ⟨rfl,rfl⟩
   .exact .inl ⟨rfl,rfl⟩
  have P7:=();exact kno):=h
def kmX (h:P:=by
 have o0:=hD (show R8 (du.setRow B (kab (kah S))) w (I U 0) (I Y 0) (I Y 0) (I Y 0) (I Y 0) (I U 0) (I U 0) (D Z 0 0) from Blk.mbL hC.o oM);have mz:=hD (kqq (cs:=kab (kah S)) (g:=B) iC.o oM);obtain ⟨dl,hB⟩:=xE (du.setRow B (kab (kah S)));rw[←hB] at f2 r5 o0 mz;have qw:=hD hB;clear hB eu uX gN dQ gL cN lr hC iC;go_upto_region 18 with (first|(refine uk0 rfl 296 _ _ rfl B (kab (kah S)) rfl rfl 296 (kab S) f1.o (kbD _) (by rw[kbd,kbd]) (kdq _) ?_))
 rw[←qw.o];have nL:=hD (kf6 (kah S) dl);have jF:=fun (w':O) (F:Nat→Prop)=>keX w' F (kah S);obtain ⟨aT,ht⟩:=xE (wd (kah S) 0);obtain ⟨aU,iZ⟩:=xE (wd (kah S) 1);obtain ⟨aX,g5⟩:=xE (wd (kah S) 2);obtain ⟨a2,i0⟩:=xE (wd (kah S) 3);rw[←ht,←iZ,←g5,←i0] at nL;simp only[←ht,←iZ,←g5,←i0] at jF;have uY:=hD jF;clear jF ht iZ g5 i0;(go_wp2_with (first|refine uk6 rfl 296 _ rfl B rfl 296 (kab (kah S)) (0,0) _ f2.o underlying296 rfl (kbD _) ?_));refine nL.o.mono ?_;rintro cG gx ⟨rfl,gn⟩;obtain ⟨th,h9,rc⟩:=hd3 (r5.o.below gn) (o0.o.below gn o0.o.lt) (mz.o.maa (Kept.of_below gn));clear gn nL r5 o0 mz;exact kez):=h
def kmT (h:P:=by
 have P8:(F:Int)=(k:Int)+1:=oM
 have ls := hD (fun (e : Nat) (aG : ti = N e) => show Gr.cls T k = match lsP (e - 1 - F + 1) ((T.drop F).take (e - 1 - F)) kad with
   | none => (Rx.set (kad), e, true)
   | some S => (Rx.set (S), e, false) by
  have := EC.o e aG
  rw [this]
  rcases lsP (e - 1 - F + 1) ((T.drop F).take (e - 1 - F)) kad with _ | qP <;> (dsimp only; rw [ua0 tj.o]))
 have P9:=();exact kmz):=h
def kno (h:P:=by
 have EA:=hD q9;clear ia h4 Jp iD dO kL q9 ls re;go_wp2_with fail;refine m5.o.mono ?_;rintro cG aF ⟨rfl,bs⟩;obtain ⟨ex,co,fS⟩:=hd3 (d3.o.below bs) (dI.o.below bs dI.o.lt) (jd.o.maa (Kept.of_below bs));have Qa:w.heap.size<aF.heap.size:=ua7 fy bs.size;clear bs m5 d3 dI jd mc;obtain ⟨eA,cX,fx⟩:=hd3 (ex.o.alloc (y zeroCells296 296)) (co.o.alloc (y zeroCells296 296)) (fS.o.alloc (y zeroCells296 296));have iM:=Blk.new aF 296 zeroCells296;obtain ⟨a6,cl⟩:=xE (aF.alloc (y zeroCells296 296));obtain ⟨B,b0⟩:=xE aF.heap.size;rw[←cl,←b0] at iM;rw[←cl] at eA cX fx;rw[←b0] at Qa;have bU:=hD iM;have wG:g<B:=(by rw[b0];exact ex.o.lt);obtain ⟨cA,fO,da,fR⟩:=hd4 (Blk.row (cs:=kab S) iM) (show GS T (a6.setRow B (kab S)) g k J from Blk.mbL eA.o oM) (show R8 (a6.setRow B (kab S)) w (I U 0) (I Y 0) (I Y 0) (I Y 0) (I Y 0) (I U 0) (I U 0) (D Z 0 0) from Blk.mbL cX.o oM) (kqq (cs:=kab S) (g:=B) fx.o oM);obtain ⟨aK,e3⟩:=xE (a6.setRow B (kab S));rw[←e3] at cA fO da fR;obtain ⟨ea,k3,ev⟩:=hd3 cl e3 b0;obtain ⟨aN,aM,aZ,bE,c2⟩:=fO.o.cells;clear cl e3 b0 iM ex co fS eA cX fx;rcases EA.o with ⟨nn,ia⟩|⟨nn,ia⟩
 first
 |guard_hyp P7
  .subst nn;have hX:=fO.o.end fR.o J (e+1);have cQ:Blk ((aK.setCell ⟨g,2,Z⟩ (V J)).setCell ⟨g,1,Z⟩ (I U ((e+1:Nat):Int))) B 296 (kab S):=Blk.far (Blk.far cA.o (p:=⟨g,2,Z⟩) (by show B≠g;omega) _) (p:=⟨g,1,Z⟩) (by show B≠g;omega) _;have pH:R8 ((aK.setCell ⟨g,2,Z⟩ (V J)).setCell ⟨g,1,Z⟩ (I U ((e+1:Nat):Int))) w (I U 0) (I Y 0) (I Y 0) (I Y 0) (I Y 0) (I U 0) (I U 0) (D Z 0 0):=Blk.far (Blk.far da.o (p:=⟨g,2,Z⟩) (by show w.heap.size≠g;omega) _) (p:=⟨g,1,Z⟩) (by show w.heap.size≠g;omega) _;obtain ⟨bm,eM⟩:=xE ((aK.setCell ⟨g,2,Z⟩ (V J)).setCell ⟨g,1,Z⟩ (I U ((e+1:Nat):Int)));exact kmy
  .have Qb:=();exact kmI
 |.subst nn;have hX:=fO.o.end fR.o J (e+1);have cQ:Blk ((aK.setCell ⟨g,2,Z⟩ (V J)).setCell ⟨g,1,Z⟩ (I U ((e+1:Nat):Int))) B 296 (kab S):=Blk.far (Blk.far cA.o (p:=⟨g,2,Z⟩) (by show B≠g;omega) _) (p:=⟨g,1,Z⟩) (by show B≠g;omega) _;have pH:R8 ((aK.setCell ⟨g,2,Z⟩ (V J)).setCell ⟨g,1,Z⟩ (I U ((e+1:Nat):Int))) w (I U 0) (I Y 0) (I Y 0) (I Y 0) (I Y 0) (I U 0) (I U 0) (D Z 0 0):=Blk.far (Blk.far da.o (p:=⟨g,2,Z⟩) (by show w.heap.size≠g;omega) _) (p:=⟨g,1,Z⟩) (by show w.heap.size≠g;omega) _;obtain ⟨bm,eM⟩:=xE ((aK.setCell ⟨g,2,Z⟩ (V J)).setCell ⟨g,1,Z⟩ (I U ((e+1:Nat):Int)));rw[←eM] at hX cQ pH;rw[show ((e+1:Nat):Int)=(e:Int)+1 by omega] at eM;obtain ⟨gN,gL,cN,dQ,g9,Jo⟩:=hd6 hX.1 hX.2 cQ pH eM ia;clear hX cQ pH eM ia EA fO fR cA da;go_upto_region 18 with (first|(rw[←ea.o,←ev.o];refine uk0 rfl 296 _ _ rfl B (kab S) rfl rfl 296 zeroCells296 bU.o (kbD _) (by rw[kbd,kci,kbd]) (kdq _) ?_;rw[←k3.o]))
   rw[←g9.o];clear aN aM aZ bE c2 bU ea k3 g9 ev;have nL:=hD (kf6 S bm);have jF:=fun (w':O) (F:Nat→Prop)=>keX w' F S;obtain ⟨aT,ht⟩:=xE (wd S 0);obtain ⟨aU,iZ⟩:=xE (wd S 1);obtain ⟨aX,g5⟩:=xE (wd S 2);obtain ⟨a2,i0⟩:=xE (wd S 3);rw[←ht,←iZ,←g5,←i0] at nL;simp only[←ht,←iZ,←g5,←i0] at jF;have uY:=hD jF;clear jF ht iZ g5 i0;(go_wp2_with (first|refine uk6 rfl 296 _ rfl B rfl 296 (kab S) (0,0) _ cN.o underlying296 rfl (kbD _) ?_));refine nL.o.mono ?_;rintro cG gx ⟨rfl,gn⟩;obtain ⟨th,h9,rc⟩:=hd3 (gN.o.below gn) (dQ.o.below gn dQ.o.lt) (gL.o.maa (Kept.of_below gn));clear gn nL gN dQ gL;exact kez
  .exact kmI):=h
def kez (h:P:=by obtain ⟨⟨⟨r0,d5⟩,fM,jM⟩,⟨rH,nC⟩,rI,nD⟩:=h9.o.cells;obtain ⟨⟨⟨z0,ca⟩,cI,z3⟩,⟨z4,z5⟩,lN,lO⟩:=h9.o.free;obtain ⟨f4,jB,iP⟩:=hd3 (h9.o.all (I U 2) (I Y aT) (I Y aU) (I Y aX) (I Y a2) (I U 0) (I U 0) (D Z 0 0)) (show GS T (mae gx w (I U 2) (I Y aT) (I Y aU) (I Y aX) (I Y a2) (I U 0) (I U 0) (D Z 0 0)) g _ _ from Blk.mae th.o oM (I U 2) (I Y aT) (I Y aU) (I Y aX) (I Y a2) (I U 0) (I U 0) (D Z 0 0)) (kas rc.o (.inr (uf1 w)) (I U 2) (I Y aT) (I Y aU) (I Y aX) (I Y a2) (I U 0) (I U 0) (D Z 0 0));go_wp2_with fail;obtain ⟨⟨⟨bi,aW⟩,bc,br⟩,⟨bL,d0⟩,d1,d2⟩:=f4.o.cells;unfold mae at bi aW bc br bL d0 d1 d2;first|guard_hyp ED;refine ub2 (v:=aa #[I .i64 2,I Y aT,I Y aU,I Y aX,I Y a2,I U 0,I U 0,D Z 0 0]) (by simp[results,results228,go_sem,bi,aW,bc,br,bL,d0,d1,d2]) rfl ?_;rw[cf.o];exact ⟨_,rfl,uY.o _ _,jB.o,iP.o⟩|refine ub2 (v:=aa #[I .i64 2,I Y aT,I Y aU,I Y aX,I Y a2,I U 0,I U 0,D Z 0 0]) (by simp[results,results238,go_sem,bi,aW,bc,br,bL,d0,d1,d2]) rfl ?_;rw[Jo.o];exact ⟨_,rfl,uY.o _ _,jB.o,iP.o⟩):=h
def kie (h:P:=by rw[ak] at hS;have re:ti=Z:=hS.symm;have az:=uc6.1 ak;have rZ:decide ((e:Int)<(T.length:Int))=J:=ua5 oM;have ZH:¬(e<T.length):=oM;have dM:decide ((T.length:Int)≤(e:Int))=K:=ub3 oM;clear ce hS ak;have ia:=ji.o re;have EB:=hD ia;have Jq:=hD (d3.o.mark K);have BV:=hD (show R8 (aq.setCell ⟨g,2,Z⟩ (V K)) w (I U 0) (I Y 0) (I Y 0) (I Y 0) (I Y 0) (I U 0) (I U 0) (D Z 0 0) from Blk.far dI.o (p:=⟨g,2,Z⟩) (by show w.heap.size≠g;omega) _);have Jr:=hD (jd.o.setCell (p:=⟨g,2,Z⟩) (.inl rfl) (V K));obtain ⟨aF,bW⟩:=xE (aq.setCell ⟨g,2,Z⟩ (V K));rw[←bW] at Jq BV Jr;have e1:=hD bW;clear ia bW ls ji re;go_upto_region 12 with (fail);rw[←e1.o];clear aN aM aZ bE c2;obtain ⟨⟨⟨r0,d5⟩,fM,jM⟩,⟨rH,nC⟩,rI,nD⟩:=BV.o.cells;obtain ⟨⟨⟨z0,ca⟩,cI,z3⟩,⟨z4,z5⟩,lN,lO⟩:=BV.o.free;obtain ⟨f4,jB,iP⟩:=hd3 (BV.o.all (I U 0) (I Y 0) (I Y 0) (I Y 0) (I Y 0) (I U 0) (I U 0) (D Z 0 0)) (show GS T (mae aF w (I U 0) (I Y 0) (I Y 0) (I Y 0) (I Y 0) (I U 0) (I U 0) (D Z 0 0)) g _ _ from Blk.mae Jq.o oM (I U 0) (I Y 0) (I Y 0) (I Y 0) (I Y 0) (I U 0) (I U 0) (D Z 0 0)) (kas Jr.o (.inr (uf1 w)) (I U 0) (I Y 0) (I Y 0) (I Y 0) (I Y 0) (I U 0) (I U 0) (D Z 0 0));go_wp2_with fail;obtain ⟨⟨⟨bi,aW⟩,bc,br⟩,⟨bL,d0⟩,d1,d2⟩:=f4.o.cells;unfold mae at bi aW bc br bL d0 d1 d2;refine ub2 (v:=aa #[I .i64 0,I Y 0,I Y 0,I Y 0,I Y 0,I U 0,I U 0,D Z 0 0]) (by simp[results,results238,go_sem,bi,aW,bc,br,bL,d0,d1,d2]) rfl ?_;rw[EB.o];exact ⟨_,rfl,kkf _ _,jB.o,iP.o⟩):=h
def klX (h:P:=by
 have bb:((b.toNat:Int)==93)=J:=kba (c:=93) ny;have db:((b.toNat:Int) != 93)=K:=(by rw[show (93:Int)=((93:UInt8).toNat:Int) from rfl,kcU];exact uk2.2 ny);rw[ua0 ny] at hS;by_cases hs:b=92
 .have t3:((b.toNat:Int)==92)=K:=(by rw[hs];rfl);rw[ua1 hs] at hS
  have cp:=hD (show ka7 T f (e+2)=ti by
   rcases af:T[e+1]? with _|cL
   .rw[af] at hS;rw[←hS];have ew:=uc6.1 af
    cases f with
    |zero=>rfl
    |succ f=>rw[ka7,ud5 oM]
   .rw[af] at hS;exact hS)
  clear ce hS ak hs ny;go_wp2_with fail;go_roundg f
  case measure=>omega
  case rel=>exact ⟨e+2,ud4 (I U) oM,⟨oM,oM,oM⟩,cp,rfl⟩
 .have t3:((b.toNat:Int)==92)=J:=kba (c:=92) hs;rw[ua0 hs] at hS;have cp:=hD hS;clear ce hS ak hs ny;go_wp2_with fail;go_roundg f
  case measure=>omega
  case rel=>exact ⟨e+1,ud4 (I U) oM,⟨oM,oM,oM⟩,cp,rfl⟩):=h
def grg (a b:Nat):Nat→Prop:=fun i=>a≤i∧i<b
def kdi (T:List UInt8) (w:O) (g:Nat) (r:Rx×Nat×Bool) (e:Ending) (w':O):Prop:=∃ cs,e=ac (aa cs.toArray)∧RxV w' (grg w w'.heap.size) r.1 cs∧GS T w' g r.2.1 r.2.2∧Kept (isG g) w w'
def keX (w:O) (F:Nat→Prop) (S:LS):RxV w F (Rx.set S) [I .i64 2,I Y (wd S 0),I Y (wd S 1),I Y (wd S 2),I Y (wd S 3),I U 0,I U 0,D Z 0 0]:=by unfold Rx.set RxV RxVs;exact kgs
def kkf (w:O) (F:Nat→Prop):RxV w F Gr.mbN [I .i64 0,I Y 0,I Y 0,I Y 0,I Y 0,I U 0,I U 0,D Z 0 0]:=by unfold Gr.mbN RxV RxVs;exact kgs
def kyZ {T:List UInt8} {k F:Nat} (hF:F=if T[k+1]? =N 94 then k+2 else k+1) (h:ka7 T (T.length+1) F=Z):Gr.cls T k=(Gr.mbN,k,K):=by subst hF;unfold Gr.cls;dsimp only;rw[h]
theorem kyY {T:List UInt8} {k F e:Nat} (hF:F=if T[k+1]? =N 94 then k+2 else k+1) (h:ka7 T (T.length+1) F=N e):Gr.cls T k=match lsP (e-1-F+1) ((T.drop F).take (e-1-F)) kad with
 |none=>(Rx.set (if T[k+1]? =some 94 then kah kad else kad),e,true)
 |some S=>(Rx.set (if T[k+1]? =some 94 then kah S else S),e,false):=by
 subst hF;unfold Gr.cls;dsimp only;rw[h];try rfl
def kcZ {w w':O} {aR F G:Nat→Prop} {r:Rx} {cs:List C} (h:RxV w F r cs) (k:Kept aR w w') (hd:∀ i,F i→i<w.heap.size→¬aR i) (el:∀ i,F i→i<w.heap.size→G i):RxV w' G r cs:=
 RxV.keep (fun i hi az=>k.block i az (hd i hi az)) k.size el r cs h
def kqq {F:Nat→Prop} {w w':O} {g:Nat} {cs:Array C} (h:Kept F w w') (hg:w.heap.size≤g):Kept F w (w'.setRow g cs):=
 h.trans ⟨rfl,rfl,rfl,by rw[setRow_size];exact nR,fun i _ hF=>setRow_other w' g i cs fun e=>by subst e;exact hF (.inr hg)⟩
def GS.below {T:List UInt8} {w w':O} {g k:Nat} {b:Bool} (h:GS T w g k b) (ak:H w w w'):GS T w' g k b:=Blk.below h ak h.lt
def kzD {T:List UInt8} {g k:Nat} (w:O) (h:GS T w g k J) (dr:T.length≤262144) (aw:k<T.length):L prog 238 #[ab (N ⟨g,0,Z⟩)] w (kdi T w g (Gr.cls T k)):=by
 have dN:=bZ T;have hg:=h.lt;obtain ⟨d3,dI,jd⟩:=hd3 (h.alloc (y #[I .i64 0,I Y 0,I Y 0,I Y 0,I Y 0,I U 0,I U 0,D Z 0 0] 105)) (R8.mk0 w w rfl) ((Kept.refl (isG g) w).alloc (y #[I .i64 0,I Y 0,I Y 0,I Y 0,I Y 0,I U 0,I U 0,D Z 0 0] 105));obtain ⟨aq,aQ⟩:=xE (w.alloc (y #[I .i64 0,I Y 0,I Y 0,I Y 0,I Y 0,I U 0,I U 0,D Z 0 0] 105));rw[←aQ] at d3 dI jd;have fy:w.heap.size<aq.heap.size:=(by rw[aQ];simp);have cd:=hD aQ;obtain ⟨F,hF⟩:=xE (if T[k+1]? =N 94 then k+2 else k+1)
 have ZI:k<F∧F≤T.length+1:=by
  rw[hF];split
  .rename_i af;have:=kaj af;omega
  .omega
 obtain ⟨ti,re⟩:=xE (ka7 T (T.length+1) F);obtain ⟨ic,ji,EC⟩:=hd3 re (fun (e:ti=Z)=>kyZ hF (re.symm.trans e)) (fun (e:Nat) (aG:ti=N e)=>kyY hF (re.symm.trans aG));obtain ⟨aN,aM,aZ,bE,c2⟩:=d3.o.cells;clear h aQ re;rcases af:T[k+1]? with _|c
 .have bw:decide ((k:Int)+1<(T.length:Int))=J:=ua5 (by have:=uc6.1 af;omega);have ZJ:¬(k+1<T.length):=(by have:=uc6.1 af;omega);have tj:Hz (¬T[k+1]? =N 94):=hD (by rw[af];simp);rw[ua0 tj.o] at hF;clear af;have Qc:=();exact kmT
 have qe:=kaj af;have bw:decide ((k:Int)+1<(T.length:Int))=K:=ub3 oM;have Qd:=kaX (P:=prog) underlying9 af;rw[show ((k+1:Nat):Int)=(k:Int)+1 by omega] at Qd;by_cases xR:c=94
 .have t0:((c.toNat:Int)==94)=K:=(by rw[xR];try rfl);have tj:Hz (T[k+1]? =N 94):=hD (by rw[af,xR]);rw[ua1 tj.o] at hF;clear af xR;have P8:(F:Int)=(k:Int)+1+1:=oM
  have ls := hD (fun (e : Nat) (aG : ti = N e) => show Gr.cls T k = match lsP (e - 1 - F + 1) ((T.drop F).take (e - 1 - F)) kad with
    | none => (Rx.set (kah kad), e, true)
    | some S => (Rx.set (kah S), e, false) by
   have := EC.o e aG
   rw [this]
   rcases lsP (e - 1 - F + 1) ((T.drop F).take (e - 1 - F)) kad with _ | qP <;> (dsimp only; rw [ua1 tj.o]))
  exact kmz
 .have t0:((c.toNat:Int)==94)=J:=kba (c:=94) xR;have tj:Hz (¬T[k+1]? =N 94):=hD (by rw[af];intro e;injection e with e;exact xR e);rw[ua0 tj.o] at hF;clear af xR;exact kmT
def kmQ (h:P:=by
 go_enter func228,ntmps228;go_upto_region 1 with (fail);rw[←cd.o];go_wp2_with fail;refine bF.o.mono ?_;rintro cG aF ⟨rfl,dP,rfl⟩;obtain ⟨ex,co,fS⟩:=hd3 (d3.o.drewN dP) (show R8 (aq.drewN dP) w.heap.size (I U 0) (I Y 0) (I Y 0) (I Y 0) (I Y 0) (I U 0) (I U 0) (D Z 0 0) from Blk.drewN dI.o dP) (jd.o.drewN dP);obtain ⟨aF,bW⟩:=xE (aq.drewN dP);have lu:w.heap.size<aF.heap.size:=(by rw[bW];exact fy);rw[←bW] at ex co fS ⊢;clear bW d3 dI jd bF cd;obtain ⟨aN,aM,aZ,bE,c2⟩:=ex.o.cells
 first
 |guard_hyp Qf
  first
  |guard_hyp Qg;have eA:=hD (ex.o.go (k+1));have cX:=hD (show R8 (aF.setCell ⟨g,1,Z⟩ (I U ((k+1:Nat):Int))) w (I U 0) (I Y 0) (I Y 0) (I Y 0) (I Y 0) (I U 0) (I U 0) (D Z 0 0) from Blk.far co.o (p:=⟨g,1,Z⟩) (by show w.heap.size≠g;omega) _);have fx:=hD (fS.o.setCell (p:=⟨g,1,Z⟩) (.inl rfl) (I U ((k+1:Nat):Int)));obtain ⟨a6,cl⟩:=xE (aF.setCell ⟨g,1,Z⟩ (I U ((k+1:Nat):Int)));rw[←cl] at eA cX fx;rw[show ((k+1:Nat):Int)=(k:Int)+1 by omega] at cl;have ea:=hD cl;have y4:=hD (show a6.heap.size=aF.heap.size by rw[cl];simp);clear cl;go_upto_region 5 with (fail);rw[←ea.o];clear aN aM aZ bE c2 ea;have qx:=hD (kko 10 a6);rw[show ((10:UInt8).toNat:Int)=10 from rfl,show (10:UInt8).toNat=10 from rfl] at qx;go_wp2_with fail;refine qx.o.mono ?_;rintro cG aK ⟨rfl,bv⟩;obtain ⟨fO,da,fR,o1⟩:=hd4 (eA.o.below bv) (cX.o.below bv cX.o.lt) (fx.o.maa (Kept.of_below bv)) (kzc (kaa 10) aK);unfold lwA at o1;have eE:∀ W,(Instr.field 105 (aa #[I .i64 2,I Y (wd (kaa 10) 0),I Y (wd (kaa 10) 1),I Y (wd (kaa 10) 2),I Y (wd (kaa 10) 3),I U 0,I U 0,D Z 0 0]) 1).run prog W= .ok (aa #[I .u64 (wd (kaa 10) 0),I Y (wd (kaa 10) 1),I Y (wd (kaa 10) 2),I Y (wd (kaa 10) 3)]) W:=fun W=>by kernel_rfl
   clear bv eA cX fx qx;go_wp2_with fail;refine o1.o.mono ?_;rintro cG bm ⟨rfl,cQ⟩;obtain ⟨gN,dQ,gL,uX⟩:=hd4 (fO.o.below cQ) (da.o.below cQ da.o.lt) (fR.o.maa (Kept.of_below cQ)) (kkp (kaa 10) bm);clear cQ fO da fR o1;go_wp2_with fail;refine uX.o.mono ?_;rintro cG du ⟨rfl,eu⟩;obtain ⟨lr,hC,iC,nL⟩:=hd4 (gN.o.below eu) (dQ.o.below eu dQ.o.lt) (gL.o.maa (Kept.of_below eu)) (kf6 (kah (kaa 10)) du);have jF:=fun (w':O) (F:Nat→Prop)=>keX w' F ka2;unfold ka2 at jF;obtain ⟨aT,ht⟩:=xE (wd (kah (kaa 10)) 0);obtain ⟨aU,iZ⟩:=xE (wd (kah (kaa 10)) 1);obtain ⟨aX,g5⟩:=xE (wd (kah (kaa 10)) 2);obtain ⟨a2,i0⟩:=xE (wd (kah (kaa 10)) 3);rw[←ht,←iZ,←g5,←i0] at nL;simp only[←ht,←iZ,←g5,←i0] at jF;have uY:=hD jF;clear jF ht iZ g5 i0 eu gN dQ gL uX;go_wp2_with fail;refine nL.o.mono ?_;rintro cG gx ⟨rfl,gn⟩;obtain ⟨th,h9,rc⟩:=hd3 (lr.o.below gn) (hC.o.below gn hC.o.lt) (iC.o.maa (Kept.of_below gn));clear gn nL lr hC iC;have ED:=();exact kez
  |guard_hyp Qk;go_wp2_with fail;go_quiet (exact Calls.quiet_of (o3.o _))
   obtain ⟨eA,cX,fx⟩:=hd3 (ex.o.drewN nq) (show R8 (aF.drewN nq) w.heap.size (I U 0) (I Y 0) (I Y 0) (I Y 0) (I Y 0) (I U 0) (I U 0) (D Z 0 0) from Blk.drewN co.o nq) (fS.o.drewN nq);obtain ⟨a6,cl⟩:=xE (aF.drewN nq);rw[←cl] at eA cX fx ⊢;clear cl aN aM aZ bE c2 o3 ex co fS;obtain ⟨aN,aM,aZ,bE,c2⟩:=eA.o.cells;have fO:=hD (eA.o.go (k1));have da:=hD (show R8 (a6.setCell ⟨g,1,Z⟩ (I U ((k1:Nat):Int))) w (I U 0) (I Y 0) (I Y 0) (I Y 0) (I Y 0) (I U 0) (I U 0) (D Z 0 0) from Blk.far cX.o (p:=⟨g,1,Z⟩) (by show w.heap.size≠g;omega) _);have fR:=hD (fx.o.setCell (p:=⟨g,1,Z⟩) (.inl rfl) (I U ((k1:Nat):Int)));obtain ⟨aK,e3⟩:=xE (a6.setCell ⟨g,1,Z⟩ (I U ((k1:Nat):Int)));rw[←e3] at fO da fR;have k3:=hD e3;clear e3;go_upto_region 21 with (fail);rw[←k3.o];clear aN aM aZ bE c2 k3 eA cX fx;have qx:=hD (kko x aK);have jF:=fun (w':O) (F:Nat→Prop)=>keX w' F (kaa x.toNat);obtain ⟨aT,ht⟩:=xE (wd (kaa x.toNat) 0);obtain ⟨aU,iZ⟩:=xE (wd (kaa x.toNat) 1);obtain ⟨aX,g5⟩:=xE (wd (kaa x.toNat) 2);obtain ⟨a2,i0⟩:=xE (wd (kaa x.toNat) 3);rw[←ht,←iZ,←g5,←i0] at qx;simp only[←ht,←iZ,←g5,←i0] at jF;have uY:=hD jF;clear jF ht iZ g5 i0;go_wp2_with fail;refine qx.o.mono ?_;rintro cG gx ⟨rfl,gn⟩;obtain ⟨th,h9,rc⟩:=hd3 (fO.o.below gn) (da.o.below gn da.o.lt) (fR.o.maa (Kept.of_below gn));clear gn qx fO da fR;have ED:=();exact kez
  |go_wp2_with fail;refine (m7.o _).mono ?_;rintro cG c7 ⟨rfl,rfl⟩;have eA:=hD (ex.o.go (k+1));have cX:=hD (show R8 (aF.setCell ⟨g,1,Z⟩ (I U ((k+1:Nat):Int))) w (I U 0) (I Y 0) (I Y 0) (I Y 0) (I Y 0) (I U 0) (I U 0) (D Z 0 0) from Blk.far co.o (p:=⟨g,1,Z⟩) (by show w.heap.size≠g;omega) _);have fx:=hD (fS.o.setCell (p:=⟨g,1,Z⟩) (.inl rfl) (I U ((k+1:Nat):Int)));obtain ⟨a6,cl⟩:=xE (aF.setCell ⟨g,1,Z⟩ (I U ((k+1:Nat):Int)));rw[←cl] at eA cX fx;rw[show ((k+1:Nat):Int)=(k:Int)+1 by omega] at cl;have ea:=hD cl;clear cl;go_upto_region 26 with (fail);rw[←ea.o];clear aN aM aZ bE c2 ea ex co fS;have qx:=hD (kko b a6);have jF:=fun (w':O) (F:Nat→Prop)=>keX w' F (kaa b.toNat);obtain ⟨aT,ht⟩:=xE (wd (kaa b.toNat) 0);obtain ⟨aU,iZ⟩:=xE (wd (kaa b.toNat) 1);obtain ⟨aX,g5⟩:=xE (wd (kaa b.toNat) 2);obtain ⟨a2,i0⟩:=xE (wd (kaa b.toNat) 3);rw[←ht,←iZ,←g5,←i0] at qx;simp only[←ht,←iZ,←g5,←i0] at jF;have uY:=hD jF;clear jF ht iZ g5 i0;go_wp2_with fail;refine qx.o.mono ?_;rintro cG gx ⟨rfl,gn⟩;obtain ⟨th,h9,rc⟩:=hd3 (eA.o.below gn) (cX.o.below gn cX.o.lt) (fx.o.maa (Kept.of_below gn));clear gn qx eA cX fx;have ED:=();exact kez
 |first
  |guard_hyp Qh;have eA:=hD (ex.o.go (k+1));have cX:=hD (show R8 (aF.setCell ⟨g,1,Z⟩ (I U ((k+1:Nat):Int))) w (I U 0) (I Y 0) (I Y 0) (I Y 0) (I Y 0) (I U 0) (I U 0) (D Z 0 0) from Blk.far co.o (p:=⟨g,1,Z⟩) (by show w.heap.size≠g;omega) _);have fx:=hD (fS.o.setCell (p:=⟨g,1,Z⟩) (.inl rfl) (I U ((k+1:Nat):Int)));obtain ⟨a6,cl⟩:=xE (aF.setCell ⟨g,1,Z⟩ (I U ((k+1:Nat):Int)));rw[←cl] at eA cX fx;rw[show ((k+1:Nat):Int)=(k:Int)+1 by omega] at cl;have ea:=hD cl;have y4:=hD (show a6.heap.size=aF.heap.size by rw[cl];simp);clear cl;go_wp2_with fail;rw[←ea.o];clear aN aM aZ bE c2 ea;refine (BX.o a6 eA.o).mono ?_;rintro cG aK ⟨cs,rfl,iO,lK,dg⟩;obtain ⟨kd,a0,aY,bh,a3,lo,hi,A,n,c,rfl⟩:=iO.eight;have fO:=hD lK;have da:=hD (cX.o.kept dg (fun e=>by have ek:w.heap.size=g:=e;omega));have fR:=hD (fx.o.maa dg);have wH:a6.heap.size≤aK.heap.size:=dg.size;have rf:w.heap.size<a6.heap.size:=ua7 lu (by rw[y4.out];exact nR);have h7:=hD iO;clear iO lK dg BX eA cX fx;obtain ⟨B,b0⟩:=xE aK.heap.size;have gq:R8 (aK.alloc (y #[I .i64 kd,I Y a0,I Y aY,I Y bh,I Y a3,I U lo,I U hi,D A n c] 105)) B (I U kd) (I Y a0) (I Y aY) (I Y bh) (I Y a3) (I U lo) (I U hi) (D A n c):=(by rw[b0];exact Blk.new aK _ _);obtain ⟨gN,dQ,gL⟩:=hd3 (fO.o.alloc (y #[I .i64 kd,I Y a0,I Y aY,I Y bh,I Y a3,I U lo,I U hi,D A n c] 105)) (da.o.alloc (y #[I .i64 kd,I Y a0,I Y aY,I Y bh,I Y a3,I U lo,I U hi,D A n c] 105)) (fR.o.alloc (y #[I .i64 kd,I Y a0,I Y aY,I Y bh,I Y a3,I U lo,I U hi,D A n c] 105));have o2:=hD (kcZ (G:=grg (w.heap.size+1) (aK.alloc (y #[I .i64 kd,I Y a0,I Y aY,I Y bh,I Y a3,I U lo,I U hi,D A n c] 105)).heap.size) h7.o ((Kept.refl (fun _=>False) aK).alloc (y #[I .i64 kd,I Y a0,I Y aY,I Y bh,I Y a3,I U lo,I U hi,D A n c] 105)) (fun _ _ _=>id) (fun i dD az=>⟨by have:=dD.1;omega,by simp;omega⟩));obtain ⟨bm,eM⟩:=xE (aK.alloc (y #[I .i64 kd,I Y a0,I Y aY,I Y bh,I Y a3,I U lo,I U hi,D A n c] 105));rw[←eM] at gq gN dQ gL o2;obtain ⟨g9,cN,tl⟩:=hd3 eM gq b0;have wG:g≠B:=(by rw[b0];have:=fO.o.lt;omega);have tm:w.heap.size≠B:=oM;clear gq eM b0 fO da fR h7;go_upto_region 9 with (fail);rw[←g9.o,←tl.o];clear g9 tl;have de:=hD (kdb bm gN.o dr oM);rw[←EE.o] at de;go_wp2_with fail;refine de.o.mono ?_;rintro cG du ⟨rfl,lV,rfl⟩;obtain ⟨lr,hC,iC,f1,q2⟩:=hd5 (gN.o.drewN lV) (show R8 (bm.drewN lV) w.heap.size (I U 0) (I Y 0) (I Y 0) (I Y 0) (I Y 0) (I U 0) (I U 0) (D Z 0 0) from Blk.drewN dQ.o lV) (gL.o.drewN lV) (show R8 (bm.drewN lV) B (I U kd) (I Y a0) (I Y aY) (I Y bh) (I Y a3) (I U lo) (I U hi) (D A n c) from Blk.drewN cN.o lV) (kcZ o2.o ((Kept.refl (fun _=>False) bm).drewN lV) (fun _ _ _=>id) (G:=grg (w.heap.size+1) (bm.drewN lV).heap.size) (fun i dD az=>dD));obtain ⟨du,hp⟩:=xE (bm.drewN lV);rw[←hp] at lr hC iC f1 q2 ⊢;clear hp gN dQ gL cN o2 de;obtain ⟨aN,aM,aZ,bE,c2⟩:=lr.o.cells;cases u0
   .have y5:=lr.o.end iC.o ((b1.toNat:Int) != 41) (gy+1);have tn:R8 ((du.setCell ⟨g,2,Z⟩ (V ((b1.toNat:Int) != 41))).setCell ⟨g,1,Z⟩ (I U ((gy+1:Nat):Int))) w (I U 0) (I Y 0) (I Y 0) (I Y 0) (I Y 0) (I U 0) (I U 0) (D Z 0 0):=Blk.far (Blk.far hC.o (p:=⟨g,2,Z⟩) (by show w.heap.size≠g;omega) _) (p:=⟨g,1,Z⟩) (by show w.heap.size≠g;omega) _;have gn:R8 ((du.setCell ⟨g,2,Z⟩ (V ((b1.toNat:Int) != 41))).setCell ⟨g,1,Z⟩ (I U ((gy+1:Nat):Int))) B (I U kd) (I Y a0) (I Y aY) (I Y bh) (I Y a3) (I U lo) (I U hi) (D A n c):=Blk.far (Blk.far f1.o (p:=⟨g,2,Z⟩) (fun e=>wG e.symm) _) (p:=⟨g,1,Z⟩) (fun e=>wG e.symm) _;have y6:=((Kept.refl (isG g) du).setCell (p:=⟨g,2,Z⟩) (.inl rfl) (V ((b1.toNat:Int) != 41))).setCell (p:=⟨g,1,Z⟩) (.inl rfl) (I U ((gy+1:Nat):Int));obtain ⟨gx,uZ⟩:=xE ((du.setCell ⟨g,2,Z⟩ (V ((b1.toNat:Int) != 41))).setCell ⟨g,1,Z⟩ (I U ((gy+1:Nat):Int)));have Qe:=();exact knq
   .have y5:=lr.o.end iC.o K (gy+1);have tn:R8 ((du.setCell ⟨g,2,Z⟩ (V K)).setCell ⟨g,1,Z⟩ (I U ((gy+1:Nat):Int))) w (I U 0) (I Y 0) (I Y 0) (I Y 0) (I Y 0) (I U 0) (I U 0) (D Z 0 0):=Blk.far (Blk.far hC.o (p:=⟨g,2,Z⟩) (by show w.heap.size≠g;omega) _) (p:=⟨g,1,Z⟩) (by show w.heap.size≠g;omega) _;have gn:R8 ((du.setCell ⟨g,2,Z⟩ (V K)).setCell ⟨g,1,Z⟩ (I U ((gy+1:Nat):Int))) B (I U kd) (I Y a0) (I Y aY) (I Y bh) (I Y a3) (I U lo) (I U hi) (D A n c):=Blk.far (Blk.far f1.o (p:=⟨g,2,Z⟩) (fun e=>wG e.symm) _) (p:=⟨g,1,Z⟩) (fun e=>wG e.symm) _;have y6:=((Kept.refl (isG g) du).setCell (p:=⟨g,2,Z⟩) (.inl rfl) (V K)).setCell (p:=⟨g,1,Z⟩) (.inl rfl) (I U ((gy+1:Nat):Int));obtain ⟨gx,uZ⟩:=xE ((du.setCell ⟨g,2,Z⟩ (V K)).setCell ⟨g,1,Z⟩ (I U ((gy+1:Nat):Int)));exact knq
  |guard_hyp Qi;clear aN aM aZ bE c2;have ls:=hD (kzD aF ex.o dr aw);rw[←cf.o] at ls;go_wp2_with fail;refine ls.o.mono ?_;rintro cG aK ⟨cs,rfl,iO,lK,dg⟩;obtain ⟨kd,a0,aY,bh,a3,lo,hi,A,n,c,rfl⟩:=iO.eight;have fO:=hD lK;have da:=hD (co.o.kept dg (fun e=>by have ek:w.heap.size=g:=e;omega));have fR:=hD (fS.o.maa dg);have h7:=hD iO;have wH:=dg.size;clear iO lK dg ls ex co fS;obtain ⟨⟨⟨r0,d5⟩,fM,jM⟩,⟨rH,nC⟩,rI,nD⟩:=da.o.cells;obtain ⟨⟨⟨z0,ca⟩,cI,z3⟩,⟨z4,z5⟩,lN,lO⟩:=da.o.free;obtain ⟨f4,jB,iP⟩:=hd3 (da.o.all (I U kd) (I Y a0) (I Y aY) (I Y bh) (I Y a3) (I U lo) (I U hi) (D A n c)) (show GS T (mae aK w (I U kd) (I Y a0) (I Y aY) (I Y bh) (I Y a3) (I U lo) (I U hi) (D A n c)) g _ _ from Blk.mae fO.o oM (I U kd) (I Y a0) (I Y aY) (I Y bh) (I Y a3) (I U lo) (I U hi) (D A n c)) (kas fR.o (.inr (uf1 w)) (I U kd) (I Y a0) (I Y aY) (I Y bh) (I Y a3) (I U lo) (I U hi) (D A n c));have pI:=hD (kcZ h7.o (kas (Kept.refl (fun i=>i=w.heap.size) aK) (.inl rfl) (I U kd) (I Y a0) (I Y aY) (I Y bh) (I Y a3) (I U lo) (I U hi) (D A n c)) (fun i dD _ e=>by have ek:i=w.heap.size:=e;have:=dD.1;omega) (G:=grg w (mae aK w (I U kd) (I Y a0) (I Y aY) (I Y bh) (I Y a3) (I U lo) (I U hi) (D A n c)).heap.size) (fun i dD az=>⟨by have:=dD.1;omega,by have:=dD.2;have:=(kas (Kept.refl (fun i=>i=w.heap.size) aK) (.inl rfl) (I U kd) (I Y a0) (I Y aY) (I Y bh) (I Y a3) (I U lo) (I U hi) (D A n c)).size;omega⟩));go_wp2_with fail;obtain ⟨⟨⟨bi,aW⟩,bc,br⟩,⟨bL,d0⟩,d1,d2⟩:=f4.o.cells;unfold mae at bi aW bc br bL d0 d1 d2;refine ub2 (v:=aa #[I .i64 kd,I Y a0,I Y aY,I Y bh,I Y a3,I U lo,I U hi,D A n c]) (by simp[results,results228,go_sem,bi,aW,bc,br,bL,d0,d1,d2]) rfl ?_;exact ⟨_,rfl,pI.o,jB.o,iP.o⟩
  |guard_hyp Qj;go_wp2_with fail;go_quiet (exact Calls.quiet_of (o3.o _))
   obtain ⟨eA,cX,fx⟩:=hd3 (ex.o.drewN nq) (show R8 (aF.drewN nq) w.heap.size (I U 0) (I Y 0) (I Y 0) (I Y 0) (I Y 0) (I U 0) (I U 0) (D Z 0 0) from Blk.drewN co.o nq) (fS.o.drewN nq);obtain ⟨a6,cl⟩:=xE (aF.drewN nq);rw[←cl] at eA cX fx ⊢;clear cl aN aM aZ bE c2 o3 ex co fS;obtain ⟨aN,aM,aZ,bE,c2⟩:=eA.o.cells;have fO:=hD (eA.o.mark K);have da:=hD (show R8 (a6.setCell ⟨g,2,Z⟩ (V K)) w (I U 0) (I Y 0) (I Y 0) (I Y 0) (I Y 0) (I U 0) (I U 0) (D Z 0 0) from Blk.far cX.o (p:=⟨g,2,Z⟩) (by show w.heap.size≠g;omega) _);have fR:=hD (fx.o.setCell (p:=⟨g,2,Z⟩) (.inl rfl) (V K));obtain ⟨aK,e3⟩:=xE (a6.setCell ⟨g,2,Z⟩ (V K));rw[←e3] at fO da fR;have y7:=hD e3;clear e3;go_upto_region 19 with (fail);rw[←y7.o];clear aN aM aZ bE c2 y7;obtain ⟨⟨⟨r0,d5⟩,fM,jM⟩,⟨rH,nC⟩,rI,nD⟩:=da.o.cells;obtain ⟨⟨⟨z0,ca⟩,cI,z3⟩,⟨z4,z5⟩,lN,lO⟩:=da.o.free;obtain ⟨f4,jB,iP⟩:=hd3 (da.o.all (I U 0) (I Y 0) (I Y 0) (I Y 0) (I Y 0) (I U 0) (I U 0) (D Z 0 0)) (show GS T (mae aK w (I U 0) (I Y 0) (I Y 0) (I Y 0) (I Y 0) (I U 0) (I U 0) (D Z 0 0)) g _ _ from Blk.mae fO.o oM (I U 0) (I Y 0) (I Y 0) (I Y 0) (I Y 0) (I U 0) (I U 0) (D Z 0 0)) (kas fR.o (.inr (uf1 w)) (I U 0) (I Y 0) (I Y 0) (I Y 0) (I Y 0) (I U 0) (I U 0) (D Z 0 0));go_wp2_with fail;obtain ⟨⟨⟨bi,aW⟩,bc,br⟩,⟨bL,d0⟩,d1,d2⟩:=f4.o.cells;unfold mae at bi aW bc br bL d0 d1 d2;refine ub2 (v:=aa #[I .i64 0,I Y 0,I Y 0,I Y 0,I Y 0,I U 0,I U 0,D Z 0 0]) (by simp[results,results228,go_sem,bi,aW,bc,br,bL,d0,d1,d2]) rfl ?_;rw[cf.o];exact ⟨_,rfl,kkf _ _,jB.o,iP.o⟩
  |go_wp2_with fail;refine (m7.o _).mono ?_;rintro cG a6 ⟨rfl,rfl⟩;have fO:=hD (ex.o.mark K);have da:=hD (show R8 (aF.setCell ⟨g,2,Z⟩ (V K)) w (I U 0) (I Y 0) (I Y 0) (I Y 0) (I Y 0) (I U 0) (I U 0) (D Z 0 0) from Blk.far co.o (p:=⟨g,2,Z⟩) (by show w.heap.size≠g;omega) _);have fR:=hD (fS.o.setCell (p:=⟨g,2,Z⟩) (.inl rfl) (V K));obtain ⟨aK,e3⟩:=xE (aF.setCell ⟨g,2,Z⟩ (V K));rw[←e3] at fO da fR;have y7:=hD e3;clear e3;go_upto_region 24 with (fail);rw[←y7.o];clear aN aM aZ bE c2 y7;obtain ⟨⟨⟨r0,d5⟩,fM,jM⟩,⟨rH,nC⟩,rI,nD⟩:=da.o.cells;obtain ⟨⟨⟨z0,ca⟩,cI,z3⟩,⟨z4,z5⟩,lN,lO⟩:=da.o.free;obtain ⟨f4,jB,iP⟩:=hd3 (da.o.all (I U 0) (I Y 0) (I Y 0) (I Y 0) (I Y 0) (I U 0) (I U 0) (D Z 0 0)) (show GS T (mae aK w (I U 0) (I Y 0) (I Y 0) (I Y 0) (I Y 0) (I U 0) (I U 0) (D Z 0 0)) g _ _ from Blk.mae fO.o oM (I U 0) (I Y 0) (I Y 0) (I Y 0) (I Y 0) (I U 0) (I U 0) (D Z 0 0)) (kas fR.o (.inr (uf1 w)) (I U 0) (I Y 0) (I Y 0) (I Y 0) (I Y 0) (I U 0) (I U 0) (D Z 0 0));go_wp2_with fail;obtain ⟨⟨⟨bi,aW⟩,bc,br⟩,⟨bL,d0⟩,d1,d2⟩:=f4.o.cells;unfold mae at bi aW bc br bL d0 d1 d2;refine ub2 (v:=aa #[I .i64 0,I Y 0,I Y 0,I Y 0,I Y 0,I U 0,I U 0,D Z 0 0]) (by simp[results,results228,go_sem,bi,aW,bc,br,bL,d0,d1,d2]) rfl ?_;rw[cf.o];exact ⟨_,rfl,kkf _ _,jB.o,iP.o⟩):=h
def knq (h:P:=by rw[←uZ] at y5 tn gn y6;rw[show ((gy+1:Nat):Int)=(gy:Int)+1 by omega] at uZ;obtain ⟨th,rc,h9,l4⟩:=hd4 y5.1 y5.2 tn gn;have y8:=hD (kcZ q2.o y6 (fun i dD _ e=>by have ek:i=g:=e;have:=dD.1;omega) (G:=grg (w.heap.size+1) gx.heap.size) (fun i dD az=>⟨dD.1,by have:=y6.size;omega⟩));have Js:=hD uZ;clear y5 tn gn y6 uZ lr hC iC f1 q2;go_upto_region 12 with (fail);rw[←Js.o];clear aN aM aZ bE c2 Js;obtain ⟨⟨⟨b6,bx⟩,et,lf⟩,⟨tc,uQ⟩,Jt,Ju⟩:=l4.o.cells;obtain ⟨⟨⟨r0,d5⟩,fM,jM⟩,⟨rH,nC⟩,rI,nD⟩:=h9.o.cells;obtain ⟨⟨⟨z0,ca⟩,cI,z3⟩,⟨z4,z5⟩,lN,lO⟩:=h9.o.free;obtain ⟨f4,jB,iP⟩:=hd3 (h9.o.all (I U kd) (I Y a0) (I Y aY) (I Y bh) (I Y a3) (I U lo) (I U hi) (D A n c)) (show GS T (mae gx w (I U kd) (I Y a0) (I Y aY) (I Y bh) (I Y a3) (I U lo) (I U hi) (D A n c)) g _ _ from Blk.mae th.o oM (I U kd) (I Y a0) (I Y aY) (I Y bh) (I Y a3) (I U lo) (I U hi) (D A n c)) (kas rc.o (.inr (uf1 w)) (I U kd) (I Y a0) (I Y aY) (I Y bh) (I Y a3) (I U lo) (I U hi) (D A n c));have pI:=hD (kcZ y8.o (kas (Kept.refl (fun i=>i=w.heap.size) gx) (.inl rfl) (I U kd) (I Y a0) (I Y aY) (I Y bh) (I Y a3) (I U lo) (I U hi) (D A n c)) (fun i dD _ e=>by have ek:i=w.heap.size:=e;have:=dD.1;omega) (G:=grg w (mae gx w (I U kd) (I Y a0) (I Y aY) (I Y bh) (I Y a3) (I U lo) (I U hi) (D A n c)).heap.size) (fun i dD az=>⟨by have:=dD.1;omega,by have:=dD.2;have:=(kas (Kept.refl (fun i=>i=w.heap.size) gx) (.inl rfl) (I U kd) (I Y a0) (I Y aY) (I Y bh) (I Y a3) (I U lo) (I U hi) (D A n c)).size;omega⟩));go_wp2_with fail;obtain ⟨⟨⟨bi,aW⟩,bc,br⟩,⟨bL,d0⟩,d1,d2⟩:=f4.o.cells;unfold mae at bi aW bc br bL d0 d1 d2;refine ub2 (v:=aa #[I .i64 kd,I Y a0,I Y aY,I Y bh,I Y a3,I U lo,I U hi,D A n c]) (by simp[results,results228,go_sem,bi,aW,bc,br,bL,d0,d1,d2]) rfl ?_;rw[cf.o];first|guard_hyp Qe;exact ⟨_,rfl,pI.o,by have gM:=jB.o;rw[show (41:Int)=((41:UInt8).toNat:Int) from rfl,kcU] at gM;exact gM,iP.o⟩|exact ⟨_,rfl,pI.o,jB.o,iP.o⟩):=h
def kiB (h:P:=by have Qf:=();exact kmQ):=h
def kgB (h:P:=by exact kmQ):=h
def kyI {T:List UInt8} {g k d:Nat} (E:Nat→Rx×Nat×Bool) (w:O) (h:GS T w g k J) (dr:T.length≤262144) (aw:k<T.length) (hd:d≤300000) (hq:Gr.Ok T d E)
 (ce:∀ k1 aq,k<k1→k1≤T.length→GS T aq g k1 J→L prog 158 #[ab (N ⟨g,0,Z⟩)] aq (kdi T aq g (E k1))):L prog 228 #[ab (N ⟨g,0,Z⟩)] w (kdi T w g (Gr.trm T E k)):=by
 have dN:=bZ T;have hg:=h.lt;obtain ⟨fG,cO⟩:=xE (Gr.trm T E k);rw[←cO];unfold Gr.trm at cO;obtain ⟨bq,c1,d3,dI,jd⟩:=hd5 ce hq (h.alloc (y #[I .i64 0,I Y 0,I Y 0,I Y 0,I Y 0,I U 0,I U 0,D Z 0 0] 105)) (R8.mk0 w w rfl) ((Kept.refl (isG g) w).alloc (y #[I .i64 0,I Y 0,I Y 0,I Y 0,I Y 0,I U 0,I U 0,D Z 0 0] 105));obtain ⟨aq,aQ⟩:=xE (w.alloc (y #[I .i64 0,I Y 0,I Y 0,I Y 0,I Y 0,I U 0,I U 0,D Z 0 0] 105));rw[←aQ] at d3 dI jd;have fy:w.heap.size<aq.heap.size:=(by rw[aQ];simp);have cd:=hD aQ;have bF:=hD (kdb aq d3.o dr oM);obtain ⟨b,ak⟩:∃ b,T[k]? =N b:=⟨T[k],ua3 aw⟩;rw[kcd ak,ub3 aw] at bF;rw[ak] at cO;dsimp only at cO;obtain ⟨PX,PY⟩:=u8b b;have ev:=hD ak;clear h aQ ak ce hq;by_cases kG:b=46
 .have t46:((b.toNat:Int)==46)=K:=(by rw[kG];rfl);rw[ua1 kG] at cO;have cf:=hD cO;clear cO kG;have Qg:=();exact kiB
 have t46:((b.toNat:Int)==46)=J:=kba (c:=46) kG;rw[ua0 kG] at cO;clear kG;by_cases it:b=40
 .have HX:((b.toNat:Int)==40)=K:=(by rw[it];rfl);rw[ua1 it] at cO;have BW:=c1.o (k+1) oM;obtain ⟨r,gy,u0,y9⟩:∃ r gy u0,E (k+1)=(r,gy,u0):=⟨_,_,_,rfl⟩;have BX:=hD (fun aq af=>bq.o (k+1) aq oM oM af);rw[y9] at cO BW BX;dsimp only at cO BW BX;obtain ⟨BW,wI,_⟩:=BW;obtain ⟨b1,r6⟩:=xE (Gr.nx T gy);rw[←r6] at cO;have cf:=hD cO;have EE:=hD r6;clear cO it y9 r6 c1 bq;have Qh:=();exact kgB
 have HX:((b.toNat:Int)==40)=J:=kba (c:=40) it;rw[ua0 it] at cO;clear it;by_cases kn:b=91
 .have HW:((b.toNat:Int)==91)=K:=(by rw[kn];rfl);rw[ua1 kn] at cO;have cf:=hD cO;clear cO kn;have Qi:=();exact kgB
 have HW:((b.toNat:Int)==91)=J:=kba (c:=91) kn;rw[ua0 kn] at cO;clear kn;by_cases hs:b=92
 .have HV:((b.toNat:Int)==92)=K:=(by rw[hs];rfl);rw[ua1 hs] at cO;clear hs;have o3:=hD (fun W:O=>kks (t:=T) (k:=k) W oM dr);unfold GEl at o3;rcases hA:kaU (T.drop k) with _|⟨x,u⟩
  .rw[hA] at cO;have cf:=hD cO;rw[show elR T k=(-1,k) by unfold elR;rw[hA]] at o3;clear cO hA;have Qj:=();exact kgB
  .rw[hA] at cO;have aI:=khn hA;rw[ud9] at aI;obtain ⟨k1,fZ⟩:=xE (k+u);dsimp only at cO;rw[←fZ] at cO;have cf:=hD cO;rw[show elR T k=((x.toNat:Int),k1) by unfold elR;rw[hA,fZ]] at o3;obtain ⟨ZK,ZL⟩:=u8b x;have rZ:decide ((x.toNat:Int)<0)=J:=ua5 oM;clear cO hA fZ;have Qk:=();exact kiB
 have HV:((b.toNat:Int)==92)=J:=kba (c:=92) hs;rw[ua0 hs] at cO;clear hs;have m7:=hD (kyJ b)
 cases nA:specials.contains b with
 |true=>rw[nA] at cO m7;rw[ua1 rfl] at cO;have cf:=hD cO;clear cO nA;exact kgB
 |false=>rw[nA] at cO m7;rw[ua0 dC] at cO;have cf:=hD cO;clear cO nA;exact kiB
def knD (h:P:=by
 have BY:((cK.toNat:Int)==42)=J:=(by rw[lv];rfl);have o4:((cK.toNat:Int) != 42)=K:=(by rw[lv];rfl);have BZ:((cK.toNat:Int)==43)=J:=(by rw[lv];rfl);have rg:((cK.toNat:Int) != 43)=K:=(by rw[lv];rfl);have B1:((cK.toNat:Int)==63)=J:=(by rw[lv];rfl);have u1:((cK.toNat:Int) != 63)=K:=(by rw[lv];rfl);have B2:((cK.toNat:Int)==123)=K:=(by rw[lv];rfl);have u2:((cK.toNat:Int) != 123)=J:=by rw[lv];rfl
 first
 |guard_hyp Qp;go_wp2_with fail;go_meet
  case rel=>exact ⟨rfl,rfl⟩
 |rw[ua0 (show ¬cK=42 by rw[lv];decide)] at bH;rw[ua0 (show ¬cK=43 by rw[lv];decide)] at bH;rw[ua0 (show ¬cK=63 by rw[lv];decide)] at bH;rw[ua1 lv] at bH;have bX:=kkm (T:=T) (k:=k+1) oM;have EF:=kkl (T:=T) (k:=k+1) oM;obtain ⟨Jv,Jw,cy,cr,cF⟩:∃ Jv Jw cy cr,Gr.bnd T (k+1)=(Jv,Jw,cy,cr):=⟨_,_,_,_,rfl⟩;have B3:=hD (fun aq af=>kzF (T:=T) (g:=g) (k0:=k+1) aq af dr oM);rw[cF] at bH bX EF B3;dsimp only at bH bX EF B3;obtain ⟨ZM,ZN,ZO,ZP,ZQ⟩:=bX;clear cF;have cp:=hD bH;clear bH lv;go_wp2_with fail;refine (B3.o _ tq.o.s).mono ?_;rintro cG du ⟨rfl,AY,nr⟩;have tp:=hD (tq.o.kept hg tm nr AY);clear AY nr tq B3;go_wp2_with fail;go_meet
  case rel=>exact ⟨_,_,cy,cr,rfl,rfl,cp,fun e=>EF e,oM,tp⟩):=h
def knC (h:P:=by
 have BY:((cK.toNat:Int)==42)=K:=(by rw[nc];rfl);have o4:((cK.toNat:Int) != 42)=J:=(by rw[nc];rfl);have BZ:((cK.toNat:Int)==43)=J:=(by rw[nc];rfl);have rg:((cK.toNat:Int) != 43)=K:=(by rw[nc];rfl);have B1:((cK.toNat:Int)==63)=J:=(by rw[nc];rfl);have u1:((cK.toNat:Int) != 63)=K:=(by rw[nc];rfl);have B2:((cK.toNat:Int)==123)=J:=(by rw[nc];rfl);have u2:((cK.toNat:Int) != 123)=K:=by rw[nc];rfl
 first
 |guard_hyp Qm;go_wp2_with fail;go_meet
  case rel=>exact ⟨rfl,rfl⟩
 |rw[ua1 nc] at bH;have cp:=hD bH;clear bH nc;go_wp2_with fail;go_meet
  case rel=>exact ⟨0,(-1),k+1,J,rfl,rfl,cp,fun _=>by omega,oM,tq⟩):=h
def knB (h:P:=by
 have BY:((cK.toNat:Int)==42)=J:=(by rw[mA];rfl);have o4:((cK.toNat:Int) != 42)=K:=(by rw[mA];rfl);have BZ:((cK.toNat:Int)==43)=K:=(by rw[mA];rfl);have rg:((cK.toNat:Int) != 43)=J:=(by rw[mA];rfl);have B1:((cK.toNat:Int)==63)=J:=(by rw[mA];rfl);have u1:((cK.toNat:Int) != 63)=K:=(by rw[mA];rfl);have B2:((cK.toNat:Int)==123)=J:=(by rw[mA];rfl);have u2:((cK.toNat:Int) != 123)=K:=by rw[mA];rfl
 first
 |guard_hyp Qn;go_wp2_with fail;go_meet
  case rel=>exact ⟨rfl,rfl⟩
 |rw[ua0 (show ¬cK=42 by rw[mA];decide)] at bH;rw[ua1 mA] at bH;have cp:=hD bH;clear bH mA;go_wp2_with fail;go_meet
  case rel=>exact ⟨1,(-1),k+1,J,rfl,rfl,cp,fun _=>by omega,oM,tq⟩):=h
def knA (h:P:=by
 have BY:((cK.toNat:Int)==42)=J:=(by rw[iE];rfl);have o4:((cK.toNat:Int) != 42)=K:=(by rw[iE];rfl);have BZ:((cK.toNat:Int)==43)=J:=(by rw[iE];rfl);have rg:((cK.toNat:Int) != 43)=K:=(by rw[iE];rfl);have B1:((cK.toNat:Int)==63)=K:=(by rw[iE];rfl);have u1:((cK.toNat:Int) != 63)=J:=(by rw[iE];rfl);have B2:((cK.toNat:Int)==123)=J:=(by rw[iE];rfl);have u2:((cK.toNat:Int) != 123)=K:=by rw[iE];rfl
 first
 |guard_hyp Qo;go_wp2_with fail;go_meet
  case rel=>exact ⟨rfl,rfl⟩
 |rw[ua0 (show ¬cK=42 by rw[iE];decide)] at bH;rw[ua0 (show ¬cK=43 by rw[iE];decide)] at bH;rw[ua1 iE] at bH;have cp:=hD bH;clear bH iE;go_wp2_with fail;go_meet
  case rel=>exact ⟨0,1,k+1,J,rfl,rfl,cp,fun _=>by omega,oM,tq⟩):=h
def kyM {w:O} {G:Nat→Prop} {r:Rx} {cs:List C} {B:Nat} (lo hi:Int) (h:RxV w G r cs) (ak:Blk w B 105 cs.toArray) (el:G B):RxV w G (Rx.rep lo hi r) [I .i64 5,I Y 0,I Y 0,I Y 0,I Y 0,I U lo,I U hi,D (N ⟨B,0,Z⟩) 1 1]:=by unfold Rx.rep RxV;refine ⟨N ⟨B,0,Z⟩,1,cs,rfl,⟨by rw[h.len];rfl,fun _=>⟨B,0,rfl,el,Blk.lt ak,fun j u aI=>?_⟩⟩,RxVs.one h⟩;rw[ud3,Blk.cell ak,gA];exact aI
structure CtSt (T:List UInt8) (w:O) (g B:Nat) (r:Rx) (cs:List C) (k:Nat) (b:Bool) (wr:O):Prop where
 s:GS T wr g k b
 z:R8 wr w (I U 0) (I Y 0) (I Y 0) (I Y 0) (I Y 0) (I U 0) (I U 0) (D Z 0 0)
 c:Blk wr B 105 cs.toArray
 v:RxV wr (fun i=>w.heap.size<i∧i<wr.heap.size∧i≠B) r cs
 k:Kept (isG g) w wr
def kyX (T:List UInt8) (f:Nat) (r:Rx) (k:Nat):Gr.ma1 T f r k K=(r,k,K):=by cases f <;> rfl
section
variable {T:List UInt8} {w:O} {g B:Nat} {r:Rx} {cs:List C} {k:Nat} {b:Bool} {wr:O}
theorem CtSt.drewN (h:CtSt T w g B r cs k b wr) (n:Nat):CtSt T w g B r cs k b (wr.drewN n):=
 ⟨h.s.drewN n,Blk.drewN h.z n,Blk.drewN h.c n,kcZ h.v ((Kept.refl (fun _=>False) wr).drewN n) (fun _ _ _=>id) (fun _ dD _=>dD),h.k.drewN n⟩
theorem CtSt.kept {w':O} {k':Nat} {cx:Bool} (h:CtSt T w g B r cs k b wr) (hg:g<w.heap.size) (b0:w.heap.size<B) (aw:Kept (isG g) wr w') (al:GS T w' g k' cx):CtSt T w g B r cs k' cx w':=
 ⟨al, h.z.kept aw (fun e => by have ek : w.heap.size = g := e; omega), Blk.kept h.c aw (fun e => by have ek : B = g := e; omega),
  kcZ h.v aw (fun i dD _ e => by have ek : i = g := e; have := dD.1; omega) (fun i dD _ => ⟨dD.1, by have := aw.size; omega, dD.2.2⟩), h.k.maa aw⟩
theorem CtSt.at (h:CtSt T w g B r cs k b wr) (hg:g<w.heap.size) (b0:w.heap.size<B) (k':Nat):CtSt T w g B r cs k' b (wr.setCell ⟨g,1,Z⟩ (I U k')):=
 h.kept hg b0 ((Kept.refl (isG g) wr).setCell (p:=⟨g,1,Z⟩) (.inl rfl) _) (h.s.go k')
theorem CtSt.rep (h:CtSt T w g B r cs k b wr) (hg:g<w.heap.size) (b0:w.heap.size<B) (lo hi:Int):CtSt T w g B (Rx.rep lo hi r) [I .i64 5,I Y 0,I Y 0,I Y 0,I Y 0,I U lo,I U hi,D (N ⟨wr,0,Z⟩) 1 1] k b
 (mae (wr.alloc (y cs.toArray 105)) B (I U 5) (I Y 0) (I Y 0) (I Y 0) (I Y 0) (I U lo) (I U hi) (D (N ⟨wr,0,Z⟩) 1 1)):=by
 have EG:=Blk.lt h.c;have ef:=h.s.lt;have jb:=Blk.lt h.z;have ie:Kept (fun _=>False) wr (wr.alloc (y cs.toArray 105)):=(Kept.refl _ wr).alloc _;have oi:=kas (Kept.refl (fun i=>i=B) (wr.alloc (y cs.toArray 105))) (g:=B) (.inl rfl) (I U 5) (I Y 0) (I Y 0) (I Y 0) (I Y 0) (I U lo) (I U hi) (D (N ⟨wr,0,Z⟩) 1 1);have dN:(wr.alloc (y cs.toArray 105)).heap.size=wr.heap.size+1:=(by simp);have sE:=oi.size;rw[dN] at sE;obtain ⟨kd,a0,aY,bh,a3,l,dq,A,n,c,rfl⟩:=h.v.eight;refine ⟨Blk.mae (h.s.alloc _) oM _ _ _ _ _ _ _ _,Blk.mae (h.z.alloc _) oM _ _ _ _ _ _ _ _,?_,?_,kas (h.k.alloc _) (.inr oM) _ _ _ _ _ _ _ _⟩
 .exact R8.all (show R8 _ B _ _ _ _ _ _ _ _ from Blk.alloc h.c _) _ _ _ _ _ _ _ _
 .refine kyM lo hi ?_ (Blk.mae (Blk.new wr 105 _) oM _ _ _ _ _ _ _ _) ⟨oM,oM,oM⟩;exact kcZ (kcZ h.v ie (fun _ _ _=>id) (fun _ dD _=>dD)) oi (fun i dD _ e=>dD.2.2 e) (fun i dD _=>⟨dD.1,oM,dD.2.2⟩)
end
def kzC {T:List UInt8} {g k0 d:Nat} (E:Nat→Rx×Nat×Bool) (w:O) (h:GS T w g k0 J) (dr:T.length≤262144) (aw:k0<T.length) (hd:d≤300000) (kK:2≤d) (hq:Gr.Ok T d E)
 (ce:∀ k1 aq,k0<k1→k1≤T.length→GS T aq g k1 J→L prog 158 #[ab (N ⟨g,0,Z⟩)] aq (kdi T aq g (E k1))):L prog 215 #[ab (N ⟨g,0,Z⟩)] w (kdi T w g (Gr.cnt T E k0)):=by
 obtain ⟨eX,cM,ds,cJ,eW⟩:=ug6 kf1;have hg:=h.lt;have eI:=kki kK hq aw;obtain ⟨fG,cO⟩:=xE (Gr.cnt T E k0);rw[←cO];unfold Gr.cnt at cO;obtain ⟨d3,dI,jd⟩:=hd3 (h.alloc (y #[I .i64 0,I Y 0,I Y 0,I Y 0,I Y 0,I U 0,I U 0,D Z 0 0] 105)) (R8.mk0 w w rfl) ((Kept.refl (isG g) w).alloc (y #[I .i64 0,I Y 0,I Y 0,I Y 0,I Y 0,I U 0,I U 0,D Z 0 0] 105));obtain ⟨aq,aQ⟩:=xE (w.alloc (y #[I .i64 0,I Y 0,I Y 0,I Y 0,I Y 0,I U 0,I U 0,D Z 0 0] 105));rw[←aQ] at d3 dI jd;have fy:=wS aQ;have cd:=hD aQ;have eY:=hD (kyI E aq d3.o dr aw hd hq ce);obtain ⟨r0,k1,cL,kT⟩:∃ r0 k1 cL,Gr.trm T E k0=(r0,k1,cL):=⟨_,_,_,rfl⟩;rw[kT] at cO eY eI;dsimp only at cO eY eI;obtain ⟨ZR,ZS,Ql⟩:=eI;have cf:=hD cO;clear h aQ kT cO ce hq;go_enter func215,ntmps215;go_upto_region 1 with (fail);rw[←cd.o];go_wp2_with fail;refine eY.o.mono ?_;rintro cG aF ⟨cs,rfl,eU,iN,cu⟩;obtain ⟨kd,a0,aY,bh,a3,lo,hi,A,n,c,rfl⟩:=eU.eight;have gi:=dI.o.kept cu (fun e=>by have ek:w.heap.size=g:=e;omega);have mg:=jd.o.maa cu;have lu:aq.heap.size≤aF.heap.size:=cu.size;obtain ⟨B,b0⟩:=xE aF.heap.size;have fv:=hD (show CtSt T w g B r0 [I .i64 kd,I Y a0,I Y aY,I Y bh,I Y a3,I U lo,I U hi,D A n c] k1 cL (aF.alloc (y #[I .i64 kd,I Y a0,I Y aY,I Y bh,I Y a3,I U lo,I U hi,D A n c] 105)) from by refine ⟨iN.alloc _,gi.alloc _,by rw[b0];exact Blk.new aF _ _,?_,mg.alloc _⟩;exact kcZ eU ((Kept.refl (fun _=>False) aF).alloc (y #[I .i64 kd,I Y a0,I Y aY,I Y bh,I Y a3,I U lo,I U hi,D A n c] 105)) (fun _ _ _=>id) (fun i dD az=>⟨by have:=dD.1;omega,by simp;omega,oM⟩));have tm:w.heap.size<B:=oM;have wG:g≠B:=(by have:=iN.lt;omega);obtain ⟨a6,cl⟩:=xE (aF.alloc (y #[I .i64 kd,I Y a0,I Y aY,I Y bh,I Y a3,I U lo,I U hi,D A n c] 105));rw[←cl] at fv;have ea:=hD cl;have tl:=hD b0;clear eU iN cu gi mg cl b0 eY d3 dI jd cd;go_upto_block 0 with (fail);rw[←ea.o,←tl.o];clear ea tl lu fy;go_cut [] (fun wc=>∃(r:Rx) (cs:List C) (k:Nat) (b:Bool),Hz (fG=(r,k,b))∧Hz (CtSt T w g B r cs k b wc))
 case first=>
  go_wp2_with fail;go_loopg [] (T.length+2) (fun f wr=>∃(r:Rx) (cs:List C) (k:Nat) (b:Bool),(b=J→k≤T.length)∧T.length+2≤k+f∧Hz (Gr.ma1 T f r k b=fG)∧Hz (CtSt T w g B r cs k b wr))
  case atStart=>exact ⟨r0,_,k1,cL,fun e=>(Ql e).2,oM,hD cf.o.symm,fv⟩
  case round=>
   obtain ⟨r,cs,k,b,jE,fo,cZ,mZ⟩:=hrel
   cases b with
   |true=>
    rw[kyX] at cZ;have cp:=hD cZ.out.symm;obtain ⟨aN,aM,aZ,bE,c2⟩:=mZ.out.s.cells;go_wp2_with fail;go_meet
    case rel=>exact ⟨r,cs,k,K,cp,mZ⟩
   |false=>
    have aw:=jE rfl;obtain ⟨f,rfl⟩:=xS gk;have bH:=cZ.out;rw[Gr.ma1,ua0 dC] at bH;obtain ⟨cK,cq⟩:=xE (Gr.nx T k);rw[←cq] at bH;have bF:=hD (kdb wr mZ.out.s dr oM);rw[←cq] at bF;obtain ⟨aN,aM,aZ,bE,c2⟩:=mZ.out.s.cells;obtain ⟨Ey,Ez⟩:=u8b cK;obtain ⟨cT,gd⟩:=xE wr;subst gd;have za:=hD mZ.out;have mS:=hD bH;clear cZ bH mZ cf fv;by_cases pV:cK=42∨cK=43∨cK=63∨cK=123
    .have gp:k<T.length:=kda (T:=T) (by rw[←cq];rcases pV with h|h|h|h <;> rw[h] <;> decide);have bw:decide (k<T.length)=K:=ub3 gp;have a8:=hD cq;clear cq;go_wp2_with fail;refine bF.o.mono ?_;rintro cG aK ⟨rfl,hf,rfl⟩;have wJ:=hD (za.o.drewN hf);obtain ⟨aK,e3⟩:=xE (cT.drewN hf);rw[←e3] at wJ ⊢;clear e3 za bF aN aM aZ bE c2;go_upto_region 4 with (fail);go_cut [37] (fun v wc=>v=V J∧aK=wc)
     case first=>
      rcases pV with nc|mA|iE|lv
      .have Qm:=();exact knC
      .have Qn:=();exact knB
      .have Qo:=();exact knA
      .have Qp:=();exact knD
     case rest=>
     obtain ⟨rfl,rfl⟩:=hcut;obtain ⟨aN,aM,aZ,bE,c2⟩:=wJ.o.s.cells;have tq:=hD (wJ.o.at hg tm (k+1));obtain ⟨bm,eM⟩:=xE (aK.setCell ⟨g,1,Z⟩ (I U ((k+1:Nat):Int)));rw[←eM] at tq;rw[show ((k+1:Nat):Int)=(k:Int)+1 by omega] at eM;have g9:=hD eM;clear eM wJ;go_upto_block 2 with (fail);rw[←g9.o];clear aN aM aZ bE c2 g9;go_cut [6,7] (fun u v wc=>∃(lo hi:Int) (k':Nat) (cx:Bool),u=I U lo∧v=I U hi∧Hz (Gr.ma1 T f (Rx.rep lo hi r) k' cx=fG)∧(cx=J→k'≤T.length)∧k<k'∧Hz (CtSt T w g B r cs k' cx wc))
     case first=>
      have bH:=mS.o;rcases pV with nc|mA|iE|lv
      .exact knC
      .exact knB
      .exact knA
      .exact knD
     case rest=>
     obtain ⟨lo,hi,k',cx,rfl,rfl,cp,gW,tr,tp⟩:=hcut;clear mS tq pV;obtain ⟨kd,a0,aY,bh,a3,eh,eF,A,n,c,rfl⟩:=tp.o.v.eight;have B4:=hD (tp.o.rep hg tm lo hi);unfold mae at B4;obtain ⟨⟨⟨b6,bx⟩,et,lf⟩,⟨tc,uQ⟩,Jt,Ju⟩:=R8.cells (show R8 wc B (I U kd) (I Y a0) (I Y aY) (I Y bh) (I Y a3) (I U eh) (I U eF) (D A n c) from tp.o.c);obtain ⟨⟨⟨z0,ca⟩,cI,z3⟩,⟨z4,z5⟩,lN,lO⟩:=R8.free (show R8 (wc.alloc (y #[I .i64 kd,I Y a0,I Y aY,I Y bh,I Y a3,I U eh,I U eF,D A n c] 105)) B (I U kd) (I Y a0) (I Y aY) (I Y bh) (I Y a3) (I U eh) (I U eF) (D A n c) from Blk.alloc tp.o.c _);obtain ⟨⟨⟨fJ,fN⟩,iy,jD⟩,⟨Bq,OH⟩,OI,OJ⟩:=R8.cells (show R8 (wc.alloc (y #[I .i64 kd,I Y a0,I Y aY,I Y bh,I Y a3,I U eh,I U eF,D A n c] 105)) B (I U kd) (I Y a0) (I Y aY) (I Y bh) (I Y a3) (I U eh) (I U eF) (D A n c) from Blk.alloc tp.o.c _);clear tp;go_wp2_with fail;go_roundg f
     case measure=>omega
     case rel=>exact ⟨_,_,k',cx,gW,oM,cp,B4⟩
    .have nc:¬cK=42:=fun e=>pV (by rw[e];decide);have BY:((cK.toNat:Int)==42)=J:=kba (c:=42) nc;have o4:((cK.toNat:Int) != 42)=K:=(by rw[show (42:Int)=((42:UInt8).toNat:Int) from rfl,kcU];exact uk2.2 nc);have mA:¬cK=43:=fun e=>pV (by rw[e];decide);have BZ:((cK.toNat:Int)==43)=J:=kba (c:=43) mA;have rg:((cK.toNat:Int) != 43)=K:=(by rw[show (43:Int)=((43:UInt8).toNat:Int) from rfl,kcU];exact uk2.2 mA);have iE:¬cK=63:=fun e=>pV (by rw[e];decide);have B1:((cK.toNat:Int)==63)=J:=kba (c:=63) iE;have u1:((cK.toNat:Int) != 63)=K:=(by rw[show (63:Int)=((63:UInt8).toNat:Int) from rfl,kcU];exact uk2.2 iE);have lv:¬cK=123:=fun e=>pV (by rw[e];decide);have B2:((cK.toNat:Int)==123)=J:=kba (c:=123) lv;have u2:((cK.toNat:Int) != 123)=K:=(by rw[show (123:Int)=((123:UInt8).toNat:Int) from rfl,kcU];exact uk2.2 lv);have bH:=mS.o;rw[ua0 nc,ua0 mA,ua0 iE,ua0 lv] at bH;have cp:=hD bH.symm;clear bH mS pV cq nc mA iE lv;go_wp2_with fail;refine bF.o.mono ?_;rintro cG aK ⟨rfl,hf,rfl⟩;have wJ:=hD (za.o.drewN hf);go_wp2_with fail
     all_goals
      go_meet
      case rel=>exact ⟨r,cs,k,J,cp,wJ⟩
 case rest=>
 obtain ⟨r,cs,k,b,cp,mZ⟩:=hcut;obtain ⟨kd,a0,aY,bh,a3,lo,hi,A,n,c,rfl⟩:=mZ.out.v.eight;clear cf fv;obtain ⟨aN,aM,aZ,bE,c2⟩:=mZ.out.s.cells;obtain ⟨⟨⟨b6,bx⟩,et,lf⟩,⟨tc,uQ⟩,Jt,Ju⟩:=R8.cells (show R8 wc B (I U kd) (I Y a0) (I Y aY) (I Y bh) (I Y a3) (I U lo) (I U hi) (D A n c) from mZ.out.c);obtain ⟨oj,wK,wL,Qq⟩:=hd4 mZ.out.z mZ.out.s mZ.out.k mZ.out.v;clear mZ;obtain ⟨⟨⟨r0,d5⟩,fM,jM⟩,⟨rH,nC⟩,rI,nD⟩:=oj.o.cells;obtain ⟨⟨⟨z0,ca⟩,cI,z3⟩,⟨z4,z5⟩,lN,lO⟩:=oj.o.free;obtain ⟨f4,jB,iP⟩:=hd3 (oj.o.all (I U kd) (I Y a0) (I Y aY) (I Y bh) (I Y a3) (I U lo) (I U hi) (D A n c)) (show GS T (mae wc w (I U kd) (I Y a0) (I Y aY) (I Y bh) (I Y a3) (I U lo) (I U hi) (D A n c)) g _ _ from Blk.mae wK.o oM (I U kd) (I Y a0) (I Y aY) (I Y bh) (I Y a3) (I U lo) (I U hi) (D A n c)) (kas wL.o (.inr (uf1 w)) (I U kd) (I Y a0) (I Y aY) (I Y bh) (I Y a3) (I U lo) (I U hi) (D A n c));have pI:=hD (kcZ Qq.o (kas (Kept.refl (fun i=>i=w.heap.size) wc) (.inl rfl) (I U kd) (I Y a0) (I Y aY) (I Y bh) (I Y a3) (I U lo) (I U hi) (D A n c)) (fun i dD _ e=>by have ek:i=w.heap.size:=e;have:=dD.1;omega) (G:=grg w (mae wc w (I U kd) (I Y a0) (I Y aY) (I Y bh) (I Y a3) (I U lo) (I U hi) (D A n c)).heap.size) (fun i dD az=>⟨by have:=dD.1;omega,by have:=dD.2.1;have:=(kas (Kept.refl (fun i=>i=w.heap.size) wc) (.inl rfl) (I U kd) (I Y a0) (I Y aY) (I Y bh) (I Y a3) (I U lo) (I U hi) (D A n c)).size;omega⟩));go_wp2_with fail;obtain ⟨⟨⟨bi,aW⟩,bc,br⟩,⟨bL,d0⟩,d1,d2⟩:=f4.o.cells;unfold mae at bi aW bc br bL d0 d1 d2;refine ub2 (v:=aa #[I .i64 kd,I Y a0,I Y aY,I Y bh,I Y a3,I U lo,I U hi,D A n c]) (by simp[results,results215,go_sem,bi,aW,bc,br,bL,d0,d1,d2]) rfl ?_;rw[cp.o];exact ⟨_,rfl,pI.o,jB.o,iP.o⟩
def km2 (h:P:=by
 go_wp2_with fail;refine bF.o.mono ?_;rintro cG aK ⟨rfl,hf,rfl⟩;have nd:=hD (JA.o.drewN hg hf);obtain ⟨aK,e3⟩:=xE (cT.drewN hf);rw[←e3] at nd ⊢;clear e3 JA bF aN aM aZ bE c2;obtain ⟨aN,aM,aZ,bE,c2⟩:=nd.o.s.cells
 first
 |guard_hyp Qt
  first
  |guard_hyp Qx;go_wp2_with fail;go_meet
   first
   |guard_hyp i2
    case rel=>exact ⟨l,bV,k,K,oM,cp,nd⟩
   |case rel=>exact ⟨l,bV,k,K,⟨ew,oM⟩,cp,nd⟩
  |(first|guard_hyp i2|have B5:=hD (nd.o.at hg (k+1));obtain ⟨dl,hB⟩:=xE (aK.setCell ⟨g,1,Z⟩ (I U ((k+1:Nat):Int)));rw[←hB] at B5;rw[show ((k+1:Nat):Int)=(k:Int)+1 by omega] at hB;have qw:=hD hB;clear hB nd;go_upto_region 5 with (fail);rw[←qw.o];clear aN aM aZ bE c2 qw;obtain ⟨aK,e3⟩:=xE dl;rw[←e3] at B5 ⊢;clear e3;have nd:=hD B5.o;clear B5;obtain ⟨aN,aM,aZ,bE,c2⟩:=nd.o.s.cells);go_wp2_with fail;refine (pJ.o _ nd.o.s).mono ?_;rintro cG bm ⟨cs,rfl,au,mX,gQ⟩;dsimp only at au mX;obtain ⟨kd,a0,aY,bh,a3,lo,hi,A,n,c,rfl⟩:=au.eight;obtain ⟨Jx,oT,Jy,EH⟩:=hd4 au (fun (i:Nat) e=>kbM (i:=i) nd.o.l.1 e) nd.o.z.lt (nd.o.kept hg gQ mX);have gc:=EH.o.l.1.alloc (y #[I .i64 kd,I Y a0,I Y aY,I Y bh,I Y a3,I U lo,I U hi,D A n c] 105);have e9:=kju bm (I U kd) (I Y a0) (I Y aY) (I Y bh) (I Y a3) (I U lo) (I U hi) (D A n c);have d9:∀ u∈([I .i64 kd,I Y a0,I Y aY,I Y bh,I Y a3,I U lo,I U hi,D A n c]:List C),u.oneCell'=K:=(by simp[Value.oneCell']);have ZT:aK.heap.size≤bm.heap.size:=gQ.size;have ka:=Jy.o;have cM:=dc.o;have ds:=jP.o;have cJ:=jQ.o;have eW:=jR.o;clear au mX gQ aN aM aZ bE c2;(first|guard_hyp i2;go_wp2_with (at_builtin;refine kbs _ rfl (.tmp 27) (.tmp 30) 103 rfl (w.heap.size+1) 105 eX (aa #[I .i64 0,I Y 0,I Y 0,I Y 0,I Y 0,I U 0,I U 0,D Z 0 0]) 8 80 underlying103 cM ds cJ eW rfl dC _ l.length bV rfl gc _ _ _ _ [I .i64 kd,I Y a0,I Y aY,I Y bh,I Y a3,I U lo,I U hi,D A n c] rfl e9 d9 (by unfold maxLen;omega) oM (by simp;omega) ?_)|go_wp2_with (at_builtin;refine kbs _ rfl (.tmp 33) (.tmp 36) 103 rfl (w.heap.size+1) 105 eX (aa #[I .i64 0,I Y 0,I Y 0,I Y 0,I Y 0,I U 0,I U 0,D Z 0 0]) 8 80 underlying103 cM ds cJ eW rfl dC _ l.length bV rfl gc _ _ _ _ [I .i64 kd,I Y a0,I Y aY,I Y bh,I Y a3,I U lo,I U hi,D A n c] rfl e9 d9 (by unfold maxLen;omega) oM (by simp;omega) ?_));intro v5 du h5 g3 g7;clear cM ds cJ eW gc e9 d9;have mm:=hD (EH.o.push hg Jx.o ka (fun i e=>(oT.o i e).2) h5 g3 g7);clear h5 g3 g7 EH Jx oT Jy nd;go_wp2_with fail;go_roundg f
   case measure=>omega
   case rel=>exact ⟨_,_,lw,r7,by simp;omega,⟨oM,oM,fun e=>by have:=wF e;simp;omega⟩,x3,mm⟩
 |first
  |guard_hyp Qw;go_wp2_with fail;go_meet
   case rel=>exact ⟨l,bV,k,b,oM,cp,nd⟩
  |go_wp2_with fail;go_meet
   first
   |guard_hyp i2
    case rel=>exact ⟨l,bV,k,b,oM,cp,nd⟩
   |case rel=>exact ⟨l,bV,k,b,⟨ew,oM⟩,cp,nd⟩):=h
def kdJ (h:P:=by go_wp2_with fail;obtain ⟨⟨⟨bi,aW⟩,bc,br⟩,⟨bL,d0⟩,d1,d2⟩:=f4.o.cells;unfold mae at bi aW bc br bL d0 d1 d2;first|guard_hyp NZ;(first|guard_hyp i2;refine ub2 (v:=aa #[I .i64 kd,I Y a0,I Y aY,I Y bh,I Y a3,I U lo,I U hi,D dd n cS]) (by simp[results,results185,go_sem,bi,aW,bc,br,bL,d0,d1,d2]) rfl ?_|refine ub2 (v:=aa #[I .i64 kd,I Y a0,I Y aY,I Y bh,I Y a3,I U lo,I U hi,D dd n cS]) (by simp[results,results158,go_sem,bi,aW,bc,br,bL,d0,d1,d2]) rfl ?_);rw[cp.o];refine ⟨_,rfl,AI.o.kept (kas (Kept.refl (fun i=>i=w.heap.size) wc) (.inl rfl) (I U kd) (I Y a0) (I Y aY) (I Y bh) (I Y a3) (I U lo) (I U hi) (D dd n cS)) (fun i dD _ e=>by have ek:i=w.heap.size:=e;have mh:=dD.1;omega) (fun i dD az=>⟨by have mh:=dD.1;omega,ua7 az (kas (Kept.refl (fun i=>i=w.heap.size) wc) (.inl rfl) (I U kd) (I Y a0) (I Y aY) (I Y bh) (I Y a3) (I U lo) (I U hi) (D dd n cS)).size⟩),jB.o,iP.o⟩|guard_hyp Qy;(first|guard_hyp i2;refine ub2 (v:=aa #[I .i64 3,I Y 0,I Y 0,I Y 0,I Y 0,I U 0,I U 0,D A eK c]) (by simp[results,results185,go_sem,bi,aW,bc,br,bL,d0,d1,d2]) rfl ?_|refine ub2 (v:=aa #[I .i64 4,I Y 0,I Y 0,I Y 0,I Y 0,I U 0,I U 0,D A eK c]) (by simp[results,results158,go_sem,bi,aW,bc,br,bL,d0,d1,d2]) rfl ?_);rw[cp.o];refine ⟨_,rfl,?_,jB.o,iP.o⟩;(first|guard_hyp i2;have lP:=(kas (Kept.refl (fun i=>i=w.heap.size) wc) (.inl rfl) (I U 3) (I Y 0) (I Y 0) (I Y 0) (I Y 0) (I U 0) (I U 0) (D A eK c));exact kkn 3 qV.o (fQ.o.keep (fun i dD az=>lP.block i az (fun e=>by have ek:i=w.heap.size:=e;have mh:w.heap.size+1≤i:=dD;omega)) lP.size (fun i dD az=>⟨by have mh:w.heap.size+1≤i:=dD;omega,ua7 az lP.size⟩)) (iQ.o.kept lP (fun i dD _ e=>by have ek:i=w.heap.size:=e;have mh:=dD.1;omega) (fun i dD az=>⟨by have mh:=dD.1;omega,ua7 az (kas (Kept.refl (fun i=>i=w.heap.size) wc) (.inl rfl) (I U 3) (I Y 0) (I Y 0) (I Y 0) (I Y 0) (I U 0) (I U 0) (D A eK c)).size⟩))|have lP:=(kas (Kept.refl (fun i=>i=w.heap.size) wc) (.inl rfl) (I U 4) (I Y 0) (I Y 0) (I Y 0) (I Y 0) (I U 0) (I U 0) (D A eK c));exact kkn 4 qV.o (fQ.o.keep (fun i dD az=>lP.block i az (fun e=>by have ek:i=w.heap.size:=e;have mh:w.heap.size+1≤i:=dD;omega)) lP.size (fun i dD az=>⟨by have mh:w.heap.size+1≤i:=dD;omega,ua7 az lP.size⟩)) (iQ.o.kept lP (fun i dD _ e=>by have ek:i=w.heap.size:=e;have mh:=dD.1;omega) (fun i dD az=>⟨by have mh:=dD.1;omega,ua7 az (kas (Kept.refl (fun i=>i=w.heap.size) wc) (.inl rfl) (I U 4) (I Y 0) (I Y 0) (I Y 0) (I Y 0) (I U 0) (I U 0) (D A eK c)).size⟩)))|guard_hyp Qz;refine ub2 (v:=aa #[I .i64 1,I Y 0,I Y 0,I Y 0,I Y 0,I U 0,I U 0,D Z 0 0]) (by simp[results,results185,go_sem,bi,aW,bc,br,bL,d0,d1,d2]) rfl ?_;rw[cp.o];refine ⟨_,rfl,?_,jB.o,iP.o⟩;exact kkn 1 rfl ⟨rfl,fun h=>absurd h (by simp)⟩ (by unfold RxVs;rfl)|guard_hyp RA;refine ub2 (v:=ag #[aa #[I .i64 kd,I Y a0,I Y aY,I Y bh,I Y a3,I U lo,I U hi,D A n c],I U 0]) (by simp[results,results123,go_sem,bi,aW,bc,br,bL,d0,d1,d2]) rfl ?_;exact ⟨⟨_,by rw[pq.o],by rw[nF.o];exact ⟨pI.o,zt.o⟩⟩,ho.o⟩|guard_hyp TV;(first|guard_hyp oB;refine ub2 (v:=aa #[I .i64 3,I Y aT,I Y aU,I Y aX,I Y a2,I U lo,I U hi,D fa ps.length ft]) (by simp[results,results125,go_sem,bi,aW,bc,br,bL,d0,d1,d2]) rfl ?_|refine ub2 (v:=aa #[I .i64 kind,I Y aT,I Y aU,I Y aX,I Y a2,I U lo,I U hi,D fa ps.length ft]) (by simp[results,results125,go_sem,bi,aW,bc,br,bL,d0,d1,d2]) rfl ?_);exact ⟨ho.o,_,rfl,LN.o⟩|guard_hyp Rw;refine ub2 (v:=ag #[aa #[I .i64 0,I Y 0,I Y 0,I Y 0,I Y 0,I U 0,I U 0,D Z 0 0],I U 4]) (by simp[results,results123,go_sem,bi,aW,bc,br,bL,d0,d1,d2]) rfl ?_;exact ⟨⟨zeroC,by rw[pq.o];rfl,by rw[nF.o];rfl⟩,ho.o⟩|refine ub2 (v:=ag #[aa #[I .i64 0,I Y 0,I Y 0,I Y 0,I Y 0,I U 0,I U 0,D Z 0 0],I U 9]) (by simp[results,results123,go_sem,bi,aW,bc,br,bL,d0,d1,d2]) rfl ?_;exact ⟨⟨zeroC,by rw[pq.o];rfl,by rw[nF.o];rfl⟩,ho.o⟩):=h
def kl0 (h:P:=by have bw:decide (k<T.length)=K:=ub3 oM;rw[bw] at bF;(first|guard_hyp i2;have EI:((cK.toNat:Int)==124)=J:=kba (c:=124) ld;have EJ:((cK.toNat:Int) != 124)=K:=(by rw[show (124:Int)=((124:UInt8).toNat:Int) from rfl,kcU];exact uk2.2 ld);have Qr:((cK.toNat:Int)==41)=J:=kba (c:=41) nw;have Qs:((cK.toNat:Int) != 41)=K:=by rw[show (41:Int)=((41:UInt8).toNat:Int) from rfl,kcU];exact uk2.2 nw|have EI:((cK.toNat:Int)==124)=K:=(by rw[ld];rfl);have EJ:((cK.toNat:Int) != 124)=J:=by rw[ld];rfl);have Qt:=();exact km2):=h
def kia (h:P:=by exact km2):=h
def yq4 (h:P:=by
 obtain ⟨eX,cM,ds,cJ,eW⟩:=ug6 kf1;obtain ⟨dc,jP,jQ,jR⟩:=hd4 cM ds cJ eW;clear cM ds cJ eW;have hg:=h.lt;(first|guard_hyp i2;obtain ⟨fG,cO⟩:=xE (Gr.sqn T E k0)|obtain ⟨fG,cO⟩:=xE (Gr.alt T E k0));rw[←cO];(first|guard_hyp i2;unfold Gr.sqn at cO;obtain ⟨R,aH⟩:=xE (Gr.mbf T E (T.length+2) [] k0 J)|unfold Gr.alt at cO;have EK:=keY kK hq aw;have qn:=hD (ce k0 (w.alloc (y #[I .i64 0,I Y 0,I Y 0,I Y 0,I Y 0,I U 0,I U 0,D Z 0 0] 105)) (nR) aw (h.alloc _));obtain ⟨d5,k1,cL,kT⟩:∃ d5 k1 cL,Gr.sqn T E k0=(d5,k1,cL):=⟨_,_,_,rfl⟩;rw[kT] at cO EK qn;dsimp only at cO EK;obtain ⟨Qu,vY,Qv⟩:=EK;obtain ⟨R,aH⟩:=xE (Gr.mbh T E (T.length+2) [d5] k1 cL));rw[←aH] at cO;obtain ⟨cf,a1,c1⟩:=hd3 cO aH hq;(first|guard_hyp i2;have a8:=hD (fun k1 aq (aD:k0≤k1) (az:k1<T.length) (al:GS T aq g k1 J)=>kzC E aq al dr az hd kK hq (fun bS aF ao av bk=>ce bS aF oM av bk));have o5:=hD (⟨h.alloc _,LSt.nil _ _,R8.mk0 w w rfl,(Kept.refl _ w).alloc _⟩:LqSt T w g [] [] (D Z 0 0) k0 J (w.alloc (y #[I .i64 0,I Y 0,I Y 0,I Y 0,I Y 0,I U 0,I U 0,D Z 0 0] 105)))|have a8:=hD ce;have dI:=hD (R8.mk0 w w rfl);have jd:=hD ((Kept.refl (isG g) w).alloc (y #[I .i64 0,I Y 0,I Y 0,I Y 0,I Y 0,I U 0,I U 0,D Z 0 0] 105)));obtain ⟨aq,aQ⟩:=xE (w.alloc (y #[I .i64 0,I Y 0,I Y 0,I Y 0,I Y 0,I U 0,I U 0,D Z 0 0] 105));(first|guard_hyp i2;rw[←aQ] at o5|rw[←aQ] at qn dI jd;have fy:=wS aQ);have cd:=hD aQ;(first|guard_hyp i2;clear h aQ cO aH ce hq;go_enter func185,ntmps185|clear h aQ cO aH ce hq kT;go_enter func158,ntmps158;go_upto_region 1 with (fail);rw[←cd.o];clear cd;go_wp2_with fail;refine qn.o.mono ?_;rintro cG aF ⟨cs,rfl,au,iN,cu⟩;dsimp only at au iN;obtain ⟨kd,a0,aY,bh,a3,lo,hi,A,n,c,rfl⟩:=au.eight;have Jz:aq.heap.size≤aF.heap.size:=cu.size;have o5:=hD (⟨iN.alloc _,LSt.one (lo:=w.heap.size+1) au (fun i dD _=>by have:=dD.1;omega) oM,(dI.o.kept cu (fun e=>by have ek:w.heap.size=g:=e;omega)).alloc _,(jd.o.maa cu).alloc _⟩:LqSt T w g [d5] [I .i64 kd,I Y a0,I Y aY,I Y bh,I Y a3,I U lo,I U hi,D A n c] (D (N ⟨aF,0,Z⟩) 1 1) k1 cL (aF.alloc (y #[I .i64 kd,I Y a0,I Y aY,I Y bh,I Y a3,I U lo,I U hi,D A n c] 105)));obtain ⟨a6,cl⟩:=xE (aF.alloc (y #[I .i64 kd,I Y a0,I Y aY,I Y bh,I Y a3,I U lo,I U hi,D A n c] 105));rw[←cl] at o5;have ea:=hD cl;clear au iN cu cl qn dI jd);go_upto_block 0 with (fail);first|guard_hyp i2;rw[←cd.o];clear cd;go_cut [3] (fun v wc=>∃(l:List Rx) (bV:List C) (k:Nat) (b:Bool),l.length≤T.length+2∧Hz (fG=(Rx.seq l,k,b))∧Hz (LqSt T w g l bV v k b wc))|rw[←ea.o];clear ea;go_cut [3] (fun v wc=>∃(l:List Rx) (bV:List C) (k:Nat) (b:Bool),(1≤l.length∧l.length≤T.length+2)∧Hz (fG=(Rx.alt l,k,b))∧Hz (LqSt T w g l bV v k b wc))
 case first=>
  go_wp2_with fail
  first
  |guard_hyp i2;go_loopg [3] (T.length+2) (fun f v wr=>∃(l:List Rx) (bV:List C) (k:Nat) (b:Bool),l.length≤T.length+1∧(k0≤k∧k≤T.length+d+1∧(b=J→k≤T.length∧l.length≤k∧T.length+2≤k+f))∧Hz (Gr.mbf T E f l k b=R)∧Hz (LqSt T w g l bV v k b wr))
   case atStart=>exact ⟨[],[],k0,J,by simp,⟨nR,oM,fun _=>⟨aw,by simp,oM⟩⟩,hD a1.o.symm,o5⟩
  |go_loopg [3] (T.length+2) (fun f v wr=>∃(l:List Rx) (bV:List C) (k:Nat) (b:Bool),(1≤l.length∧l.length≤T.length+2)∧(k0≤k∧k≤T.length+d+1∧(b=J→k≤T.length∧l.length≤k+1∧T.length+2≤k+f))∧Hz (Gr.mbh T E f l k b=R)∧Hz (LqSt T w g l bV v k b wr))
   case atStart=>exact ⟨[d5],_,k1,cL,by simp,⟨Qu,vY,fun e=>⟨Qv e,by simp,oM⟩⟩,hD a1.o.symm,o5⟩
  case round=>
   (first|guard_hyp i2;obtain ⟨l,bV,k,b,dz,⟨fZ,cu,jE⟩,cZ,tt⟩:=hrel|obtain ⟨l,bV,k,b,⟨ew,dz⟩,⟨fZ,cu,jE⟩,cZ,tt⟩:=hrel);obtain ⟨cK,cq⟩:=xE (Gr.nx T k);have bF:=hD (kdb wr tt.out.s dr oM);rw[←cq] at bF;obtain ⟨aN,aM,aZ,bE,c2⟩:=tt.out.s.cells;obtain ⟨Ey,Ez⟩:=u8b cK;obtain ⟨cT,gd⟩:=xE wr;subst gd;have JA:=hD tt.out;have bH:=cZ.out;clear cZ tt o5;first|guard_hyp i2;(rcases kyS (b:=b) cq with ⟨cg,aA⟩|⟨cg,gp,ld,nw,rfl⟩)|(rcases ky3 (b:=b) cq with ⟨cg,aA⟩|⟨cg,gp,ld,rfl⟩)
   ·(first|guard_hyp i2;rw[kyU cg] at bH;have cp:=hD (show fG=(Rx.seq l,k,b) by rw[cf.o,←bH])|rw[ky5 cg] at bH;have cp:=hD (show fG=(Rx.alt l,k,b) by rw[cf.o,←bH]));clear bH cg cq jE cf a1 a8;first|guard_hyp i2;(rcases aA with j5|⟨gp,ld⟩|⟨gp,ld,nw⟩|⟨gp,ld,nw,rfl⟩)|(rcases aA with j5|⟨gp,ld⟩|⟨gp,ld,rfl⟩)
    .have bw:decide (k<T.length)=J:=ua5 oM;rw[bw] at bF;exact kia
    first
    |guard_hyp i2
     .have bw:decide (k<T.length)=K:=ub3 oM;rw[bw] at bF;have EI:((cK.toNat:Int)==124)=K:=(by rw[ld];try rfl);have EJ:((cK.toNat:Int) != 124)=J:=(by rw[ld];try rfl);have Qw:=();exact kia
    |skip
    .have bw:decide (k<T.length)=K:=ub3 oM;rw[bw] at bF;have EI:((cK.toNat:Int)==124)=J:=kba (c:=124) ld;have EJ:((cK.toNat:Int) != 124)=K:=(by rw[show (124:Int)=((124:UInt8).toNat:Int) from rfl,kcU];exact uk2.2 ld);(first|guard_hyp i2;have Qr:((cK.toNat:Int)==41)=K:=(by rw[nw];try rfl);have Qs:((cK.toNat:Int) != 41)=J:=by rw[nw];try rfl|skip);exact kia
    .have Qx:=();exact kl0
   .obtain ⟨fd,dg,gQ⟩:=jE rfl;obtain ⟨f,rfl⟩:=xS gk;(first|guard_hyp i2;rw[Gr.mbf,ua0 (by rw[cg];decide)] at bH;have B6:=kkj kK c1.o gp;obtain ⟨nC,lw,r7,pH⟩:∃ nC lw r7,Gr.cnt T E k=(nC,lw,r7):=⟨_,_,_,rfl⟩;have pJ:=hD (fun aq al=>a8.o k aq fZ gp al)|rw[Gr.mbh,ua1 cg] at bH;have B6:=keY kK c1.o (k:=k+1) oM;obtain ⟨nC,lw,r7,pH⟩:∃ nC lw r7,Gr.sqn T E (k+1)=(nC,lw,r7):=⟨_,_,_,rfl⟩;have pJ:=hD (fun aq al=>a8.o (k+1) aq oM oM al));rw[pH] at bH B6 pJ;dsimp only at bH B6;obtain ⟨jV,kZ,wF⟩:=B6;have x3:=hD bH;clear bH pH cg cq jE cf a1 a8;exact kl0
 case rest=>
 (first|guard_hyp i2;obtain ⟨l,bV,k,b,dz,cp,o5⟩:=hcut|obtain ⟨l,bV,k,b,⟨ew,dz⟩,cp,o5⟩:=hcut);clear cf a1 a8 c1;obtain ⟨oj,wK,wL⟩:=hd3 o5.o.z o5.o.s o5.o.k;have EL:=o5.o.l;obtain ⟨A,c,rfl,dx⟩:=kds EL.1;have dU:=EL.2;clear o5 EL;by_cases Yp:2≤l.length
 .obtain ⟨eK,kO⟩:=xE l.length;have t0:((eK:Int)==0)=J:=(by simp;omega);have bb:((eK:Int)==1)=J:=(by simp;omega);rw[←kO] at dx dz ⊢;obtain ⟨fQ,iQ,qV⟩:=hd3 dx dU kO;have kI:2≤eK:=oM;(first|guard_hyp i2;rw[Rx.mco oM] at cp|rw[Rx.mca oM] at cp);clear dx dU kO;obtain ⟨⟨⟨r0,d5⟩,fM,jM⟩,⟨rH,nC⟩,rI,nD⟩:=oj.o.cells;obtain ⟨⟨⟨z0,ca⟩,cI,z3⟩,⟨z4,z5⟩,lN,lO⟩:=oj.o.free;(first|guard_hyp i2;obtain ⟨f4,jB,iP⟩:=hd3 (oj.o.all (I U 3) (I Y 0) (I Y 0) (I Y 0) (I Y 0) (I U 0) (I U 0) (D A eK c)) (show GS T (mae wc w (I U 3) (I Y 0) (I Y 0) (I Y 0) (I Y 0) (I U 0) (I U 0) (D A eK c)) g _ _ from Blk.mae wK.o oM (I U 3) (I Y 0) (I Y 0) (I Y 0) (I Y 0) (I U 0) (I U 0) (D A eK c)) (kas wL.o (.inr (uf1 w)) (I U 3) (I Y 0) (I Y 0) (I Y 0) (I Y 0) (I U 0) (I U 0) (D A eK c))|have f4:=hD (oj.o.all (I U 4) (I Y 0) (I Y 0) (I Y 0) (I Y 0) (I U 0) (I U 0) (D A eK c));have jB:=hD (show GS T (mae wc w (I U 4) (I Y 0) (I Y 0) (I Y 0) (I Y 0) (I U 0) (I U 0) (D A eK c)) g _ _ from Blk.mae wK.o oM (I U 4) (I Y 0) (I Y 0) (I Y 0) (I Y 0) (I U 0) (I U 0) (D A eK c));have iP:=hD (kas wL.o (.inr (uf1 w)) (I U 4) (I Y 0) (I Y 0) (I Y 0) (I Y 0) (I U 0) (I U 0) (D A eK c)));have Qy:=();exact kdJ
 first
 |guard_hyp i2;by_cases EM:l.length=0
  .obtain rfl:l=[]:=uq2.1 EM;simp only[uj7] at dx ⊢;clear dx dU;obtain ⟨⟨⟨r0,d5⟩,fM,jM⟩,⟨rH,nC⟩,rI,nD⟩:=oj.o.cells;obtain ⟨⟨⟨z0,ca⟩,cI,z3⟩,⟨z4,z5⟩,lN,lO⟩:=oj.o.free;obtain ⟨f4,jB,iP⟩:=hd3 (oj.o.all (I U 1) (I Y 0) (I Y 0) (I Y 0) (I Y 0) (I U 0) (I U 0) (D Z 0 0)) (show GS T (mae wc w (I U 1) (I Y 0) (I Y 0) (I Y 0) (I Y 0) (I U 0) (I U 0) (D Z 0 0)) g _ _ from Blk.mae wK.o oM (I U 1) (I Y 0) (I Y 0) (I Y 0) (I Y 0) (I U 0) (I U 0) (D Z 0 0)) (kas wL.o (.inr (uf1 w)) (I U 1) (I Y 0) (I Y 0) (I Y 0) (I Y 0) (I U 0) (I U 0) (D Z 0 0));have Qz:=();exact kdJ
 |have EM:¬l.length=0:=oM
 obtain ⟨d5,rfl⟩:∃ d5,l=[d5]:=by
  match l,Yp,EM with
  |[d5],_,_=>exact ⟨d5,rfl⟩
  |[],_,h=>exact absurd rfl h
  |_::_::_,h,_=>exact absurd (by simp) h
 obtain ⟨pK,AM,rfl,j6,eZ,cq⟩:=dx.2 (by simp);exact kmM):=h
structure LqSt (T:List UInt8) (w:O) (g:Nat) (l:List Rx) (bV:List C) (v:C) (k:Nat) (b:Bool) (wr:O):Prop where
 s:GS T wr g k b
 l:LSt (w.heap.size+1) v l bV wr
 z:R8 wr w (I U 0) (I Y 0) (I Y 0) (I Y 0) (I Y 0) (I U 0) (I U 0) (D Z 0 0)
 k:Kept (isG g) w wr
section
variable {T:List UInt8} {w:O} {g:Nat} {l:List Rx} {bV:List C} {v:C} {k:Nat} {b:Bool} {wr:O}
theorem LqSt.kept {w':O} {k':Nat} {cx:Bool} (h:LqSt T w g l bV v k b wr) (hg:g<w.heap.size) (aw:Kept (isG g) wr w') (al:GS T w' g k' cx):LqSt T w g l bV v k' cx w':=
 ⟨al,h.l.kept aw (fun i af _ e=>by have ek:i=g:=e;omega),h.z.kept aw (fun e=>by have ek:w.heap.size=g:=e;omega),h.k.maa aw⟩
theorem LqSt.drewN (h:LqSt T w g l bV v k b wr) (hg:g<w.heap.size) (n:Nat):LqSt T w g l bV v k b (wr.drewN n):=h.kept hg ((Kept.refl (isG g) wr).drewN n) (h.s.drewN n)
theorem LqSt.at (h:LqSt T w g l bV v k b wr) (hg:g<w.heap.size) (k':Nat):LqSt T w g l bV v k' b (wr.setCell ⟨g,1,Z⟩ (I U k')):=
 h.kept hg ((Kept.refl (isG g) wr).setCell (p:=⟨g,1,Z⟩) (.inl rfl) _) (h.s.go k')
theorem LqSt.push {lo hi:Nat} {bm:O} {v5:C} {r:Rx} {cs:List C} {o:Obj} (h:LqSt T w g l bV v k b wr) (hg:g<w.heap.size) (au:RxV wr (grg lo hi) r cs) (kN:w.heap.size<lo) (ak:∀ i,v.ownBlock=N i→i<lo)
 (h5:bm.ownsRow (w.heap.size+1) 105 8 v5 (l.length+1) (bV++cs)) (g3:(wr.alloc o).grownBy bm v.ownBlock) (g7:v5.ownBlock=v.ownBlock∨v5.ownBlock=N (wr.heap.size+1)):LqSt T w g (l++[r]) (bV++cs) v5 k b bm:=by
 have j5:=fun i (e:v.ownBlock=N i)=>kbM h.l.1 e;have gJ:Kept (fun i=>v.ownBlock=N i) (wr.alloc o) bm:=Kept.mbH g3 fun hG e=>e;have xZ:Kept (fun _=>False) wr (wr.alloc o):=(Kept.refl _ _).alloc o;refine ⟨GS.kept (h.s.alloc o) gJ (fun e=>by have:=j5 _ e;omega),?_,R8.kept (h.z.alloc o) gJ (fun e=>by have:=j5 _ e;omega),(h.k.alloc o).trans (gJ.mono fun i e=> .inr (by have:=j5 _ e;omega))⟩;refine LSt.push (F:=fun i=>grg lo hi i∧i<wr.heap.size) ?_ h5 g3 (by simpa using g7) (au.kept xZ (fun _ _ _=>id) fun _ h az=>⟨h,az⟩) fun i hi g2=>⟨by have:=hi.1.1;omega,fun e=>by have:=ak _ e;have:=hi.1.1;omega⟩;exact h.l.2.kept xZ (fun _ _ _=>id) fun i hi g2=>⟨hi.1,by simp;omega,hi.2.2⟩
end
def kkn {w:O} {F:Nat→Prop} {l:List Rx} {bV:List C} {A:Option ae} {n c:Nat} (kd:Nat) (ax:n=l.length) (am:RdF w F 8 A n bV) (au:RxVs w F l bV):RxV w F (Rx.plain kd l) [I .i64 kd,I Y 0,I Y 0,I Y 0,I Y 0,I U 0,I U 0,D A n c]:=by unfold Rx.plain RxV;rw[ax] at am ⊢;exact ⟨A,c,bV,rfl,am,au⟩
theorem kyU {T:List UInt8} {E:Nat→Rx×Nat×Bool} {l:List Rx} {k:Nat} {b:Bool} (h:(kbu T k||b)=K) (f:Nat):Gr.mbf T E f l k b=(l,k,b):=by
 cases f with
 |zero=>rfl
 |succ f=>rw[Gr.mbf,ua1 h]
theorem ky5 {T:List UInt8} {E:Nat→Rx×Nat×Bool} {l:List Rx} {k:Nat} {b:Bool} (h:¬(T[k]? =N 124∧b=J)) (f:Nat):Gr.mbh T E f l k b=(l,k,b):=by
 cases f with
 |zero=>rfl
 |succ f=>rw[Gr.mbh,ua0 h]
theorem Rx.mco {l:List Rx} (h:2≤l.length):Rx.seq l=Rx.plain 3 l:=by
 match l,h with
 |r::q::l,_=>rfl
theorem kyS {T:List UInt8} {k:Nat} {b:Bool} {cK:UInt8} (an:cK=Gr.nx T k):((kbu T k||b)=K∧(T.length≤k∨(k<T.length∧cK=124)∨(k<T.length∧¬cK=124∧cK=41)∨(k<T.length∧¬cK=124∧¬cK=41∧b=K)))∨((kbu T k||b)=J∧k<T.length∧¬cK=124∧¬cK=41∧b=J):=by
 rcases ug1 k T.length with h|h
 .have e:T[k]? =N cK:=(by rw[an,ua3 h];exact ud4 N (kcd (ua3 h)).symm);have hd:decide (T.length≤k)=J:=ua5 oM;unfold kbu;rw[e,hd];by_cases af:cK=124
  .exact .inl ⟨by rw[af];rfl, .inr (.inl ⟨h,af⟩)⟩
  by_cases ao:cK=41
  .exact .inl ⟨by rw[ao];rfl, .inr (.inr (.inl ⟨h,af,ao⟩))⟩
  cases b with
  |true=>exact .inl ⟨by simp, .inr (.inr (.inr ⟨h,af,ao,rfl⟩))⟩
  |false=>exact .inr ⟨by simp[af,ao],h,af,ao,rfl⟩
 .exact .inl ⟨by unfold kbu;rw[ub3 h];rfl, .inl h⟩
theorem ky3 {T:List UInt8} {k:Nat} {b:Bool} {cK:UInt8} (an:cK=Gr.nx T k):(¬(T[k]? =N 124∧b=J)∧(T.length≤k∨(k<T.length∧¬cK=124)∨(k<T.length∧cK=124∧b=K)))∨((T[k]? =N 124∧b=J)∧k<T.length∧cK=124∧b=J):=by
 rcases ug1 k T.length with h|h
 .have e:T[k]? =N cK:=(by rw[an,ua3 h];exact ud4 N (kcd (ua3 h)).symm);rw[e];by_cases af:cK=124
  .cases b with
   |true=>exact .inl ⟨fun h=>by simp at h, .inr (.inr ⟨h,af,rfl⟩)⟩
   |false=>exact .inr ⟨⟨by rw[af],rfl⟩,h,af,rfl⟩
  .exact .inl ⟨fun dq=>af (by injection dq.1), .inr (.inl ⟨h,af⟩)⟩
 .exact .inl ⟨fun dq=>(by rw[ud5 h] at dq;cases dq.1), .inl h⟩
def kyK {T:List UInt8} {g k0 d:Nat} (E:Nat→Rx×Nat×Bool) (w:O) (h:GS T w g k0 J) (dr:T.length≤262144) (aw:k0≤T.length) (hd:d≤300000) (kK:2≤d) (hq:Gr.Ok T d E)
 (ce:∀ k1 aq,k0<k1→k1≤T.length→GS T aq g k1 J→L prog 158 #[ab (N ⟨g,0,Z⟩)] aq (kdi T aq g (E k1))):L prog 185 #[ab (N ⟨g,0,Z⟩)] w (kdi T w g (Gr.sqn T E k0)):=by
 have i2:=();exact yq4
def kzG {T:List UInt8} {g k0 d:Nat} (E:Nat→Rx×Nat×Bool) (w:O) (h:GS T w g k0 J) (dr:T.length≤262144) (aw:k0≤T.length) (hd:d≤300000) (kK:2≤d) (hq:Gr.Ok T d E)
 (ce:∀ k1 aq,k0≤k1→k1≤T.length→GS T aq g k1 J→L prog 185 #[ab (N ⟨g,0,Z⟩)] aq (kdi T aq g (Gr.sqn T E k1))):L prog 158 #[ab (N ⟨g,0,Z⟩)] w (kdi T w g (Gr.alt T E k0)):=by
 exact yq4
theorem krc {T:List UInt8} {g:Nat} (dr:T.length≤262144):∀(n k:Nat) (w:O),GS T w g k J→k≤T.length→T.length-k<n→n≤262145→L prog 158 #[ab (N ⟨g,0,Z⟩)] w (kdi T w g (Gr.exN T n k))
 |0,_,_,_,_,h,_=>by omega
 |n+1,k,w,h,aw,ax,fT=>by have bQ:=krc (T:=T) (g:=g) dr n;refine kzG (d:=n+2) (Gr.exN T n) w h dr aw oM oM (kf5 n) (fun k1 aq fZ cu af=>?_);exact kyK (d:=n+2) (Gr.exN T n) aq af dr cu oM oM (kf5 n) fun bS aF fd dg ao=>bQ bS aF ao dg oM oM
def kmE (h:P:=by
 go_wp2_with fail;go_loopg [3,4] (ps.length+1) (fun f t i wr=>∃ k:Nat,k≤ps.length∧ps.length<k+f∧i=I U k∧t=I U (min (kav Rx.mbp (ps.take k)) 4097:Nat)∧Hz (H w w wr)∧Hz (R8 wr w (I U kind) (I Y aT) (I Y aU) (I Y aX) (I Y a2) (I U lo) (I U hi) (D A ps.length c)))
 case atStart=>exact ⟨0,ud1 _,oM,rfl,by rw[um1];rfl,a7,dI⟩
 case round=>exact kgL):=h
def kmC (h:P:=by
 clear a7 dI;obtain ⟨k,aw,fo,rfl,rfl,aV,a1⟩:=hrel;obtain ⟨f,rfl⟩:=xS gk;obtain ⟨⟨⟨aN,aM⟩,aZ,bC⟩,⟨b1,c5⟩,ct,bI⟩:=a1.o.cells;obtain ⟨cT,gd⟩:=xE wr;subst gd;have qy:ps.length≤1000000000:=(by have:=kcE ps;omega);by_cases bG:k<ps.length
 first
 |guard_hyp QG
  .exact kd0
  .exact kfw
 |first
  |guard_hyp QU
   .have QA:=();exact kd0
   .exact kfw
  |guard_hyp QV
   .have QB:=();exact kd0
   .exact kfw
  |guard_hyp QH
   .exact kd0
   .exact kfw
  |.have QD:=();exact kd0
   .exact kfw):=h
def kmU (h:P:=by
 go_enter func191,ntmps191;go_upto_block 0 with (fail);rw[←cd.o];clear cd;go_cut [3] (fun t wc=>t=I U (min (kav Rx.mbp ps) 4097:Nat)∧Hz (H w w wc)∧Hz (R8 wc w (I U kind) (I Y aT) (I Y aU) (I Y aX) (I Y a2) (I U lo) (I U hi) (D A ps.length c)))
 case first=>exact kmE
 first
 |guard_hyp QY
  case rest=>have QE:=();exact kh9
 |have QF:=();exact kh9):=h
def kmP (h:P:=by
 go_wp2_with fail;go_loopg [3,4] (ps.length+1) (fun f t i wr=>∃ k:Nat,k≤ps.length∧ps.length<k+f∧i=I U k∧t=I U (min (kaM kind+kav Rx.mbr (ps.take k)) 65:Nat)∧Hz (H w w wr)∧Hz (R8 wr w (I U kind) (I Y aT) (I Y aU) (I Y aX) (I Y a2) (I U lo) (I U hi) (D A ps.length c)))
 case atStart=>exact ⟨0,ud1 _,oM,rfl,by rw[um1];rw[pr.o];rfl,a7,dI⟩
 first
 |guard_hyp QL
  case round=>have QG:=();exact kmC
 |have QH:=();exact kgL):=h
def kip (h:P:=by
 obtain ⟨im,iR,je⟩:=iQ.o.get k x aA;obtain ⟨cx,dp,rfl,j6,eZ,cq⟩:=fQ.o.2 oM;have oJ:=kfH ps k x aA;have pp:=kg3 ps (k+1)
 first
 |guard_hyp QS;have QI:=();exact knk
 |guard_hyp Q0;have dN:=hP.o;exact knk
 |have gj:=iR.kch ei.o b4.o;obtain ⟨kd,a0,aY,bh,a3,eh,eF,dd,jC,cS,rfl⟩:=iR.eight;have nM:cx<c:=b4.o cx j6;have fI:∀ j u,[I .i64 kd,I Y a0,I Y aY,I Y bh,I Y a3,I U eh,I U eF,D dd jC cS][j]? =N u→cT.cell? ⟨cx,dp+k*8+j,Z⟩=N u:=fun j u aI=>by have:=cq (k*8+j) u (je j u aI);rw[show dp+k*8+j=dp+(k*8+j) by omega];exact (ue6 (ei.o.low cx nM eZ)).trans this
  have bu:=fI 0 _ rfl;have bY:=fI 1 _ rfl;have cP:=fI 2 _ rfl;have c8:=fI 3 _ rfl;have dj:=fI 4 _ rfl;have gK:=fI 5 _ rfl;have f3:=fI 6 _ rfl;have h2:=fI 7 _ rfl;rw[uh4] at bu;have fl:=krl (E:=(fun s p=>Rg.orP (Rg.mak n p) s)) (a:=((J,0,0),bn)) aA;have oR:=kpo aA;obtain ⟨u3,mU⟩:=xE ((ps.take k).foldl (fun s p=>Rg.orP (Rg.mak n p) s) ((J,0,0),bn));rw[←mU] at ge nQ de a8 fl;obtain ⟨⟨bw,f0,b6⟩,gz⟩:=u3;clear mU;have EN:gz.S.length+(x.pos+kaE (ps.drop (k+1)))≤64:=(by rw[←oR];exact nQ.o);have dz:=keS n x (by have:=hP.o;omega) (kdX lA.o aA) gz ge.o.2.ok;have jo:=keR n x (kcW jU.o aA) gz ge.o.2;have mB:=dc.o x (by have:=hP.o;omega) _ cT F c gz gj b4.o (kdX lA.o aA) (kcW jU.o aA) oM a8.o ge.o.2 oM;obtain ⟨rh,jY⟩:=xE (Rg.mak n x gz);rw[←jY] at dz jo mB;obtain ⟨⟨aL,b2,bx⟩,ig⟩:=rh;have tu:(ps.take (k+1)).foldl (fun s p=>Rg.orP (Rg.mak n p) s) ((J,0,0),bn)=((bw||aL,f0|||b2,b6|||bx),ig):=(by rw[fl];show Rg.orP (Rg.mak n x) ((bw,f0,b6),gz)=_;unfold Rg.orP;rw[←jY]);have ol:OkS ((bw||aL,f0|||b2,b6|||bx),ig):=⟨⟨kdu ge.o.1.1 jo.1.1,kdu ge.o.1.2 jo.1.2⟩,jo.2⟩;have wM:ig.S.length+kaE (ps.drop (k+1))≤64:=(by have:=dz.2;dsimp only at this;omega);have QJ:=();exact km5):=h
def kmJ (h:P:=by have c2:((kind:Int)==2)=J:=(by simp;omega);have JB:((kind:Int) != 2)=K:=(by simp;omega);have pr:=hD (show kaM kind=0 by unfold kaM;rw[ua0 oM]);have kP:((kind:Int)==5)=K:=(by simp;omega);first|guard_hyp QX;have wl:decide (0≤hi)=K:=(by simp;omega);have cf:=hD (show kind=5∧0≤hi by omega);clear ds cJ;have QK:=();exact kiD|have wl:decide (0≤hi)=J:=(by simp;omega);have cf:=hD (show kind=5∧hi= -1 by omega);clear ds cJ eW;exact kiD):=h
def kiD (h:P:=by
 go_enter func190,ntmps190;go_upto_block 0 with (fail);rw[←cd.o];clear cd;go_cut [3] (fun t wc=>t=I U (min (kaM kind+kav Rx.mbr ps) 65:Nat)∧Hz (H w w wc)∧Hz (R8 wc w (I U kind) (I Y aT) (I Y aU) (I Y aX) (I Y a2) (I U lo) (I U hi) (D A ps.length c)))
 case first=>have QL:=();exact kmP
 first
 |guard_hyp QW
  case rest=>exact kgz
 |guard_hyp QK
  case rest=>have QM:=();exact kgz
 |have QN:=();exact kgz):=h
def kgL (h:P:=by exact kmC):=h
def knk (h:P:=by
 have gj:=iR.kept (Kept.of_below (F:=fun _=>False) aV.o) (fun _ _ _=>id) (fun i hi _=>hi);obtain ⟨kd,a0,aY,bh,a3,eh,eF,dd,jC,cS,rfl⟩:=iR.eight;have fI:∀ j u,[I .i64 kd,I Y a0,I Y aY,I Y bh,I Y a3,I U eh,I U eF,D dd jC cS][j]? =N u→cT.cell? ⟨cx,dp+k*8+j,Z⟩=N u:=fun j u aI=>by have:=cq (k*8+j) u (je j u aI);rw[show dp+k*8+j=dp+(k*8+j) by omega];exact (aV.o.cell (p:=⟨cx,dp+(k*8+j),Z⟩) eZ).trans this
 have bu:=fI 0 _ rfl;have bY:=fI 1 _ rfl;have cP:=fI 2 _ rfl;have c8:=fI 3 _ rfl;have dj:=fI 4 _ rfl;have gK:=fI 5 _ rfl;have f3:=fI 6 _ rfl;have h2:=fI 7 _ rfl;rw[uh4] at bu
 first
 |guard_hyp QI
  first
  |guard_hyp QA;have a8:=hD (dc.o x (by have:=hP.o;omega) _ cT F gj (fun i hi=>ua7 (b4.o i hi) aV.o.size) oM);have g8:=kfH ps k x aA;obtain ⟨P,cZ⟩:=xE (1+kam (ps.take k));obtain ⟨X,d6⟩:=xE x.size;have jG:P+X≤1000000000:=oM;rw[←cZ];rw[←d6] at a8;have l9:=hD (show (1+kam (ps.take (k+1)):Nat)=P+X by rw[cZ,d6,g8];omega);clear g8 cZ d6 aA iR je cq gj fI oJ pp;go_wp2_with fail;refine a8.o.mono ?_;rintro cG aF ⟨rfl,bs⟩;have bo:=bT aV bs;have co:=hD (a1.o.below bs a1.o.lt);clear bs a8 aV a1 aN aM aZ bC b1 c5 ct bI bu bY cP c8 dj gK f3 h2;go_wp2_with fail;go_roundg f
   case measure=>omega
   case rel=>exact ⟨k+1,bG,oM,rfl,by rw[l9.o];congr 1 <;> omega,bo,co⟩
  |guard_hyp QB;have a8:=hD (dc.o x (by have:=hP.o;omega) _ cT F gj (fun i hi=>ua7 (b4.o i hi) aV.o.size) oM);have g8:=kAS ps k x aA;obtain ⟨P,cZ⟩:=xE (ka3 (ps.take k));obtain ⟨X,d6⟩:=xE x.depth;have ra:=khu _ x (nR);have JC:=kAR ps k;have qs:ka3 ps≤1000000000:=ky;rw[←cZ];rw[←d6] at a8;have l9:=hD (show (ka3 (ps.take (k+1)):Nat)=max P X by rw[cZ,d6,g8]);clear g8 cZ d6 aA iR je cq gj fI oJ pp;go_wp2_with fail;refine a8.o.mono ?_;rintro cG aF ⟨rfl,bs⟩;have bo:=bT aV bs;have co:=hD (a1.o.below bs a1.o.lt);clear bs a8 aV a1 aN aM aZ bC b1 c5 ct bI bu bY cP c8 dj gK f3 h2;go_wp2_with fail;go_roundg f
   case measure=>omega
   case rel=>exact ⟨k+1,bG,oM,rfl,by rw[l9.o];congr 1 <;> omega,bo,co⟩
  |guard_hyp Sv;(first|guard_hyp pU;have an:=dc.o x (by have:=hP.o;omega) t _ cT F g f gj (fun i hi=>ua7 (b4.o i hi) aV.o.size) (kdX lA.o aA) (kcW jU.o aA) oM fh.o ij.o lc;have fl:=krm (E:=(fun o p=>Rg.orB o (Rg.mar n p t f))) (a:=(List.replicate f.length J)) aA;have mf:=kgb n x t f ij.o;have rJ:((ps.take (k+1)).foldl (fun o p=>Rg.orB o (Rg.mar n p t f)) (List.replicate f.length J)).length=t.length+1:=(by rw[fl,kfO (by rw[mf,eg.o])];exact eg.o);obtain ⟨P,cZ⟩:=xE ((ps.take k).foldl (fun o p=>Rg.orB o (Rg.mar n p t f)) (List.replicate f.length J));obtain ⟨cY,iD⟩:=xE (Rg.mar n x t f);rw[←cZ] at eg c1 fl;rw[←iD] at mf an fl;have jZ:=hD fl;have kq:=hD mf|have an:=dc.o x (by have:=hP.o;omega) t _ cT F hG _ gj (fun i hi=>ua7 (b4.o i hi) aV.o.size) (kdX lA.o aA) (kcW jU.o aA) oM c1.o eg.o lc;have fl:=krm (E:=(fun a p=>Rg.mar n p t a)) (a:=f) aA;rw[←fl,eg.o,←ij.o] at an;have mf:=kgb n x t _ eg.o;have rJ:((ps.take (k+1)).foldl (fun a p=>Rg.mar n p t a) f).length=t.length+1:=by rw[fl];exact mf);have uM:=hD rJ;have a8:=hD an;(first|guard_hyp pU;clear cZ iD fl mf rJ an aA iR je cq gj fI oJ pp|clear fl mf rJ an aA iR je cq gj fI oJ pp);go_wp2_with fail;refine a8.o.mono ?_;rintro cG aK ⟨bv,iA,s8,rfl,gc⟩;have cA:=bT aV bv;have da:=hD (a1.o.below bv a1.o.lt);(first|guard_hyp pU;have yA:=hD (fh.o.below bv);have aI:=keW P cY hG iA aK (by rw[kq.o,eg.o]) (by rw[eg.o];have:=ij.o;omega) (c1.o.below bv) gc;rw[←jZ.o,eg.o,kq.o,←ij.o] at aI;have hy:=hD aI|have n3:=hD gc);have n7:=aV.o.size;(first|guard_hyp pU;have B7:=bv.size;clear bv gc aI a8 aV a1 c1 fh aN aM aZ bC b1 c5 ct bI bu bY cP c8 dj gK f3 h2;rw[kq.o,←ij.o];go_wp2_with fail;refine hy.o.mono ?_;rintro cG bm ⟨cQ,tb,g3,rfl,xH⟩;have cN:=bT cA cQ;obtain ⟨dQ,uv,j8⟩:=hd3 (da.o.below cQ da.o.lt) (yA.o.below cQ) xH;clear cQ xH hy cA da yA|clear bv gc a8 aV a1 c1 aN aM aZ bC b1 c5 ct bI bu bY cP c8 dj gK f3 h2);rw[uM.o,←ij.o];go_wp2_with fail;go_roundg f9
   case measure=>omega
   first
   |guard_hyp pU
    case rel=>exact ⟨k+1,tb,by go_num,bG,oM,rfl,oM,uM,j8,dQ,uv,cN⟩
   |case rel=>exact ⟨k+1,iA,by go_num,bG,oM,rfl,oM,uM,n3,da,cA⟩
  |guard_hyp TU;have a8:=hD (dc.o x (by have:=hP.o;omega) _ cT F gj (fun i hi=>ua7 (b4.o i hi) aV.o.size) oM);(first|guard_hyp oB;have kb:=hD (show (kay (ps.take (k+1))).reverse=x.rev::(kay (ps.take k)).reverse by rw[ko3 aA,List.reverse_append];rfl)|have kb:=hD (show kay (ps.take (k+1))=kay (ps.take k)++[x.rev] by rw[ko3 aA]));clear aA iR je cq gj fI oJ pp j6;go_wp2_with fail;refine a8.o.mono ?_;rintro cG aK ⟨bv,cs4,rfl,iO⟩;obtain ⟨tv,dt,cL,fH,g6,tw,tx,gS,hf,tz,rfl⟩:=iO.eight;have r8:=bv.size;obtain ⟨bm,eM⟩:=xE (aK.alloc (y #[I .i64 tv,I Y dt,I Y cL,I Y fH,I Y g6,I U tw,I U tx,D gS hf tz] 105));have cQ:=bA eM;have jp:=bR eM;have tA:=wS eM;have wN:=bv.trans (cQ.mono bv.size);have cN:=bT aV wN;obtain ⟨dQ,jq,j8,wO,o2,nf,g9⟩:=hd7 (a1.o.below wN a1.o.lt) (cf.o.below wN cf.o.lt) (c1.o.below wN c1.o.lt) (eg.o.kept (Kept.of_below (F:=fun _=>False) wN) (fun _ _ _=>id)) (iO.kept (G:=fun i=>cT.heap.size≤i∧i<aK.heap.size) (Kept.of_below (F:=fun _=>False) cQ) (fun _ _ _=>id) (fun i hi az=>⟨hi,az⟩)) (fun (i:Nat) (e:(D fa k ft).ownBlock=N i)=>kbM eg.o.1 e) eM;clear bv iO cQ eM wN a8 aV a1 cf c1 eg aN aM aZ bC b1 c5 ct bI bu bY cP c8 dj gK f3 h2;obtain ⟨⟨⟨be,b8⟩,cn,c0⟩,⟨c3,jA⟩,jc,mT⟩:=jp.cells;obtain ⟨⟨⟨aN,aM⟩,aZ,bC⟩,⟨b1,c5⟩,ct,bI⟩:=dQ.o.cells;have B8:=j8.o.cells.2.2.2;go_upto_region 7 with (fail);rw[←g9.o];clear g9;(first|guard_hyp oB;go_upto_region 8 with (fail)|go_upto_region 9 with (fail));have eu:=kat bm (y #[I .i64 tv,I Y dt,I Y cL,I Y fH,I Y g6,I U tw,I U tx,D gS hf tz] 105);have cM:=jP.o;have hi0:=jQ.o;have hi1:=jR.o;have hi2:=Ge.o;have kN:=(wO.o.kept (Kept.of_below (F:=fun _=>False) eu) (fun _ _ _=>id));rw[LSt,m9] at kN;have QO:=(j8.o.below eu j8.o.lt).cells.2.2.2;(first|guard_hyp oB;have QP:(bm.alloc (y #[I .i64 tv,I Y dt,I Y cL,I Y fH,I Y g6,I U tw,I U tx,D gS hf tz] 105)).ownsRow (w.heap.size+3) 105 8 (D (N ⟨aK.heap.size+1,0,Z⟩) 1 1) 1 [I .i64 tv,I Y dt,I Y cL,I Y fH,I Y g6,I U tw,I U tx,D gS hf tz]:=(by have:=World.ownsRow_lit (base:=w.heap.size+3) (e:=105) (size:=8) bm #[I .i64 tv,I Y dt,I Y cL,I Y fH,I Y g6,I U tw,I U tx,D gS hf tz] 1 oM dC rfl;rw[tA] at this;exact this);have e9:=Reads.mb2 kN.1;have d9:=kN.2.cell1;go_wp2_with (at_builtin;refine kbs _ rfl (.tmp 25) (.tmp 27) 103 rfl (w.heap.size+3) 105 eX (aa #[I .i64 0,I Y 0,I Y 0,I Y 0,I Y 0,I U 0,I U 0,D Z 0 0]) 8 80 underlying103 cM hi0 hi1 hi2 rfl dC _ 1 _ rfl QP _ _ _ _ vD rfl e9 d9 (by unfold maxLen;omega) oM (by simp;omega) ?_)|have e9:=kju bm (I U tv) (I Y dt) (I Y cL) (I Y fH) (I Y g6) (I U tw) (I U tx) (D gS hf tz);have d9:∀ u∈([I .i64 tv,I Y dt,I Y cL,I Y fH,I Y g6,I U tw,I U tx,D gS hf tz]:List C),u.oneCell'=K:=(by simp[Value.oneCell']);rw[tA] at e9;go_wp2_with (at_builtin;refine kbs _ rfl (.tmp 31) (.tmp 33) 103 rfl (w.heap.size+3) 105 eX (aa #[I .i64 0,I Y 0,I Y 0,I Y 0,I Y 0,I U 0,I U 0,D Z 0 0]) 8 80 underlying103 cM hi0 hi1 hi2 rfl dC _ k _ rfl kN.1 _ _ _ _ [I .i64 tv,I Y dt,I Y cL,I Y fH,I Y g6,I U tw,I U tx,D gS hf tz] rfl e9 d9 (by unfold maxLen;omega) oM (by simp;omega) ?_));intro eQ dl fm fV j2;(first|guard_hyp oB;rw[ut8 1 k] at fm|skip);obtain ⟨e4,qz,rfl⟩:=kaA fm
   first
   |guard_hyp oB;have gT:bm.grownBy dl (N (aK.heap.size+1)):=(kbR eu _).trans fV;have ng:Kept (fun i=>aK.heap.size+1≤i) bm dl:=Kept.mbH gT (fun hG e=>by injection e with e;show aK.heap.size+1≤hG;omega)
    have EO:=LSt.front (F:=fun i=>cT.heap.size≤i∧i<aK.heap.size) wO.o.2 (by rw[m9,ut8 1 k];exact fm) (fun i hi=>gT.block i hi (fun e=>by injection e with e;omega)) gT.size (fun hG e=>by
     rcases j2 with h|h
     .have ek:N (aK.heap.size+1)=N hG:=h.symm.trans e;injection ek with ek;omega
     .have ek:=h.symm.trans e;injection ek with ek;omega) o2.o (fun i hi _=>by have:=hi.1;omega)
   |have gT:=(kbR eu _).trans fV;have ng:Kept (fun i=>(D fa k ft).ownBlock=N i) bm dl:=Kept.mbH gT (fun hG e=>e);have EO:=LSt.push (F:=fun i=>cT.heap.size≤i∧i<aK.heap.size) kN.2 (by rw[m9];exact fm) fV (j2.imp id (fun h=>by rw[h];simp[tA])) (o2.o.kept (Kept.of_below (F:=fun _=>False) eu) (fun _ _ _=>id) (fun i hi _=>hi)) (fun i hi _=>⟨by have:=hi.1;omega,fun e=>by have:=nf.o i e;have:=hi.1;omega⟩)
   have mz:=hD ng;have QQ:=hD (EO.kept (kuW (p:=⟨w.heap.size+2,7,Z⟩) (D e4 (k+1) qz)) (fun i af ao e=>by have ek:i=w.heap.size+2:=e;omega));(first|guard_hyp oB;have zb:=j8.o.kept ng (by show ¬(aK.heap.size+1≤w.heap.size+2);omega)|have zb:=j8.o.kept ng (by exact fun (e:(D fa k ft).ownBlock=N (w.heap.size+2))=>by have:=nf.o _ e;omega));have QR:=hD (Blk.mac zb 7 (D e4 (k+1) qz));(first|guard_hyp oB;have h9:=hD (Blk.far (dQ.o.kept ng (by show ¬(aK.heap.size+1≤w.heap.size+0);omega)) (p:=⟨w.heap.size+2,7,Z⟩) (show w.heap.size≠w.heap.size+2 by omega) (D e4 (k+1) qz));have JD:=hD (Blk.far (jq.o.kept ng (by show ¬(aK.heap.size+1≤w.heap.size+1);omega)) (p:=⟨w.heap.size+2,7,Z⟩) (show w.heap.size+1≠w.heap.size+2 by omega) (D e4 (k+1) qz));have l4:=hD ((ng.below cN.o cN.o.size (by intro i (hi:aK.heap.size+1≤i);omega)).setCell (p:=⟨w.heap.size+2,7,Z⟩) (show w.heap.size≤w.heap.size+2 by omega) (D e4 (k+1) qz))|have h9:=hD (Blk.far (dQ.o.kept ng (by exact fun (e:(D fa k ft).ownBlock=N (w.heap.size+0))=>by have:=nf.o _ e;omega)) (p:=⟨w.heap.size+2,7,Z⟩) (show w.heap.size≠w.heap.size+2 by omega) (D e4 (k+1) qz));have JD:=hD (Blk.far (jq.o.kept ng (by exact fun (e:(D fa k ft).ownBlock=N (w.heap.size+1))=>by have:=nf.o _ e;omega)) (p:=⟨w.heap.size+2,7,Z⟩) (show w.heap.size+1≠w.heap.size+2 by omega) (D e4 (k+1) qz));have l4:=hD ((ng.below cN.o cN.o.size (by intro i (hi:(D fa k ft).ownBlock=N i);have:=nf.o i hi;omega)).setCell (p:=⟨w.heap.size+2,7,Z⟩) (show w.heap.size≤w.heap.size+2 by omega) (D e4 (k+1) qz)));have EP:=ng.size;have ZU:=zb.cells.2.2.2;have ZV:=zb.free.2.2.2;clear fm fV j2 EO ng zb eu cM hi0 hi1 hi2 kN be b8 cn c0 c3 jA jc mT aN aM aZ bC b1 c5 ct bI B8 QO;go_wp2_with fail;go_roundg f
   case measure=>omega
   case rel=>exact ⟨k+1,e4,qz,_,by go_num,oM,oM,by simp;omega,hD (by rw[kb.o];exact QQ.o),QR,h9,JD,l4⟩
  |guard_hyp QD;have a8:=hD (dc.o x (by have:=hP.o;omega) _ cT F gj (fun i hi=>ua7 (b4.o i hi) aV.o.size) ⟨kcW jU.o aA,oM⟩);have g8:=kgZ Rx.mbp ps k x aA;obtain ⟨P,cZ⟩:=xE (min (kav Rx.mbp (ps.take k)) 4097);obtain ⟨X,d6⟩:=xE x.mbp;have y2:=knH x;have JC:P≤4097:=oM;rw[←d6] at y2;rw[←cZ];rw[←d6] at a8;have l9:=hD (show (min (kav Rx.mbp (ps.take (k+1))) 4097:Nat)=min (P+X) 4097 by rw[cZ,d6,g8];omega);clear g8 cZ d6 aA iR je cq gj fI oJ pp;go_wp2_with fail;refine a8.o.mono ?_;rintro cG aF ⟨rfl,bs⟩;have bo:=bT aV bs;have co:=hD (a1.o.below bs a1.o.lt);clear bs a8 aV a1 aN aM aZ bC b1 c5 ct bI bu bY cP c8 dj gK f3 h2;go_wp2_with fail;go_roundg f
   case measure=>omega
   case rel=>exact ⟨k+1,bG,oM,rfl,by rw[l9.o];congr 1 <;> omega,bo,co⟩
  |have a8:=hD (dc.o x (by have:=hP.o;omega) _ cT F gj (fun i hi=>ua7 (b4.o i hi) aV.o.size) ⟨kcW jU.o aA,oM⟩);have g8:=kgZ Rx.mbr ps k x aA;obtain ⟨P,cZ⟩:=xE (min (kaM kind+kav Rx.mbr (ps.take k)) 65);obtain ⟨X,d6⟩:=xE x.mbr;have y2:=kpr x;have JC:P≤65:=oM;rw[←d6] at y2;rw[←cZ];rw[←d6] at a8;have l9:=hD (show (min (kaM kind+kav Rx.mbr (ps.take (k+1))) 65:Nat)=min (P+X) 65 by rw[cZ,d6,g8];omega);clear g8 cZ d6 aA iR je cq gj fI oJ pp;go_wp2_with fail;refine a8.o.mono ?_;rintro cG aF ⟨rfl,bs⟩;have bo:=bT aV bs;have co:=hD (a1.o.below bs a1.o.lt);clear bs a8 aV a1 aN aM aZ bC b1 c5 ct bI bu bY cP c8 dj gK f3 h2;go_wp2_with fail;go_roundg f
   case measure=>omega
   case rel=>exact ⟨k+1,bG,oM,rfl,by rw[l9.o];congr 1 <;> omega,bo,co⟩
 |have a8:=hD (dc.o x oM _ cT F gj (fun i hi=>ua7 (b4.o i hi) aV.o.size) (kdX jU.o aA) (ms.o.below aV.o kO) (by have:=ex.o;omega));clear aA iR je cq gj fI oJ pp dN;go_wp2_with fail;refine a8.o.mono ?_;rintro cG aF ⟨rfl,bs⟩;have bo:=bT aV bs;have co:=hD (a1.o.below bs a1.o.lt);clear bs a8 aV a1 aN aM aZ bC b1 c5 ct bI bu bY cP c8 dj gK f3 h2;go_wp2_with fail;go_roundg f
  case measure=>omega
  case rel=>exact ⟨k+1,bG,oM,rfl,bo,co⟩):=h
def kd0 (h:P:=by obtain ⟨x,aA⟩:=xG ps bG;have QS:=();exact kip):=h
def kgz (h:P:=by obtain ⟨rfl,aV,a1⟩:=hcut;clear a7 dI dc iQ fQ;obtain ⟨⟨⟨aN,aM⟩,aZ,bC⟩,⟨b1,c5⟩,ct,bI⟩:=a1.o.cells;obtain ⟨P,cZ⟩:=xE (min (kaM kind+kav Rx.mbr ps) 65);obtain ⟨X,d6⟩:=xE (kaM kind+kav Rx.mbr ps);have jG:P=min X 65:=(by rw[cZ,d6]);have lH:=EQ.o;rw[←d6] at lH;rw[←cZ];have zc:P≤65:=oM;first|guard_hyp QM;obtain ⟨q,bj⟩:∃ q:Nat,hi=(q:Int):=⟨hi.toNat,by have:=cf.o.2;omega⟩;subst bj;have bg:kaz kind lo q X=X*q:=(by unfold kaz kaY;rw[ua1 cf.o.1,ua0 oM];rfl);rw[bg] at lH;have u4:q≤64:=oM;have fN:P*q≤65*64:=uo6 zc u4;have kg:=khA P X q 65 jG;have AP:((P:Int))*(q:Int)=((P*q:Nat):Int):=(by simp);generalize P*q=PQ at*;generalize X*q=XQ at*;have jS:=hD jG;clear cZ d6 jG;go_wp2_with fail;go_ret;have jG:=jS.o;refine ⟨?_,aV.o⟩;rw[←lH];refine ud4 (fun z=>ac (I U z)) ?_;omega|guard_hyp QN;obtain ⟨q,bj⟩:∃ q:Nat,lo=(q:Int):=⟨lo.toNat,oM⟩;subst bj;obtain rfl:hi= -1:=cf.o.2;have bg:kaz kind q (-1) X=X*max q 1:=(by unfold kaz kaY;rw[ua1 cf.o.1,ua1 rfl];rfl);rw[bg] at lH;have u4:max q 1≤64:=oM;have QT:max (q:Int) 1=((max q 1:Nat):Int):=oM;generalize max q 1=bE at*;have fN:P*bE≤65*64:=uo6 zc u4;have kg:=khA P X bE 65 jG;have AP:((P:Int))*(bE:Int)=((P*bE:Nat):Int):=(by simp);generalize P*bE=PQ at*;generalize X*bE=XQ at*;have jS:=hD jG;clear cZ d6 jG;go_wp2_with fail;go_ret;have jG:=jS.o;refine ⟨?_,aV.o⟩;rw[←lH];refine ud4 (fun z=>ac (I U z)) ?_;omega|have bg:kaz kind lo hi X=X:=(by unfold kaz;rw[ua0 cf.o]);rw[bg] at lH;have jS:=hD jG;clear cZ d6 jG;go_wp2_with fail;go_ret;have jG:=jS.o;refine ⟨?_,aV.o⟩;rw[←lH];refine ud4 (fun z=>ac (I U z)) ?_;omega):=h
def kh9 (h:P:=by obtain ⟨rfl,aV,a1⟩:=hcut;clear a7 dI dc iQ fQ;obtain ⟨⟨⟨aN,aM⟩,aZ,bC⟩,⟨b1,c5⟩,ct,bI⟩:=a1.o.cells;obtain ⟨P,cZ⟩:=xE (min (kav Rx.mbp ps) 4097);obtain ⟨X,d6⟩:=xE (kav Rx.mbp ps);have jG:P=min X 4097:=(by rw[cZ,d6]);have lH:=EQ.o;rw[←d6] at lH;rw[←cZ];have zc:P≤4097:=oM;first|guard_hyp QE;obtain ⟨q,bj⟩:∃ q:Nat,hi=(q:Int):=⟨hi.toNat,by have:=cf.o.2;omega⟩;subst bj;have bg:kaz kind lo q X=X*q:=(by unfold kaz kaY;rw[ua1 cf.o.1,ua0 oM];rfl);rw[bg] at lH;have u4:q≤64:=oM;have fN:P*q≤4097*64:=uo6 zc u4;have kg:=khA P X q 4097 jG;have AP:((P:Int))*(q:Int)=((P*q:Nat):Int):=(by simp);generalize P*q=PQ at*;generalize X*q=XQ at*;have jS:=hD jG;clear cZ d6 jG;go_wp2_with fail;go_ret;have jG:=jS.o;refine ⟨?_,aV.o⟩;rw[←lH];refine ud4 (fun z=>ac (I U z)) ?_;omega|guard_hyp QF;obtain ⟨q,bj⟩:∃ q:Nat,lo=(q:Int):=⟨lo.toNat,oM⟩;subst bj;obtain rfl:hi= -1:=cf.o.2;have bg:kaz kind q (-1) X=X*max q 1:=(by unfold kaz kaY;rw[ua1 cf.o.1,ua1 rfl];rfl);rw[bg] at lH;have u4:max q 1≤64:=oM;have QT:max (q:Int) 1=((max q 1:Nat):Int):=oM;generalize max q 1=bE at*;have fN:P*bE≤4097*64:=uo6 zc u4;have kg:=khA P X bE 4097 jG;have AP:((P:Int))*(bE:Int)=((P*bE:Nat):Int):=(by simp);generalize P*bE=PQ at*;generalize X*bE=XQ at*;have jS:=hD jG;clear cZ d6 jG;go_wp2_with fail;go_ret;have jG:=jS.o;refine ⟨?_,aV.o⟩;rw[←lH];refine ud4 (fun z=>ac (I U z)) ?_;omega|have bg:kaz kind lo hi X=X:=(by unfold kaz;rw[ua0 cf.o]);rw[bg] at lH;have jS:=hD jG;clear cZ d6 jG;go_wp2_with fail;go_ret;have jG:=jS.o;refine ⟨?_,aV.o⟩;rw[←lH];refine ud4 (fun z=>ac (I U z)) ?_;omega):=h
def kfw (h:P:=by
 obtain rfl:k=ps.length:=oM;have g8:ps.take ps.length=ps:=uf2;rw[g8];go_wp2_with fail;go_meet
 case rel=>exact ⟨rfl,aV,a1⟩):=h
def kAS (l:List Rx) (i:Nat) (r:Rx) (h:l[i]? =N r):ka3 (l.take (i+1))=max (ka3 (l.take i)) r.depth:=by rw[ue0,h,khv];simp[ka3]
def kAR (l:List Rx) (i:Nat):ka3 (l.take i)≤ka3 l:=by
 conv=>rhs;rw[←ug3 i l,khv]
 omega
theorem khu:∀(n:Nat) (r:Rx),r.size≤n→r.depth≤r.size
 |0,r,h=>by have:=r.size_pos;omega
 |n+1, .node kind aT aU aX a2 lo hi ps,h=>by
  unfold Rx.size at h;unfold Rx.size Rx.depth;have:ka3 ps≤kam ps:=kkM fun i r am=>by have af:=kfH ps i r am;have ao:=kg3 ps (i+1);have:=khu n r oM;omega
  omega
def Rx.mbr (r:Rx):Nat:=min r.pos 65
def Rx.mbp (r:Rx):Nat:=min r.wri 4097
def kpr (r:Rx):r.mbr≤65:=by unfold Rx.mbr;omega
def knH (r:Rx):r.mbp≤4097:=by unfold Rx.mbp;omega
def khA (P X c M:Nat) (h:P=min X M):min (P*c) M=min (X*c) M:=kp5 _ _ _ _ oM
theorem kqD:∀(n:Nat) (r:Rx),r.size≤n→∀(cs:List C) (w:O) (F:Nat→Prop),RxV w F r cs→(∀ i,F i→i<w.heap.size)→r.size≤1000000000→
 L prog 188 #[aa cs.toArray] w fun e w'=>e=ac (I U (r.size:Nat))∧H w w w'
 |0,r,ax,_,_,_,_,_,_=>by have:=r.size_pos;omega
 |n+1, .node kind aT aU aX a2 lo hi ps,ax,cs,w,F,au,hF,aB=>by
  have bQ:=kqD n;unfold RxV at au;obtain ⟨A,c,bV,rfl,dx,dU⟩:=au;unfold Rx.size at aB;obtain ⟨hP,fQ,iQ,b4,dc,dI,a7⟩:=hd7 (show 1+kam ps≤n+1 from ax) dx dU hF bQ (show R8 (w.alloc (y #[I .i64 kind,I Y aT,I Y aU,I Y aX,I Y a2,I U lo,I U hi,D A ps.length c] 105)) w (I U kind) (I Y aT) (I Y aU) (I Y aX) (I Y a2) (I U lo) (I U hi) (D A ps.length c) from Blk.new w _ _) ((ub5 w w).alloc (nR) (y #[I .i64 kind,I Y aT,I Y aU,I Y aX,I Y a2,I U lo,I U hi,D A ps.length c] 105));obtain ⟨aq,aQ⟩:=xE (w.alloc (y #[I .i64 kind,I Y aT,I Y aU,I Y aX,I Y a2,I U lo,I U hi,D A ps.length c] 105));rw[←aQ] at dI a7;have cd:=hD aQ;clear dx dU hF bQ ax aQ;go_enter func188,ntmps188;go_upto_block 0 with (fail);rw[←cd.o];clear cd;go_cut [3] (fun t wc=>t=I U (1+kam ps:Nat)∧Hz (H w w wc)∧Hz (R8 wc w (I U kind) (I Y aT) (I Y aU) (I Y aX) (I Y a2) (I U lo) (I U hi) (D A ps.length c)))
  case first=>
   go_wp2_with fail;go_loopg [3,4] (ps.length+1) (fun f t i wr=>∃ k:Nat,k≤ps.length∧ps.length<k+f∧i=I U k∧t=I U (1+kam (ps.take k):Nat)∧Hz (H w w wr)∧Hz (R8 wr w (I U kind) (I Y aT) (I Y aU) (I Y aX) (I Y a2) (I U lo) (I U hi) (D A ps.length c)))
   case atStart=>exact ⟨0,ud1 _,oM,rfl,by rw[um1];rfl,a7,dI⟩
   case round=>have QU:=();exact kgL
  case rest=>obtain ⟨rfl,aV,a1⟩:=hcut;clear a7 dI dc iQ fQ;obtain ⟨⟨⟨aN,aM⟩,aZ,bC⟩,⟨b1,c5⟩,ct,bI⟩:=a1.o.cells;have qy:kam ps≤1000000000:=oM;go_wp2_with fail;go_ret;refine ⟨?_,aV.o⟩;unfold Rx.size;rfl
theorem kre:∀(n:Nat) (r:Rx),r.size≤n→∀(cs:List C) (w:O) (F:Nat→Prop),RxV w F r cs→(∀ i,F i→i<w.heap.size)→r.size≤1000000000→
 L prog 189 #[aa cs.toArray] w fun e w'=>e=ac (I U (r.depth:Nat))∧H w w w'
 |0,r,ax,_,_,_,_,_,_=>by have:=r.size_pos;omega
 |n+1, .node kind aT aU aX a2 lo hi ps,ax,cs,w,F,au,hF,aB=>by
  have bQ:=kre n;unfold RxV at au;obtain ⟨A,c,bV,rfl,dx,dU⟩:=au;have ky:ka3 ps≤1000000000:=(by have:=khu _ _ (uf1 (Rx.node kind aT aU aX a2 lo hi ps).size);unfold Rx.depth at this;omega);unfold Rx.size at aB;obtain ⟨hP,fQ,iQ,b4,dc,dI,a7⟩:=hd7 (show 1+kam ps≤n+1 from ax) dx dU hF bQ (show R8 (w.alloc (y #[I .i64 kind,I Y aT,I Y aU,I Y aX,I Y a2,I U lo,I U hi,D A ps.length c] 105)) w (I U kind) (I Y aT) (I Y aU) (I Y aX) (I Y a2) (I U lo) (I U hi) (D A ps.length c) from Blk.new w _ _) ((ub5 w w).alloc (nR) (y #[I .i64 kind,I Y aT,I Y aU,I Y aX,I Y a2,I U lo,I U hi,D A ps.length c] 105));obtain ⟨aq,aQ⟩:=xE (w.alloc (y #[I .i64 kind,I Y aT,I Y aU,I Y aX,I Y a2,I U lo,I U hi,D A ps.length c] 105));rw[←aQ] at dI a7;have cd:=hD aQ;clear dx dU hF bQ ax aQ;go_enter func189,ntmps189;go_upto_block 0 with (fail);rw[←cd.o];clear cd;go_cut [3] (fun t wc=>t=I U (ka3 ps:Nat)∧Hz (H w w wc)∧Hz (R8 wc w (I U kind) (I Y aT) (I Y aU) (I Y aX) (I Y a2) (I U lo) (I U hi) (D A ps.length c)))
  case first=>
   go_wp2_with fail;go_loopg [3,4] (ps.length+1) (fun f t i wr=>∃ k:Nat,k≤ps.length∧ps.length<k+f∧i=I U k∧t=I U (ka3 (ps.take k):Nat)∧Hz (H w w wr)∧Hz (R8 wr w (I U kind) (I Y aT) (I Y aU) (I Y aX) (I Y a2) (I U lo) (I U hi) (D A ps.length c)))
   case atStart=>exact ⟨0,ud1 _,oM,rfl,by rw[um1];rfl,a7,dI⟩
   case round=>have QV:=();exact kgL
  case rest=>obtain ⟨rfl,aV,a1⟩:=hcut;clear a7 dI dc iQ fQ;obtain ⟨⟨⟨aN,aM⟩,aZ,bC⟩,⟨b1,c5⟩,ct,bI⟩:=a1.o.cells;obtain ⟨P,cZ⟩:=xE (ka3 ps);rw[←cZ] at ky ⊢;go_wp2_with fail;go_ret;refine ⟨?_,aV.o⟩;unfold Rx.depth;rw[←cZ];refine ud4 (fun z=>ac (I U z)) ?_;omega
theorem kq0:∀(n:Nat) (r:Rx),r.size≤n→∀(cs:List C) (w:O) (F:Nat→Prop),RxV w F r cs→(∀ i,F i→i<w.heap.size)→(r.mat∧r.size≤1000000000)→
 L prog 190 #[aa cs.toArray] w fun e w'=>e=ac (I U (r.mbr:Nat))∧H w w w'
 |0,r,ax,_,_,_,_,_,_=>by have:=r.size_pos;omega
 |n+1, .node kind aT aU aX a2 lo hi ps,ax,cs,w,F,au,hF,aB=>by
  have bQ:=kq0 n;unfold RxV at au;obtain ⟨A,c,bV,rfl,dx,dU⟩:=au;have zd:=kjy kind aT aU aX a2 lo hi ps 65;have EQ:=hD (show min (kaz kind lo hi (kaM kind+kav Rx.mbr ps)) 65=(Rx.node kind aT aU aX a2 lo hi ps).mbr from zd);clear zd;unfold Rx.mat at aB;obtain ⟨⟨qc,_,_,_,_,DE,kN,DF,dD,dw⟩,dN⟩:=aB;have jU:=hD dw;unfold Rx.size at dN;clear dw;obtain ⟨hP,fQ,iQ,b4,dc,dI,a7⟩:=hd7 (show 1+kam ps≤n+1 from ax) dx dU hF bQ (show R8 (w.alloc (y #[I .i64 kind,I Y aT,I Y aU,I Y aX,I Y a2,I U lo,I U hi,D A ps.length c] 105)) w (I U kind) (I Y aT) (I Y aU) (I Y aX) (I Y a2) (I U lo) (I U hi) (D A ps.length c) from Blk.new w _ _) ((ub5 w w).alloc (nR) (y #[I .i64 kind,I Y aT,I Y aU,I Y aX,I Y a2,I U lo,I U hi,D A ps.length c] 105));obtain ⟨aq,aQ⟩:=xE (w.alloc (y #[I .i64 kind,I Y aT,I Y aU,I Y aX,I Y a2,I U lo,I U hi,D A ps.length c] 105));rw[←aQ] at dI a7;have cd:=hD aQ;clear dx dU hF bQ ax aQ;by_cases ds:kind=2
  .have c2:((kind:Int)==2)=K:=(by simp;omega);have JB:((kind:Int) != 2)=J:=(by simp;omega);have pr:=hD (show kaM kind=1 by unfold kaM;rw[ua1 oM]);have kP:((kind:Int)==5)=J:=(by simp;omega);have cf:=hD (show ¬kind=5 by omega);clear ds;have QW:=();exact kiD
  by_cases cJ:kind=5∧0≤hi
  .have QX:=();exact kmJ
  by_cases eW:kind=5
  .exact kmJ
  have c2:((kind:Int)==2)=J:=(by simp;omega);have JB:((kind:Int) != 2)=K:=(by simp;omega);have pr:=hD (show kaM kind=0 by unfold kaM;rw[ua0 oM]);have kP:((kind:Int)==5)=J:=(by simp;omega);have cf:=hD (show ¬kind=5 by omega);clear ds cJ eW;go_enter func190,ntmps190;go_upto_block 0 with (fail);rw[←cd.o];clear cd;go_cut [3] (fun t wc=>t=I U (min (kaM kind+kav Rx.mbr ps) 65:Nat)∧Hz (H w w wc)∧Hz (R8 wc w (I U kind) (I Y aT) (I Y aU) (I Y aX) (I Y a2) (I U lo) (I U hi) (D A ps.length c)))
  case first=>exact kmP
  case rest=>exact kgz
theorem kqA:∀(n:Nat) (r:Rx),r.size≤n→∀(cs:List C) (w:O) (F:Nat→Prop),RxV w F r cs→(∀ i,F i→i<w.heap.size)→(r.mat∧r.size≤1000000000)→
 L prog 191 #[aa cs.toArray] w fun e w'=>e=ac (I U (r.mbp:Nat))∧H w w w'
 |0,r,ax,_,_,_,_,_,_=>by have:=r.size_pos;omega
 |n+1, .node kind aT aU aX a2 lo hi ps,ax,cs,w,F,au,hF,aB=>by
  have bQ:=kqA n;unfold RxV at au;obtain ⟨A,c,bV,rfl,dx,dU⟩:=au;have zd:=kiL kind aT aU aX a2 lo hi ps 4097;have EQ:=hD (show min (kaz kind lo hi (kav Rx.mbp ps)+1) 4097=(Rx.node kind aT aU aX a2 lo hi ps).mbp from zd);clear zd;unfold Rx.mat at aB;obtain ⟨⟨qc,_,_,_,_,DE,kN,DF,dD,dw⟩,dN⟩:=aB;have jU:=hD dw;unfold Rx.size at dN;clear dw;obtain ⟨hP,fQ,iQ,b4,dc,dI,a7⟩:=hd7 (show 1+kam ps≤n+1 from ax) dx dU hF bQ (show R8 (w.alloc (y #[I .i64 kind,I Y aT,I Y aU,I Y aX,I Y a2,I U lo,I U hi,D A ps.length c] 105)) w (I U kind) (I Y aT) (I Y aU) (I Y aX) (I Y a2) (I U lo) (I U hi) (D A ps.length c) from Blk.new w _ _) ((ub5 w w).alloc (nR) (y #[I .i64 kind,I Y aT,I Y aU,I Y aX,I Y a2,I U lo,I U hi,D A ps.length c] 105));obtain ⟨aq,aQ⟩:=xE (w.alloc (y #[I .i64 kind,I Y aT,I Y aU,I Y aX,I Y a2,I U lo,I U hi,D A ps.length c] 105));rw[←aQ] at dI a7;have cd:=hD aQ;clear dx dU hF bQ ax aQ;by_cases ds:kind=5∧0≤hi
  .have kP:((kind:Int)==5)=K:=(by simp;omega);have wl:decide (0≤hi)=K:=(by simp;omega);have cf:=hD (show kind=5∧0≤hi by omega);clear ds;have QY:=();exact kmU
  by_cases cJ:kind=5
  .have kP:((kind:Int)==5)=K:=(by simp;omega);have wl:decide (0≤hi)=J:=(by simp;omega);have cf:=hD (show kind=5∧hi= -1 by omega);clear ds cJ;exact kmU
  have kP:((kind:Int)==5)=J:=(by simp;omega);have cf:=hD (show ¬kind=5 by omega);clear ds cJ;go_enter func191,ntmps191;go_upto_block 0 with (fail);rw[←cd.o];clear cd;go_cut [3] (fun t wc=>t=I U (min (kav Rx.mbp ps) 4097:Nat)∧Hz (H w w wc)∧Hz (R8 wc w (I U kind) (I Y aT) (I Y aU) (I Y aX) (I Y a2) (I U lo) (I U hi) (D A ps.length c)))
  case first=>exact kmE
  case rest=>exact kh9
def klT (h:P:=by
 go_wp2_with fail;go_roundg f
 case measure=>omega
 case rel=>exact ⟨k+1,by go_num,oM,oM,by simp[World.setCell];omega,hD (by rw[kb.o];exact u5.o),hD (by rw[kb.o];exact ES.o),hD (by rw[kb.o];exact ki.o),hD (by rw[kb.o];exact oo.o),hC,kj,iC⟩):=h
def kmL (h:P:=by rw[←qw.o];clear qw eD eS il EZ aN aM aZ bC b1 c5 ct bI pM;have eD:=pP.o.cell 0;have eS:=pP.o.cell 1;have il:=pP.o.cell 2;have fU:=k4.o.cell 0;have eO:=k4.o.cell 1;have gm:=k4.o.cell 2;unfold ptC at fU eO gm;simp only[gA,gB,gC,ut7,uk9] at eD eS il fU eO gm;first|guard_hyp Q5;have wP:Hz (L prog 192 #[ab (N ⟨c,0,Z⟩),aa #[V bw,I Y (f0:Nat),I Y (b6:Nat)],aa #[V K,I Y (b2:Nat),I Y (bx:Nat)]] dl fun e w'=>e=ac (aa #[V bJ,I Y (cB:Nat),I Y (et:Nat)])∧ChM w' c EV∧KCh c dl w'):=hD (zh.o dl pL.o);exact knn|have wP:Hz (L prog 192 #[ab (N ⟨c,0,Z⟩),aa #[V bw,I Y (f0:Nat),I Y (b6:Nat)],aa #[V iG,I Y (b2:Nat),I Y (bx:Nat)]] dl fun e w'=>e=ac (aa #[V bJ,I Y (cB:Nat),I Y (et:Nat)])∧ChM w' c EV∧KCh c dl w'):=hD (zh.o dl pL.o);exact knn):=h
def kiq (h:P:=by
 go_simp;refine aJ.out _ _ (fun h=>absurd rfl h) ?_;clear aJ aR;(try simp only[Act.put,gE,gF,gG]);refine kiN kR ?_ _;refine uf0 ?_;try simp only[Act.put,gE,gF,gG]
 first
 |guard_hyp Q3;go_wp2_with fail;go_roundg f
  case measure=>omega
  first
  |guard_hyp js
   case rel=>exact ⟨j+1,((bJ,cB,et),pN),by go_num,oM,oM,by simp[World.setCell];omega,hD kb.o.symm,u5,Q1,ki,oo,hC,kj,iC⟩
  |case rel=>exact ⟨k+1,by go_num,oM,oM,by simp[World.setCell];omega,hD (by rw[kb.o];exact u5.o),hD (by rw[kb.o];exact ES.o),hD (by rw[kb.o];exact ki.o),hD (by rw[kb.o];exact oo.o),hC,kj,iC⟩
 |guard_hyp Q9;rw[←tg.o];clear tg iF ay t0 bb db fU eO gm bO cc jH de a8 dB a1 cf ei wP
  cases bJ with
  |true=>have hd:=Blk.mac ki.o 0 (V K);simp only[gE,gF,gG] at hd;have k4:=hD hd;have pL:=hD (oo.o.kpt ((KPt.refl du).set (p:=⟨g,0,Z⟩) ki.o kaS (V K)));have o0:=hD (Blk.far hC.o (p:=⟨g,0,Z⟩) (show w.heap.size≠g by omega) (V K));have ri:=hD (Blk.far kj.o (p:=⟨g,0,Z⟩) (show w.heap.size+1≠g by omega) (V K));have kh:=hD (q2.o.kept (kdo du ⟨g,0,Z⟩ (V K)) (.inr (fun e=>by have:=nf.o g e;omega)));have mz:=hD (iC.o.tail ((ub5 w du).setCell (p:=⟨g,0,Z⟩) (show w.heap.size≤g by omega) (V K)));have QZ:=();exact knc
  |false=>have hd:=Blk.mac ki.o 0 (V iG);simp only[gE,gF,gG] at hd;have k4:=hD hd;have pL:=hD (oo.o.kpt ((KPt.refl du).set (p:=⟨g,0,Z⟩) ki.o kaS (V iG)));have o0:=hD (Blk.far hC.o (p:=⟨g,0,Z⟩) (show w.heap.size≠g by omega) (V iG));have ri:=hD (Blk.far kj.o (p:=⟨g,0,Z⟩) (show w.heap.size+1≠g by omega) (V iG));have kh:=hD (q2.o.kept (kdo du ⟨g,0,Z⟩ (V iG)) (.inr (fun e=>by have:=nf.o g e;omega)));have mz:=hD (iC.o.tail ((ub5 w du).setCell (p:=⟨g,0,Z⟩) (show w.heap.size≤g by omega) (V iG)));exact knc
 |rw[←wE.o];go_wp2_with fail;go_roundg f9
  case measure=>omega
  case rel=>exact ⟨min eh lo2, -1,cn,fD,si,xf,m,rt,Sx,Sw,za,Sy,FI,jB,ho⟩):=h
def knn (h:P:=by clear zh pL wU;go_wp2_with fail;refine wP.o.mono ?_;rintro cG gx ⟨rfl,MG,lM⟩;obtain ⟨tB,wQ,rc⟩:=hd3 (lM.far _ _ _ JK.o kaS) MG (mz.o.trans lM);have ER:=lM.size;clear MG lM eD eS il fU eO gm wP pP k4 JK mz;have z0:=tB.o.cell 0;have ca:=tB.o.cell 1;have cI:=tB.o.cell 2;simp only[gA,gB,gC] at z0 ca cI;have k0:=tB.o.frozen 0;have k1:=tB.o.frozen 1;have bS:=tB.o.frozen 2;have hd:=Blk.mac (Blk.mac (Blk.mac tB.o 0 (V bJ)) 1 (I Y (cB:Nat))) 2 (I Y (et:Nat));simp only[gE,gF,gG] at hd;obtain ⟨cW,kr,nO⟩:=hd3 hd (wQ.o.kpt (kcn tB.o (V bJ) (I Y (cB:Nat)) (I Y (et:Nat)))) (rc.o.tail (kdf w gx (w.heap.size+1) oM (V bJ) (I Y (cB:Nat)) (I Y (et:Nat))));clear hd;go_wp2_with fail;have bi:=cW.o.cell 0;have aW:=cW.o.cell 1;have bc:=cW.o.cell 2;simp only[gA,gB,gC] at bi aW bc;refine ub2 (v:=aa #[V bJ,I Y (cB:Nat),I Y (et:Nat)]) (by simp[results,results193,go_sem,bi,aW,bc]) rfl ?_;exact ⟨by rw[hx.o];rfl,by rw[hx.o];exact kr.o,nO.o⟩):=h
def knc (h:P:=by
 have fU:=ki.o.cell 0;simp only[gA,gB] at fU;have ZW:=ki.o.frozen 0;have lk:R8 du w (I U 5) (I Y 0) (I Y 0) (I Y 0) (I Y 0) (I U lo) (I U m) (D (N ⟨cx,dp,Z⟩) 1 c9):=hC.o;obtain ⟨⟨⟨aN,aM⟩,aZ,bC⟩,⟨b1,c5⟩,ct,bI⟩:=lk.cells;have pM:=wU.o;clear hd lk ki oo hC kj q2 iC wU;go_wp2_with fail;go_roundg tf
 case measure=>omega
 first
 |guard_hyp QZ
  case rel=>exact ⟨i,((K,cB,et),pN),(i:Int)-1,by go_num,rfl,oM,oM,by simp[World.setCell];omega,hD (JN.o.trans lj.o),u5,hD (kq.o.trans wY.o),k4,pL,kh,o0,ri,mz⟩
 |case rel=>exact ⟨i,((iG,cB,et),pN),(i:Int)-1,by go_num,rfl,oM,oM,by simp[World.setCell];omega,hD (JN.o.trans lj.o),u5,hD (kq.o.trans wY.o),k4,pL,kh,o0,ri,mz⟩):=h
def km5 (h:P:=by
 have r9:Hz (L prog 160 #[ab (N ⟨c,0,Z⟩),aa #[I .i64 kd,I Y a0,I Y aY,I Y bh,I Y a3,I U eh,I U eF,D dd jC cS]] cT fun e w'=>e=ac (aa #[V aL,I Y (b2:Nat),I Y (bx:Nat)])∧ChM w' c ig∧KCh c cT w'):=hD mB
 first
 |guard_hyp QJ;obtain ⟨kb,u5,ES⟩:=hd3 tu ol wM;have qA:=un8 _ _ ge.o.1.1 jo.1.1;have f8:=un8 _ _ ge.o.1.2 jo.1.2;dsimp only at qA f8;have cU:(k:Int)<(ps.length:Int):=oM;have bE:=nN k;clear fl oR EN dz jo mB jY tu ol wM aA iR je cq gj fI oJ pp;go_wp2_with fail;refine r9.o.mono ?_;rintro cG aK ⟨rfl,lb,dg⟩;have hN:=dg.far _ _ _ de.o kaS;have h1:=dg.far _ _ _ a1.o kel;have rj:=dg.far _ _ _ cf.o kaS;have kM:=ei.o.trans dg;have B7:=dg.size;obtain ⟨bm,eM⟩:=xE (aK.alloc (y #[V aL,I Y (b2:Nat),I Y (bx:Nat)] 226));have o6:=bM eM;have gq:=bA eM;have g9:=hD eM;have jp:=hN.below gq hN.lt;have i4:=hD jp;have jq:=hD (rj.below gq rj.lt);have dQ:Hz (R8 bm w (I U 4) (I Y 0) (I Y 0) (I Y 0) (I Y 0) (I U 0) (I U 0) (D (N ⟨cx,dp,Z⟩) ps.length c9)):=hD (h1.below gq h1.lt);have gL:=hD (kM.trans (KCh.of_below gq));have ks:=hD (lb.below gq);have ze:=gq.size;clear eM hN rj h1 kM dg lb gq r9 de a8 a1 cf ei nQ ge aN aM aZ bC b1 c5 ct bI bu bY cP c8 dj gK f3 h2;have fU:=jp.cell 0;have eO:=jp.cell 1;have gm:=jp.cell 2;unfold ptC at fU eO gm;have eD:=o6.cell 0;have eS:=o6.cell 1;have il:=o6.cell 2;simp only[gA,gB,gC] at fU eO gm eD eS il;have bO:=jp.frozen 0;have cc:=jp.frozen 1;have jH:=jp.frozen 2;have hd:=Blk.mac (Blk.mac (Blk.mac jp 0 (V (bw||aL))) 1 (I Y ((f0|||b2:Nat):Int))) 2 (I Y ((b6|||bx:Nat):Int));unfold ptC at hd;simp only[gE,gF,gG] at hd;have ki:=hD hd;have oo:=hD (ks.o.kpt (kcn jp (V (bw||aL)) (I Y ((f0|||b2:Nat):Int)) (I Y ((b6|||bx:Nat):Int))));have hC:=hD ((Blk.far (Blk.far (Blk.far dQ.o (p:=⟨(w.heap.size+1+1),0,Z⟩) (show w.heap.size≠(w.heap.size+1+1) by omega) (V (bw||aL))) (p:=⟨(w.heap.size+1+1),1,Z⟩) (show w.heap.size≠(w.heap.size+1+1) by omega) (I Y ((f0|||b2:Nat):Int))) (p:=⟨(w.heap.size+1+1),2,Z⟩) (show w.heap.size≠(w.heap.size+1+1) by omega) (I Y ((b6|||bx:Nat):Int))));have kj:=hD ((Blk.far (Blk.far (Blk.far jq.o (p:=⟨(w.heap.size+1+1),0,Z⟩) (show w.heap.size+1≠(w.heap.size+1+1) by omega) (V (bw||aL))) (p:=⟨(w.heap.size+1+1),1,Z⟩) (show w.heap.size+1≠(w.heap.size+1+1) by omega) (I Y ((f0|||b2:Nat):Int))) (p:=⟨(w.heap.size+1+1),2,Z⟩) (show w.heap.size+1≠(w.heap.size+1+1) by omega) (I Y ((b6|||bx:Nat):Int))));have iC:=hD (gL.o.tail (kdf w bm (w.heap.size+1+1) oM (V (bw||aL)) (I Y ((f0|||b2:Nat):Int)) (I Y ((b6|||bx:Nat):Int))));clear hd jp o6 i4 ks dQ jq gL;go_upto_region 20 with (fail);rw[←g9.o];clear g9
  cases bw with
  |true=>exact klT
  |false=>exact klT
 |have bE:(0:Int)<((1:Nat):Int):=oM;clear hY wT k5 tD rm lQ mB jY;go_wp2_with fail;refine r9.o.mono ?_;rintro cG aK ⟨rfl,lb,dg⟩;have h1:=dg.far _ _ _ a1.o kel;have rj:=dg.far _ _ _ cf.o kaS;have B9:=kpA dB.o dg kaS;have kM:=ei.o.trans dg;have B7:=dg.size;have j5:=fun (i:Nat) (e:(D dF k eB).ownBlock=N i)=>kbM B9 e;have jg:=fun (i:Nat) (e:(D dF k eB).ownBlock=N i)=>(keg B9 e).2;have gq:=kat aK (y #[V aL,I Y (b2:Nat),I Y (bx:Nat)] 226);have tC:=kaI B9 gq;have e9:Reads (aK.alloc (y #[V aL,I Y (b2:Nat),I Y (bx:Nat)] 226)) (aK.heap.size+1) 3 (N ⟨aK,0,Z⟩) 1 [V aL,I Y (b2:Nat),I Y (bx:Nat)]:=⟨rfl,fun _=>⟨_,rfl,by simp,fun j u aI=>kcI aK #[V aL,I Y (b2:Nat),I Y (bx:Nat)] 226 j u aI⟩⟩;have d9:∀ u∈([V aL,I Y (b2:Nat),I Y (bx:Nat)]:List C),u.oneCell'=K:=(by simp[Value.oneCell']);have cM:=jP.o;have hi0:=jQ.o;have hi1:=jR.o;have hi2:=Ge.o;clear aN aM aZ bC b1 c5 ct bI bu bY cP c8 dj gK f3 h2 dB a8 a1 cf ei r9;(go_wp2_with (at_builtin;refine kbs _ rfl (.tmp 61) (.tmp 68) 275 rfl (w.heap.size+1+1) 226 w3 (aa #[V J,I Y 0,I Y 0]) 3 24 underlying275 cM hi0 hi1 hi2 rfl dC _ k _ rfl tC _ _ _ _ [V aL,I Y (b2:Nat),I Y (bx:Nat)] rfl e9 d9 (by unfold maxLen;omega) oM (by simp;omega) ?_));intro eQ dl fm fV j2;obtain ⟨e4,bI,rfl⟩:=kaA fm;have wR:=(kbR gq (D dF k eB).ownBlock).trans fV;have o0:=hD (h1.grown wR (fun e=>by have:=j5 _ e.symm;omega));have ri:=hD (rj.grown wR (fun e=>by have:=j5 _ e.symm;omega));have pL:=hD (lb.kpt (KPt.grown wR jg kaS));have mz:=hD (kM.tail (Below.grown (ub5 w aK) wR oM (fun j e=>by have:=j5 j e;omega)));have kh:Hz (dl.ownsRow (w.heap.size+1+1) 226 3 (D e4 (k+1) bI) (k+1) (ptL (Rg.maW bl (k+1) bn).1)):=hD (by rw[bF.o];dsimp only;rw[kpl];exact fm);have wQ:Hz (ChM dl c (Rg.maW bl (k+1) bn).2):=hD (by rw[bF.o];exact pL.o);have zf:=wR.size;clear h1 rj B9 kM dg lb j5 jg gq tC e9 d9 cM hi0 hi1 hi2 fm fV j2 wR pL;go_wp2_with fail;go_roundg f
  case measure=>omega
  case rel=>exact ⟨k+1,e4,bI,by go_num,rfl,oM,oM,oM,kh,wQ,o0,ri,mz⟩):=h
def kgA (h:P:=by
 obtain ⟨f,rfl⟩:=xS gk;obtain ⟨⟨⟨aN,aM⟩,aZ,bC⟩,⟨b1,c5⟩,ct,bI⟩:=a1.o.cells;obtain ⟨cT,gd⟩:=xE wr;subst gd
 first
 |guard_hyp Rd;by_cases bG:k<eK
  .obtain ⟨x,aA⟩:∃ x,ps[k]? =N x:=⟨_,ua3 (by rw[←qV.o];exact bG)⟩;have Q0:=();exact kip
  .obtain rfl:k=eK:=oM;go_wp2_with fail;go_ret;exact ⟨rfl,aV.o⟩
 |guard_hyp SL;first|guard_hyp js;have hY:=zN.o cT ei.o;have bu:=hY 0 _ rfl;have bY:=hY 1 _ rfl;have cP:=hY 2 _ rfl;have c8:=hY 3 _ rfl;have dj:=hY 4 _ rfl;have gK:=hY 5 _ rfl;have f3:=hY 6 _ rfl;have h2:=hY 7 _ rfl;rw[uh4] at bu;obtain ⟨⟨bw,f0,b6⟩,gz⟩:=s;have wT:x.pos*(j+1)≤x.pos*max lo.toNat 1:=up6 _ oM;have lQ:gz.S.length+x.pos≤64:=(by have af:=wY.o;have ao:=nQ.o;rw[uo7] at wT;dsimp only at af;omega);have dz:=lz.o gz ge.o.2.ok;have jo:=kV.o gz ge.o.2;obtain ⟨rh,jY⟩:=xE (bl gz);rw[←jY] at dz jo;obtain ⟨⟨aL,b2,bx⟩,ig⟩:=rh;have fU:=de.o.cell 0;have eO:=de.o.cell 1;have gm:=de.o.cell 2;unfold ptC at fU eO gm;simp only[gA,gB,gC] at fU eO gm;have bE:(0:Int)<((1:Nat):Int):=oM;by_cases bG:(j:Int)+1<lo|by_cases bG:k<ps.length
  .first
   |guard_hyp js;have mB:=CG.o cT.drew gz (ei.o.trans (KCh.drew c cT)) a8.o ge.o.2 lQ;rw[←jY] at mB;have tu:Rg.rep (Rg.onP bl) (j+1) (Rg.unit,bn)=(Rg.mbb (bw,f0,b6) (aL,b2,bx),Rg.mbk ig (bw,f0,b6) (aL,b2,bx)):=by rw[khe,←K1.o];unfold Rg.onP;dsimp only;rw[←jY]
   |obtain ⟨x,aA⟩:=xG ps bG;obtain ⟨im,iR,je⟩:=iQ.o.get k x aA;obtain ⟨cx,dp,rfl,j6,eZ,cq⟩:=fQ.o.2 oM;have oJ:=kfH ps k x aA;have pp:=kg3 ps (k+1);have gj:=iR.kch ei.o b4.o;obtain ⟨kd,a0,aY,bh,a3,eh,eF,dd,jC,cS,rfl⟩:=iR.eight;have nM:cx<c:=b4.o cx j6;have fI:∀ j u,[I .i64 kd,I Y a0,I Y aY,I Y bh,I Y a3,I U eh,I U eF,D dd jC cS][j]? =N u→cT.cell? ⟨cx,dp+k*8+j,Z⟩=N u:=fun j u aI=>by have:=cq (k*8+j) u (je j u aI);rw[show dp+k*8+j=dp+(k*8+j) by omega];exact (ue6 (ei.o.low cx nM eZ)).trans this
    have bu:=fI 0 _ rfl;have bY:=fI 1 _ rfl;have cP:=fI 2 _ rfl;have c8:=fI 3 _ rfl;have dj:=fI 4 _ rfl;have gK:=fI 5 _ rfl;have f3:=fI 6 _ rfl;have h2:=fI 7 _ rfl;rw[uh4] at bu;have fl:=krl (E:=(fun s p=>Rg.onP (Rg.mak n p) s)) (a:=(Rg.unit,bn)) aA;have oR:=kpo aA;obtain ⟨u3,mU⟩:=xE ((ps.take k).foldl (fun s p=>Rg.onP (Rg.mak n p) s) (Rg.unit,bn));rw[←mU] at ge nQ de a8 fl;obtain ⟨⟨bw,f0,b6⟩,gz⟩:=u3;clear mU;have EN:gz.S.length+(x.pos+kaE (ps.drop (k+1)))≤64:=(by rw[←oR];exact nQ.o);have dz:=keS n x (by have:=hP.o;omega) (kdX lA.o aA) gz ge.o.2.ok;have jo:=keR n x (kcW jU.o aA) gz ge.o.2;have mB:=dc.o x (by have:=hP.o;omega) _ cT.drew F c gz (gj.kch (KCh.drew c cT) b4.o) b4.o (kdX lA.o aA) (kcW jU.o aA) oM a8.o ge.o.2 oM;obtain ⟨rh,jY⟩:=xE (Rg.mak n x gz);rw[←jY] at dz jo mB;obtain ⟨⟨aL,b2,bx⟩,ig⟩:=rh;have tu:(ps.take (k+1)).foldl (fun s p=>Rg.onP (Rg.mak n p) s) (Rg.unit,bn)=(Rg.mbb (bw,f0,b6) (aL,b2,bx),Rg.mbk ig (bw,f0,b6) (aL,b2,bx)):=by rw[fl];show Rg.onP (Rg.mak n x) ((bw,f0,b6),gz)=_;unfold Rg.onP;rw[←jY]
   have o7:=fun (W:O) (h:ChM W c ig)=>kkg c ig (bw,f0,b6) (aL,b2,bx) W h jo.2 (by have:=dz.2;dsimp only at this;omega) ge.o.1 jo.1;have ol:OkS (Rg.mbb (bw,f0,b6) (aL,b2,bx),Rg.mbk ig (bw,f0,b6) (aL,b2,bx)):=⟨kfC ge.o.1 jo.1,jo.2.link jo.1.1⟩;(first|guard_hyp js;have vY:(Rg.mbk ig (bw,f0,b6) (aL,b2,bx)).S.length=bn.S.length+x.pos*(j+1):=by have af:=dz.2;have ao:=wY.o;dsimp only at af ao;show ig.S.length=_;rw[af,ao,uo7];omega|have wM:(Rg.mbk ig (bw,f0,b6) (aL,b2,bx)).S.length+kaE (ps.drop (k+1))≤64:=by have:=dz.2;dsimp only at this;show ig.S.length+_≤64;omega);obtain ⟨zg,sa⟩:=xE (Rg.mbb (bw,f0,b6) (aL,b2,bx));obtain ⟨pN,pO⟩:=xE (Rg.mbk ig (bw,f0,b6) (aL,b2,bx));rw[←sa,←pO] at tu o7 ol;(first|guard_hyp js;rw[←pO] at vY|rw[←pO] at wM);obtain ⟨bJ,cB,et⟩:=zg;have r9:Hz (L prog 160 #[ab (N ⟨c,0,Z⟩),aa #[I .i64 kd,I Y a0,I Y aY,I Y bh,I Y a3,I U eh,I U eF,D dd jC cS]] cT.drew fun e w'=>e=ac (aa #[V aL,I Y (b2:Nat),I Y (bx:Nat)])∧ChM w' c ig∧KCh c cT.drew w'):=hD mB;have zh:Hz (∀ W:O,ChM W c ig→L prog 192 #[ab (N ⟨c,0,Z⟩),aa #[V bw,I Y (f0:Nat),I Y (b6:Nat)],aa #[V aL,I Y (b2:Nat),I Y (bx:Nat)]] W fun e w'=>e=ac (aa #[V bJ,I Y (cB:Nat),I Y (et:Nat)])∧ChM w' c pN∧KCh c W w'):=hD o7;have kb:=hD tu;have u5:=hD ol;(first|guard_hyp js;have Q1:=hD vY;clear hY wT lQ dz jo mB jY tu o7 ol vY sa pO;go_upto_region 6 with (fail)|have ES:=hD wM;have fU:=de.o.cell 0;have eO:=de.o.cell 1;have gm:=de.o.cell 2;unfold ptC at fU eO gm;simp only[gA,gB,gC] at fU eO gm;have cU:(k:Int)<(ps.length:Int):=oM;have bE:=nN k;clear fl oR EN dz jo mB jY tu o7 ol wM sa pO aA iR je cq gj fI oJ pp;go_upto_region 12 with (fail));refine ue4 ?_;(first|guard_hyp js;refine kd6 (z:=9) (S:=(fun w'=>w'.cell? ⟨(w.heap.size+1+1),0,Z⟩=N (V bw)∧w'.cell? ⟨(w.heap.size+1+1),1,Z⟩=N (I Y f0)∧w'.cell? ⟨(w.heap.size+1+1),2,Z⟩=N (I Y b6)∧w'.cell? ⟨w,7,Z⟩=N (D (N ⟨cx,dp,Z⟩) 1 c9)∧w'.cell? ⟨cx,dp,Z⟩=N (I U kd)∧w'.cell? ⟨cx,dp+1,Z⟩=N (I Y a0)∧w'.cell? ⟨cx,dp+2,Z⟩=N (I Y aY)∧w'.cell? ⟨cx,dp+3,Z⟩=N (I Y bh)∧w'.cell? ⟨cx,dp+4,Z⟩=N (I Y a3)∧w'.cell? ⟨cx,dp+5,Z⟩=N (I U eh)∧w'.cell? ⟨cx,dp+6,Z⟩=N (I U eF)∧w'.cell? ⟨cx,dp+7,Z⟩=N (D dd jC cS))) kR ⟨fU,eO,gm,bI,bu,bY,cP,c8,dj,gK,f3,h2⟩ (fun ay=>?_)|refine kd6 (z:=10) (S:=(fun w'=>w'.cell? ⟨(w.heap.size+1+1),0,Z⟩=N (V bw)∧w'.cell? ⟨(w.heap.size+1+1),1,Z⟩=N (I Y f0)∧w'.cell? ⟨(w.heap.size+1+1),2,Z⟩=N (I Y b6)∧w'.cell? ⟨w,7,Z⟩=N (D (N ⟨cx,dp,Z⟩) ps.length c9)∧w'.cell? ⟨cx,dp+k*8,Z⟩=N (I U kd)∧w'.cell? ⟨cx,dp+k*8+1,Z⟩=N (I Y a0)∧w'.cell? ⟨cx,dp+k*8+2,Z⟩=N (I Y aY)∧w'.cell? ⟨cx,dp+k*8+3,Z⟩=N (I Y bh)∧w'.cell? ⟨cx,dp+k*8+4,Z⟩=N (I Y a3)∧w'.cell? ⟨cx,dp+k*8+5,Z⟩=N (I U eh)∧w'.cell? ⟨cx,dp+k*8+6,Z⟩=N (I U eF)∧w'.cell? ⟨cx,dp+k*8+7,Z⟩=N (D dd jC cS))) kR ⟨fU,eO,gm,bI,bu,bY,cP,c8,dj,gK,f3,h2⟩ (fun ay=>?_));refine tkZ 0 ay ?_;refine tkZ 1 ay ?_;refine tkZ 2 ay ?_;refine tkZ 3 ay ?_;refine tkZ 4 ay ?_;refine tkZ 5 ay ?_;refine tkZ 6 ay ?_;(first|guard_hyp js;refine tkP 7 (fun aR aJ=>?_)|refine tkZ 7 ay ?_;refine tkP 8 (fun aR aJ=>?_));go_simp;go_at_call 160;refine r9.o.mono ?_;rintro e aK ⟨rfl,lb,MH⟩;have dg:KCh c cT aK:=(KCh.drew c cT).trans MH;have JE:=dg;obtain ⟨ET,Ca,da,ih,fR⟩:=hd5 lb (dg.far _ _ _ de.o kaS) (dg.far _ _ _ a1.o kel) (dg.far _ _ _ cf.o kaS) (ei.o.trans dg);have B7:=dg.size;(first|guard_hyp js;have EU:R8 aK w (I U 5) (I Y 0) (I Y 0) (I Y 0) (I Y 0) (I U lo) (I U (-1)) (D (N ⟨cx,dp,Z⟩) 1 c9):=da.o|have EU:R8 aK w (I U 3) (I Y 0) (I Y 0) (I Y 0) (I Y 0) (I U 0) (I U 0) (D (N ⟨cx,dp,Z⟩) ps.length c9):=da.o);have nD:=EU.cells.2.2.2;have s0:=Ca.o.cell 0;have s1:=Ca.o.cell 1;have s2:=Ca.o.cell 2;unfold ptC at s0 s1 s2;simp only[gA,gB,gC] at s0 s1 s2;have lx:∀ j,aK.cell? ⟨cx,j,Z⟩=cT.cell? ⟨cx,j,Z⟩:=fun j=>ue6 (JE.low cx nM oM);have rk:=And.intro s0 (And.intro s1 (And.intro s2 (And.intro nD (And.intro ((lx _).trans bu) (And.intro ((lx _).trans bY) (And.intro ((lx _).trans cP) (And.intro ((lx _).trans c8) (And.intro ((lx _).trans dj) (And.intro ((lx _).trans gK) (And.intro ((lx _).trans f3) ((lx _).trans h2)))))))))));have Q2:=hD dg;clear lb MH dg JE EU nD s0 s1 s2 lx;refine aJ.out _ _ (fun _=>rk) ?_;clear aJ aR;(try simp only[Act.put,gE,gF,gG]);(first|guard_hyp js;refine tkP 8 (fun aR aJ=>?_)|refine tkP 9 (fun aR aJ=>?_));go_simp;go_at_call 192;refine (zh.o _ ET.o).mono ?_;rintro e bm ⟨rfl,vy,gQ⟩;have JF:=Q2.o.trans gQ;obtain ⟨i4,dQ,jq,gL⟩:=hd4 (gQ.far _ _ _ Ca.o kaS) (gQ.far _ _ _ da.o kel) (gQ.far _ _ _ ih.o kaS) (fR.o.trans gQ);have ze:=gQ.size;(first|guard_hyp js;have u6:R8 bm w (I U 5) (I Y 0) (I Y 0) (I Y 0) (I Y 0) (I U lo) (I U (-1)) (D (N ⟨cx,dp,Z⟩) 1 c9):=dQ.o|have u6:R8 bm w (I U 3) (I Y 0) (I Y 0) (I Y 0) (I Y 0) (I U 0) (I U 0) (D (N ⟨cx,dp,Z⟩) ps.length c9):=dQ.o);have nD:=u6.cells.2.2.2;have s0:=i4.o.cell 0;have s1:=i4.o.cell 1;have s2:=i4.o.cell 2;unfold ptC at s0 s1 s2;simp only[gA,gB,gC] at s0 s1 s2;have lx:∀ j,bm.cell? ⟨cx,j,Z⟩=cT.cell? ⟨cx,j,Z⟩:=fun j=>ue6 (JF.low cx nM oM);have iF:=And.intro s0 (And.intro s1 (And.intro s2 (And.intro nD (And.intro ((lx _).trans bu) (And.intro ((lx _).trans bY) (And.intro ((lx _).trans cP) (And.intro ((lx _).trans c8) (And.intro ((lx _).trans dj) (And.intro ((lx _).trans gK) (And.intro ((lx _).trans f3) ((lx _).trans h2)))))))))));have hd:=Blk.mac (Blk.mac (Blk.mac i4.o 0 (V bJ)) 1 (I Y (cB:Nat))) 2 (I Y (et:Nat));unfold ptC at hd;simp only[gE,gF,gG] at hd;have ki:=hD hd;have oo:=hD (vy.kpt (kcn i4.o (V bJ) (I Y (cB:Nat)) (I Y (et:Nat))));have hC:=hD (Blk.far (Blk.far (Blk.far dQ.o (p:=⟨(w.heap.size+1+1),0,Z⟩) (show w.heap.size≠(w.heap.size+1+1) by omega) (V bJ)) (p:=⟨(w.heap.size+1+1),1,Z⟩) (show w.heap.size≠(w.heap.size+1+1) by omega) (I Y (cB:Nat))) (p:=⟨(w.heap.size+1+1),2,Z⟩) (show w.heap.size≠(w.heap.size+1+1) by omega) (I Y (et:Nat)));have kj:=hD (Blk.far (Blk.far (Blk.far jq.o (p:=⟨(w.heap.size+1+1),0,Z⟩) (show w.heap.size+1≠(w.heap.size+1+1) by omega) (V bJ)) (p:=⟨(w.heap.size+1+1),1,Z⟩) (show w.heap.size+1≠(w.heap.size+1+1) by omega) (I Y (cB:Nat))) (p:=⟨(w.heap.size+1+1),2,Z⟩) (show w.heap.size+1≠(w.heap.size+1+1) by omega) (I Y (et:Nat)));have iC:=hD (gL.o.tail (kdf w bm (w.heap.size+1+1) oM (V bJ) (I Y (cB:Nat)) (I Y (et:Nat))));have bO:=i4.o.frozen 0;have cc:=i4.o.frozen 1;have jH:=i4.o.frozen 2;clear vy gQ JF u6 nD lx hd;refine aJ.out _ _ (fun _=>iF) ?_;clear aJ aR;(try simp only[Act.put,gE,gF,gG]);(first|guard_hyp js;refine tkP 9 (fun aR aJ=>?_)|refine tkP 10 (fun aR aJ=>?_));have Q3:=();exact kiq
  ·(first|guard_hyp js;have ly:j=lo.toNat-1:=oM;have mB:=CG.o cT gz ei.o a8.o ge.o.2 lQ;rw[←jY] at mB;obtain ⟨iG,pM⟩:∃ z,(lo==0)=z:=⟨_,rfl⟩;have JG:decide (lo=0)=iG:=(by rw[←pM];rfl);have hS:es=(Rg.mbb (bw,f0,b6) (aL||iG,b2,bx),Rg.mbk (Rg.link ig bx b2) (bw,f0,b6) (aL||iG,b2,bx)):=(by rw[bq.o,←ly,←K1.o,←JG];dsimp only;rw[←jY]);have JH:=dz.2;dsimp only at JH;have e2:ig.S.length≤64:=oM;have m8:=fun (W:O) (h:ChM W c ig)=>kq5 c ig bx b2 W h jo.2 e2 jo.1.1;have o7:=fun (W:O) (h:ChM W c (Rg.link ig bx b2))=>kkg c (Rg.link ig bx b2) (bw,f0,b6) (aL||iG,b2,bx) W h (jo.2.link jo.1.1) e2 ge.o.1 ⟨jo.1.1,jo.1.2⟩;obtain ⟨zg,sa⟩:=xE (Rg.mbb (bw,f0,b6) (aL||iG,b2,bx));obtain ⟨EV,JI⟩:=xE (Rg.mbk (Rg.link ig bx b2) (bw,f0,b6) (aL||iG,b2,bx));rw[←sa,←JI] at hS o7;obtain ⟨pN,pO⟩:=xE (Rg.link ig bx b2);rw[←pO] at m8 o7;obtain ⟨bJ,cB,et⟩:=zg;have r9:Hz (L prog 160 #[ab (N ⟨c,0,Z⟩),aa #[I .i64 kd,I Y a0,I Y aY,I Y bh,I Y a3,I U eh,I U eF,D dd jC cS]] cT fun e w'=>e=ac (aa #[V aL,I Y (b2:Nat),I Y (bx:Nat)])∧ChM w' c ig∧KCh c cT w'):=hD mB;have zi:=hD m8;have zh:Hz (∀ W:O,ChM W c pN→L prog 192 #[ab (N ⟨c,0,Z⟩),aa #[V bw,I Y (f0:Nat),I Y (b6:Nat)],aa #[V (aL||iG),I Y (b2:Nat),I Y (bx:Nat)]] W fun e w'=>e=ac (aa #[V bJ,I Y (cB:Nat),I Y (et:Nat)])∧ChM w' c EV∧KCh c W w'):=hD o7;have hx:=hD hS;have wU:=hD pM;clear hY wT lQ dz JH e2 jo mB jY m8 o7 sa pO JI hS JG pM bq;go_wp2_with fail;refine r9.o.mono ?_;rintro cG aK ⟨rfl,lb,dg⟩;have hN:=dg.far _ _ _ de.o kaS;have h1:=dg.far _ _ _ a1.o kel;have rj:=dg.far _ _ _ cf.o kaS;have kM:=ei.o.trans dg;have B7:=dg.size;obtain ⟨bm,eM⟩:=xE (aK.alloc (y #[V aL,I Y (b2:Nat),I Y (bx:Nat)] 226));have o6:=bM eM;have gq:=bA eM;have tA:=wS eM;obtain ⟨g9,i4,jq,dQ,gL,ks,rl⟩:=hd7 eM (hN.below gq hN.lt) (rj.below gq rj.lt) (h1.below gq h1.lt) (kM.trans (KCh.of_below gq)) (lb.below gq) o6;have eD:=o6.cell 0;have eS:=o6.cell 1;have il:=o6.cell 2;simp only[gA,gB,gC] at eD eS il;clear eM hN rj h1 kM dg lb gq o6 r9 de a8 a1 cf ei aN aM aZ bC b1 c5 ct bI bu bY cP c8 dj gK f3 h2 fU eO gm;go_upto_region 8 with (fail);rw[←g9.o];clear g9|obtain rfl:k=ps.length:=oM;rw[uf2] at ge nQ de a8;obtain ⟨u3,mU⟩:=xE (ps.foldl (fun s p=>Rg.onP (Rg.mak n p) s) (Rg.unit,bn));rw[←mU] at ge nQ de a8;obtain ⟨⟨bw,f0,b6⟩,gz⟩:=u3;have hx:=hD (bq.o.trans mU.symm);have mC:=cf;have fU:=de.o.cell 0;have eO:=de.o.cell 1;have gm:=de.o.cell 2;unfold ptC at fU eO gm;simp only[gA,gB,gC] at fU eO gm;clear mU bq;have z0:=mC.o.cell 0;have ca:=mC.o.cell 1;have cI:=mC.o.cell 2;simp only[gA,gB,gC] at z0 ca cI;have k0:=mC.o.frozen 0;have k1:=mC.o.frozen 1;have bS:=mC.o.frozen 2;have hd:=Blk.mac (Blk.mac (Blk.mac mC.o 0 (V bw)) 1 (I Y (f0:Nat))) 2 (I Y (b6:Nat));simp only[gE,gF,gG] at hd;obtain ⟨cW,kr,nO⟩:=hd3 hd (a8.o.kpt (kcn mC.o (V bw) (I Y (f0:Nat)) (I Y (b6:Nat)))) (ei.o.tail (kdf w cT (w.heap.size+1) oM (V bw) (I Y (f0:Nat)) (I Y (b6:Nat))));clear hd);go_wp2_with fail
   first
   |guard_hyp js;refine (zi.o _ ks.o).mono ?_;rintro cG du ⟨rfl,MI,nr⟩;clear eD eS il;have u7:=nr.far _ _ _ rl.o kaS;have JJ:=nr.far _ _ _ i4.o kaS;have wV:=nr.far _ _ _ jq.o kaS;have lk:R8 du w (I U 5) (I Y 0) (I Y 0) (I Y 0) (I Y 0) (I U lo) (I U (-1)) (D (N ⟨cx,dp,Z⟩) 1 c9):=nr.far _ _ _ dQ.o kel;have wW:=gL.o.trans nr;have Q4:=nr.size;have ch:(w.heap.size+1+1)≠aK.heap.size:=oM;have DG:w.heap.size+1≠aK.heap.size:=oM;have Cb:=Blk.mac u7 0 (V (aL||iG));simp only[gE,gF,gG] at Cb;have EW:=Blk.far JJ (p:=⟨aK,0,Z⟩) ch (V (aL||iG));have EX:=Blk.far wV (p:=⟨aK,0,Z⟩) DG (V (aL||iG));have EY:=MI.kpt ((KPt.refl du).set (p:=⟨aK,0,Z⟩) u7 kaS (V (aL||iG)));have ng:=wW.tail ((ub5 w du).setCell (p:=⟨aK,0,Z⟩) (show w.heap.size≤aK.heap.size by omega) (V (aL||iG)));have eD:=u7.cell 0;have eS:=u7.cell 1;have il:=u7.cell 2;simp only[gA,gB,gC] at eD eS il;have EZ:=u7.frozen 0;obtain ⟨⟨⟨aN,aM⟩,aZ,bC⟩,⟨b1,c5⟩,ct,bI⟩:=lk.cells;obtain ⟨dl,hB⟩:=xE (du.setCell ⟨aK,0,Z⟩ (V (aL||iG)));rw[←hB] at Cb EW EX EY ng;have zf:dl.heap.size=du.heap.size:=(by rw[hB];simp[World.setCell]);obtain ⟨pP,k4,JK,pL,mz⟩:=hd5 Cb EW EX EY ng;clear u7 JJ wV lk wW nr MI Cb EW EX EY ng rl i4 jq dQ gL ks zi ch DG
    cases aL with
    |true=>have qw:Hz (dl=du.setCell ⟨aK,0,Z⟩ (V K)):=hD (by rw[hB];rfl);have pM:=wU.o;clear hB;go_upto_region 10 with (fail);have Q5:=();exact kmL
    |false=>have qw:Hz (dl=du.setCell ⟨aK,0,Z⟩ (V iG)):=hD (by rw[hB];rfl);have pM:=wU.o;clear hB;go_upto_region 10 with (fail);(try rw[pM]);exact kmL
   |have bi:=cW.o.cell 0;have aW:=cW.o.cell 1;have bc:=cW.o.cell 2;simp only[gA,gB,gC] at bi aW bc;refine ub2 (v:=aa #[V bw,I Y (f0:Nat),I Y (b6:Nat)]) (by simp[results,results160,go_sem,bi,aW,bc]) rfl ?_;exact ⟨by rw[hx.o];rfl,by rw[hx.o];exact kr.o,nO.o⟩
 |guard_hyp SM;by_cases bG:k<ps.length
  .obtain ⟨x,aA⟩:=xG ps bG;exact kip
  .obtain rfl:k=ps.length:=oM;rw[uf2] at ge nQ de a8;obtain ⟨u3,mU⟩:=xE (ps.foldl (fun s p=>Rg.orP (Rg.mak n p) s) ((J,0,0),bn));rw[←mU] at ge nQ de a8;obtain ⟨⟨bw,f0,b6⟩,gz⟩:=u3;have hx:=hD (bq.o.trans mU.symm);have mC:=cf;have fU:=de.o.cell 0;have eO:=de.o.cell 1;have gm:=de.o.cell 2;unfold ptC at fU eO gm;simp only[gA,gB,gC] at fU eO gm;clear mU bq;have z0:=mC.o.cell 0;have ca:=mC.o.cell 1;have cI:=mC.o.cell 2;simp only[gA,gB,gC] at z0 ca cI;have k0:=mC.o.frozen 0;have k1:=mC.o.frozen 1;have bS:=mC.o.frozen 2;have hd:=Blk.mac (Blk.mac (Blk.mac mC.o 0 (V bw)) 1 (I Y (f0:Nat))) 2 (I Y (b6:Nat));simp only[gE,gF,gG] at hd;obtain ⟨cW,kr,nO⟩:=hd3 hd (a8.o.kpt (kcn mC.o (V bw) (I Y (f0:Nat)) (I Y (b6:Nat)))) (ei.o.tail (kdf w cT (w.heap.size+1) oM (V bw) (I Y (f0:Nat)) (I Y (b6:Nat))));clear hd;go_wp2_with fail;have bi:=cW.o.cell 0;have aW:=cW.o.cell 1;have bc:=cW.o.cell 2;simp only[gA,gB,gC] at bi aW bc;refine ub2 (v:=aa #[V bw,I Y (f0:Nat),I Y (b6:Nat)]) (by simp[results,results160,go_sem,bi,aW,bc]) rfl ?_;exact ⟨by rw[hx.o];rfl,by rw[hx.o];exact kr.o,nO.o⟩
 |by_cases bG:(k:Int)<(m:Int)
  .have hY:=zN.o cT ei.o;have bu:=hY 0 _ rfl;have bY:=hY 1 _ rfl;have cP:=hY 2 _ rfl;have c8:=hY 3 _ rfl;have dj:=hY 4 _ rfl;have gK:=hY 5 _ rfl;have f3:=hY 6 _ rfl;have h2:=hY 7 _ rfl;rw[uh4] at bu;have wT:x.pos*(k+1)≤x.pos*m:=up6 _ oM;have k5:=K5.o k;have tD:=K4.o k;obtain ⟨E0,rm⟩:=xE (Rg.maW bl k bn);rw[←rm] at k5 tD dB a8;obtain ⟨pl,gz⟩:=E0;have lQ:gz.S.length+x.pos≤64:=(by have af:=k5.2.1;have ao:=nQ.o;rw[uo7] at wT;dsimp only at af;omega);have mB:=CG.o cT gz ei.o a8.o tD.2 lQ;obtain ⟨rh,jY⟩:=xE (bl gz);rw[←jY] at mB;obtain ⟨⟨aL,b2,bx⟩,ig⟩:=rh;have bF:Hz (Rg.maW bl (k+1) bn=(pl++[(aL,b2,bx)],ig)):=hD (by show ((Rg.maW bl k bn).1++[(bl (Rg.maW bl k bn).2).1],(bl (Rg.maW bl k bn).2).2)=_;rw[←rm];dsimp only;rw[←jY]);exact km5
  .obtain rfl:m=k:=oM;have k5:=K5.o m;have tD:=K4.o m;have lQ:=nQ.o;have aG:=bq.o;obtain ⟨E0,rm⟩:=xE (Rg.maW bl m bn);rw[←rm] at k5 tD dB a8 aG;obtain ⟨pl,Cc⟩:=E0;have qs:pl.length=m:=k5.2.2;have E2:=hD qs;have kg:Cc.S.length≤64:=(by have:=k5.2.1;dsimp only at this;omega);obtain ⟨s9,Q6,Q7,hx,nf⟩:=hd5 kg tD.1 tD.2 aG (fun (i:Nat) (e:(D dF m eB).ownBlock=N i)=>(kbM dB.o e).2);have jz:=Blk.new cT 226 (ptC Rg.unit);obtain ⟨a6,cl⟩:=xE (cT.alloc (y (ptC Rg.unit) 226));have iM:=bA cl;rw[←cl] at jz;have ea:Hz (a6=cT.alloc (y #[V K,I Y 0,I Y 0] 226)):=hD cl;have rf:=wS cl;obtain ⟨jr,cX,fX,na,JL,fx⟩:=hd6 jz (a1.o.below iM a1.o.lt) (cf.o.below iM cf.o.lt) (a8.o.below iM) (kaI dB.o iM) (ei.o.trans (KCh.of_below iM));obtain ⟨g,hg⟩:=xE cT.heap.size;rw[←hg] at jr nf pf rf;have fh:=hD hg;clear k5 tD lQ aG rm qs kg jz iM cl dB a8 a1 cf ei hg;go_upto_region 17 with (fail);rw[←ea.o,←fh.o];clear ea fh;clear aN aM aZ bC b1 c5 ct bI;have rn:=uc5 ((m:Int)-1) oM;obtain ⟨⟨⟨aN,aM⟩,aZ,bC⟩,⟨b1,c5⟩,ct,bI⟩:=cX.o.cells;go_wp2_with fail;clear aN aM aZ bC b1 c5 ct bI;go_loopg [11] (m+1) (fun f v wr=>∃(j:Nat) (s:Rg.Pt×Rg.Ch) (zj:Int),v=I U zj∧zj=(j:Int)-1∧j≤m∧j<f∧g<wr.heap.size∧Hz (Rg.mbe lo pl j s=Rg.mbe lo pl m (Rg.unit,Cc))∧Hz (OkS s)∧Hz (s.2.S.length=Cc.S.length)∧Hz (Blk wr g 226 (ptC s.1))∧Hz (ChM wr c s.2)∧Hz (wr.ownsRow (w.heap.size+1+1) 226 3 (D dF m eB) m (ptL pl))∧Hz (R8 wr w (I U 5) (I Y 0) (I Y 0) (I Y 0) (I Y 0) (I U lo) (I U m) (D (N ⟨cx,dp,Z⟩) 1 c9))∧Hz (Blk wr (w.heap.size+1) 226 #[V J,I Y 0,I Y 0])∧Hz (KCh c w wr))
   case atStart=>exact ⟨m,(Rg.unit,Cc),(m:Int)-1,rfl,oM,oM,oM,oM,hD rfl,hD ⟨kdL,Q7.o⟩,hD rfl,jr,na,JL,cX,fX,fx⟩
   case round=>
    clear jr na JL cX fX fx rn rf bG fo aw;obtain ⟨j,s,zj,rfl,b9,aS,qY,ZX,lj,ge,wY,de,a8,dB,a1,cf,ei⟩:=hrel;obtain ⟨⟨bw,f0,b6⟩,gz⟩:=s;have fU:=de.o.cell 0;have eO:=de.o.cell 1;have gm:=de.o.cell 2;unfold ptC at fU eO gm;simp only[gA,gB,gC] at fU eO gm;obtain ⟨tf,rfl⟩:∃ Dk,gk=Dk+1:=⟨gk-1,oM⟩;obtain ⟨fe,sb⟩:=xE wr;subst sb;by_cases ec:0<j
    .obtain ⟨i,rfl⟩:∃ i,j=i+1:=⟨j-1,oM⟩;obtain rfl:zj=(i:Int):=oM;clear b9;obtain ⟨JM,lQ⟩:∃ p,pl[i]? =N p:=⟨_,ua3 (by rw[E2.o];omega)⟩;have nP:=Q6.o JM (ua4 lQ);obtain ⟨hW,oq,ot⟩:=JM;have jS:=hD lQ;have ii:pl.getD i (J,0,0)=(hW,oq,ot):=(by rw[ub6,lQ];rfl);obtain ⟨iG,pM⟩:∃ z,decide (lo≤(i:Int))=z:=⟨_,rfl⟩;have qZ:Rg.mbe lo pl (i+1) ((bw,f0,b6),gz)=Rg.mbe lo pl i (((Rg.mbb (hW,oq,ot) (bw,f0,b6)).1||iG,(Rg.mbb (hW,oq,ot) (bw,f0,b6)).2),Rg.mbk gz (hW,oq,ot) (bw,f0,b6)):=(by rw[Rg.mbe,ii,pM]);have o7:=kkg c gz (hW,oq,ot) (bw,f0,b6) fe.drew (a8.o.kpt (KPt.of_below (ub5 _ fe).drew)) ge.o.2 (by have af:=wY.o;have ao:=s9.o;dsimp only at af;omega) nP ge.o.1;have ol:OkS (((Rg.mbb (hW,oq,ot) (bw,f0,b6)).1||iG,(Rg.mbb (hW,oq,ot) (bw,f0,b6)).2),Rg.mbk gz (hW,oq,ot) (bw,f0,b6)):=⟨kfC nP ge.o.1,ge.o.2.link ge.o.1.1⟩;have kI:(Rg.mbk gz (hW,oq,ot) (bw,f0,b6)).S.length=gz.S.length:=rfl;obtain ⟨zg,sa⟩:=xE (Rg.mbb (hW,oq,ot) (bw,f0,b6));obtain ⟨pN,pO⟩:=xE (Rg.mbk gz (hW,oq,ot) (bw,f0,b6));rw[←sa,←pO] at qZ o7 ol;rw[←pO] at kI;obtain ⟨bJ,cB,et⟩:=zg;have wP:Hz (L prog 192 #[ab (N ⟨c,0,Z⟩),aa #[V hW,I Y (oq:Nat),I Y (ot:Nat)],aa #[V bw,I Y (f0:Nat),I Y (b6:Nat)]] fe.drew fun e w'=>e=ac (aa #[V bJ,I Y (cB:Nat),I Y (et:Nat)])∧ChM w' c pN∧KCh c fe.drew w'):=hD o7;have JN:Hz (Rg.mbe lo pl i ((bJ||iG,cB,et),pN)=Rg.mbe lo pl (i+1) ((bw,f0,b6),gz)):=hD qZ.symm;have u5:Hz (OkS ((bJ||iG,cB,et),pN)):=hD ol;have kq:=hD kI;have wU:=hD pM;obtain ⟨eN,bP,zk,fW,Q8⟩:=dB.o.form oM;obtain ⟨rfl, -,rfl⟩:=uj2 zk;have t0:fe.cell? ⟨eN,i*3,Z⟩=N (V hW):=(dB.o.cellAt (i*3) oM).trans (kef lQ).1;have bb:fe.cell? ⟨eN,i*3+1,Z⟩=N (I Y (oq:Nat)):=(dB.o.cellAt (i*3+1) oM).trans (kef lQ).2.1;have db:fe.cell? ⟨eN,i*3+2,Z⟩=N (I Y (ot:Nat)):=(dB.o.cellAt (i*3+2) oM).trans (kef lQ).2.2;have cU:(i:Int)<(m:Int):=oM;have bE:=nN i;clear lQ ii qZ o7 ol kI sa pO pM zk nP;go_upto_region 20 with (fail);refine ue4 ?_;refine kd6 (z:=7) (S:=(fun w'=>w'.cell? ⟨eN,i*3,Z⟩=N (V hW)∧w'.cell? ⟨eN,i*3+1,Z⟩=N (I Y oq)∧w'.cell? ⟨eN,i*3+2,Z⟩=N (I Y ot)∧w'.cell? ⟨g,0,Z⟩=N (V bw)∧w'.cell? ⟨g,1,Z⟩=N (I Y f0)∧w'.cell? ⟨g,2,Z⟩=N (I Y b6))) kR ⟨t0,bb,db,fU,eO,gm⟩ (fun ay=>?_);refine tkZ 0 ay ?_;refine tkZ 1 ay ?_;refine tkZ 2 ay ?_;refine tkZ 3 ay ?_;refine tkZ 4 ay ?_;refine tkZ 5 ay ?_;refine tkP 6 (fun aR aJ=>?_);go_simp;go_at_call 192;refine wP.o.mono ?_;rintro e bm ⟨rfl,vy,MJ⟩;have gQ:KCh c fe bm:=(KCh.drew c fe).trans MJ;have jp:=gQ.far _ _ _ de.o kaS;have mj:=gQ.far _ _ _ a1.o kel;have JO:=gQ.far _ _ _ cf.o kaS;have tC:=kpA dB.o gQ kaS;have sM:=ei.o.trans gQ;have ze:=gQ.size;have s0:=jp.cell 0;have s1:=jp.cell 1;have s2:=jp.cell 2;unfold ptC at s0 s1 s2;simp only[gA,gB,gC] at s0 s1 s2;have iF:=And.intro ((tC.cellAt (i*3) oM).trans (kef jS.o).1) (And.intro ((tC.cellAt (i*3+1) oM).trans (kef jS.o).2.1) (And.intro ((tC.cellAt (i*3+2) oM).trans (kef jS.o).2.2) (And.intro s0 (And.intro s1 s2))));have hd:=Blk.mac (Blk.mac (Blk.mac jp 0 (V bJ)) 1 (I Y (cB:Nat))) 2 (I Y (et:Nat));unfold ptC at hd;simp only[gE,gF,gG] at hd;have E3:=vy.kpt (kcn jp (V bJ) (I Y (cB:Nat)) (I Y (et:Nat)));have lk:=(Blk.far (Blk.far (Blk.far mj (p:=⟨g,0,Z⟩) (show w.heap.size≠g by omega) (V bJ)) (p:=⟨g,1,Z⟩) (show w.heap.size≠g by omega) (I Y (cB:Nat))) (p:=⟨g,2,Z⟩) (show w.heap.size≠g by omega) (I Y (et:Nat)));have wV:=(Blk.far (Blk.far (Blk.far JO (p:=⟨g,0,Z⟩) (show w.heap.size+1≠g by omega) (V bJ)) (p:=⟨g,1,Z⟩) (show w.heap.size+1≠g by omega) (I Y (cB:Nat))) (p:=⟨g,2,Z⟩) (show w.heap.size+1≠g by omega) (I Y (et:Nat)));have E4:=kvN tC (fun e=>by have:=nf.o g e;omega) (V bJ) (I Y (cB:Nat)) (I Y (et:Nat));have wW:=sM.tail (kdf w bm g oM (V bJ) (I Y (cB:Nat)) (I Y (et:Nat)));have bO:=jp.frozen 0;have cc:=jp.frozen 1;have jH:=jp.frozen 2;obtain ⟨du,hp⟩:=xE (((bm.setCell ⟨g,0,Z⟩ (V bJ)).setCell ⟨g,1,Z⟩ (I Y (cB:Nat))).setCell ⟨g,2,Z⟩ (I Y (et:Nat)));rw[←hp] at hd E3 lk wV E4 wW;have Q4:du.heap.size=bm.heap.size:=(by rw[hp];simp[World.setCell]);obtain ⟨ki,oo,hC,kj,q2,iC,tg⟩:=hd7 hd E3 lk wV E4 wW hp;clear vy MJ gQ jp mj JO tC sM hd E3 lk wV E4 wW hp s0 s1 s2;refine aJ.out _ _ (fun _=>iF) ?_;clear aJ aR;(try simp only[Act.put,gE,gF,gG]);refine tkP 7 (fun aR aJ=>?_);have Q9:=();exact kiq
    .obtain rfl:j=0:=oM;obtain rfl:zj= -1:=oM;clear b9;have aS:Rg.mbe lo pl 0 ((bw,f0,b6),gz)=((bw,f0,b6),gz):=rfl;have eL:=hD (hx.o.trans (lj.o.symm.trans aS));have tE:=cf;clear aS lj hx bq;have z0:=tE.o.cell 0;have ca:=tE.o.cell 1;have cI:=tE.o.cell 2;simp only[gA,gB,gC] at z0 ca cI;have k0:=tE.o.frozen 0;have k1:=tE.o.frozen 1;have bS:=tE.o.frozen 2;have hd:=Blk.mac (Blk.mac (Blk.mac tE.o 0 (V bw)) 1 (I Y (f0:Nat))) 2 (I Y (b6:Nat));simp only[gE,gF,gG] at hd;obtain ⟨cW,kr,nO⟩:=hd3 hd (a8.o.kpt (kcn tE.o (V bw) (I Y (f0:Nat)) (I Y (b6:Nat)))) (ei.o.tail (kdf w fe (w.heap.size+1) oM (V bw) (I Y (f0:Nat)) (I Y (b6:Nat))));clear hd;go_wp2_with fail;have bi:=cW.o.cell 0;have aW:=cW.o.cell 1;have bc:=cW.o.cell 2;simp only[gA,gB,gC] at bi aW bc;refine ub2 (v:=aa #[V bw,I Y (f0:Nat),I Y (b6:Nat)]) (by simp[results,results193,go_sem,bi,aW,bc]) rfl ?_;exact ⟨by rw[eL.o];rfl,by rw[eL.o];exact kr.o,nO.o⟩):=h
def kgF (h:P:=by
 unfold RxV at au;obtain ⟨A,c,bV,rfl,dx,dU⟩:=au;unfold Rx.size at al;obtain ⟨jU,hP,fQ,iQ,b4,dc⟩:=hd6 dw (show 1+kam ps≤n+1 from ax) dx dU hF bQ;(first|guard_hyp Ce;have dI:=hD (show R8 (w.alloc (y #[I .i64 5,I Y 0,I Y 0,I Y 0,I Y 0,I U lo,I U hi,D A ps.length c] 105)) w (I U 5) (I Y 0) (I Y 0) (I Y 0) (I Y 0) (I U lo) (I U hi) (D A ps.length c) from Blk.new w _ _);have a7:=hD ((ub5 w w).alloc (nR) (y #[I .i64 5,I Y 0,I Y 0,I Y 0,I Y 0,I U lo,I U hi,D A ps.length c] 105))|guard_hyp Cd;have dI:=hD (show R8 (w.alloc (y #[I .i64 5,I Y 0,I Y 0,I Y 0,I Y 0,I U lo,I U (-1),D A ps.length c] 105)) w (I U 5) (I Y 0) (I Y 0) (I Y 0) (I Y 0) (I U lo) (I U (-1)) (D A ps.length c) from Blk.new w _ _);have a7:=hD ((ub5 w w).alloc (nR) (y #[I .i64 5,I Y 0,I Y 0,I Y 0,I Y 0,I U lo,I U (-1),D A ps.length c] 105))|guard_hyp E5;have dI:=hD (show R8 (w.alloc (y #[I .i64 4,I Y 0,I Y 0,I Y 0,I Y 0,I U 0,I U 0,D A ps.length c] 105)) w (I U 4) (I Y 0) (I Y 0) (I Y 0) (I Y 0) (I U 0) (I U 0) (D A ps.length c) from Blk.new w _ _);have a7:=hD ((ub5 w w).alloc (nR) (y #[I .i64 4,I Y 0,I Y 0,I Y 0,I Y 0,I U 0,I U 0,D A ps.length c] 105))|have dI:=hD (show R8 (w.alloc (y #[I .i64 3,I Y 0,I Y 0,I Y 0,I Y 0,I U 0,I U 0,D A ps.length c] 105)) w (I U 3) (I Y 0) (I Y 0) (I Y 0) (I Y 0) (I U 0) (I U 0) (D A ps.length c) from Blk.new w _ _);have a7:=hD ((ub5 w w).alloc (nR) (y #[I .i64 3,I Y 0,I Y 0,I Y 0,I Y 0,I U 0,I U 0,D A ps.length c] 105)));have kO:=cj.1;have iw:=hD (cj.below a7.o kO);have ms:=hD cj;(first|guard_hyp Ce;obtain ⟨aq,aQ⟩:=xE (w.alloc (y #[I .i64 5,I Y 0,I Y 0,I Y 0,I Y 0,I U lo,I U hi,D A ps.length c] 105))|guard_hyp Cd;obtain ⟨aq,aQ⟩:=xE (w.alloc (y #[I .i64 5,I Y 0,I Y 0,I Y 0,I Y 0,I U lo,I U (-1),D A ps.length c] 105))|guard_hyp E5;obtain ⟨aq,aQ⟩:=xE (w.alloc (y #[I .i64 4,I Y 0,I Y 0,I Y 0,I Y 0,I U 0,I U 0,D A ps.length c] 105))|obtain ⟨aq,aQ⟩:=xE (w.alloc (y #[I .i64 3,I Y 0,I Y 0,I Y 0,I Y 0,I U 0,I U 0,D A ps.length c] 105)));rw[←aQ] at dI a7 iw;have cd:=hD aQ;have qy:ps.length≤1000000000:=(by have:=kcE ps;omega);have ex:=hD al;clear dx dU hF bQ ax aQ dw cj al;obtain ⟨eK,u9⟩:=xE ps.length;rw[←u9] at dI cd fQ qy ao ⊢;have qV:=hD u9;clear u9;obtain ⟨d8,g1,eN,gV⟩:=iw.o.2;obtain ⟨⟨⟨aN,aM⟩,aZ,bC⟩,⟨b1,c5⟩,ct,bI⟩:=dI.o.cells;(first|guard_hyp Ce;have bw:((eK:Int) != 1)=J:=(by simp;omega);have Ra:((eK:Int)==1)=K:=(by simp;omega);have Rb:1≤eK:=oM;have Rc:eK≤1:=oM;clear ao;have aL:decide (lo<0)=J:=ua5 oM;have bJ:decide (64<lo)=J:=ua5 oM;have dn:(hi != -1)=K:=(by simp;omega);have h6:decide (hi<lo)=J:=ua5 oM;have BC:decide (64<hi)=J:=ua5 oM|guard_hyp Cd;have bw:((eK:Int) != 1)=J:=(by simp;omega);have Ra:((eK:Int)==1)=K:=(by simp;omega);have Rb:1≤eK:=oM;have Rc:eK≤1:=oM;clear ao;have aL:decide (lo<0)=J:=ua5 oM;have bJ:decide (64<lo)=J:=ua5 oM|have aL:decide ((eK:Int)<2)=J:=ua5 oM);go_enter func187,ntmps187;go_upto_region 1 with (fail);rw[←cd.o];clear cd;go_upto_block 0 with (fail);go_cut [] (fun wc=>aq=wc)
 case first=>
  go_wp2_with fail;go_meet
  case rel=>rfl
 case rest=>
  obtain rfl:=hcut;clear d8 g1 eN gV aN aM aZ bC b1 c5 ct bI;go_wp2_with fail;first|guard_hyp Ce;go_loopg [3] (eK+1) (fun f i wr=>∃ k:Nat,k≤eK∧eK<k+f∧i=I U k∧Hz (H w w wr)∧Hz (R8 wr w (I U 5) (I Y 0) (I Y 0) (I Y 0) (I Y 0) (I U lo) (I U hi) (D A eK c)))|guard_hyp Cd;go_loopg [3] (eK+1) (fun f i wr=>∃ k:Nat,k≤eK∧eK<k+f∧i=I U k∧Hz (H w w wr)∧Hz (R8 wr w (I U 5) (I Y 0) (I Y 0) (I Y 0) (I Y 0) (I U lo) (I U (-1)) (D A eK c)))|guard_hyp E5;go_loopg [3] (eK+1) (fun f i wr=>∃ k:Nat,k≤eK∧eK<k+f∧i=I U k∧Hz (H w w wr)∧Hz (R8 wr w (I U 4) (I Y 0) (I Y 0) (I Y 0) (I Y 0) (I U 0) (I U 0) (D A eK c)))|go_loopg [3] (eK+1) (fun f i wr=>∃ k:Nat,k≤eK∧eK<k+f∧i=I U k∧Hz (H w w wr)∧Hz (R8 wr w (I U 3) (I Y 0) (I Y 0) (I Y 0) (I Y 0) (I U 0) (I U 0) (D A eK c)))
  case atStart=>exact ⟨0,ud1 _,oM,rfl,a7,dI⟩
  case round=>clear a7 dI;obtain ⟨k,aw,fo,rfl,aV,a1⟩:=hrel;have Rd:=();exact kgA):=h
def kmo (h:P:=by unfold RxV at au;obtain ⟨A,c,bV,rfl,dx,dU⟩:=au;unfold Rx.size at al;obtain ⟨jU,hP,fQ,iQ,b4,dc⟩:=hd6 dw (show 1+kam ps≤n+1 from ax) dx dU hF bQ;(first|guard_hyp JP;have dI:=hD (show R8 (w.alloc (y #[I .i64 2,I Y fJ,I Y fN,I Y iy,I Y jD,I U 0,I U 0,D A ps.length c] 105)) w (I U 2) (I Y fJ) (I Y fN) (I Y iy) (I Y jD) (I U 0) (I U 0) (D A ps.length c) from Blk.new w _ _);have a7:=hD ((ub5 w w).alloc (nR) (y #[I .i64 2,I Y fJ,I Y fN,I Y iy,I Y jD,I U 0,I U 0,D A ps.length c] 105))|have dI:=hD (show R8 (w.alloc (y #[I .i64 1,I Y 0,I Y 0,I Y 0,I Y 0,I U 0,I U 0,D A ps.length c] 105)) w (I U 1) (I Y 0) (I Y 0) (I Y 0) (I Y 0) (I U 0) (I U 0) (D A ps.length c) from Blk.new w _ _);have a7:=hD ((ub5 w w).alloc (nR) (y #[I .i64 1,I Y 0,I Y 0,I Y 0,I Y 0,I U 0,I U 0,D A ps.length c] 105)));have kO:=cj.1;have iw:=hD (cj.below a7.o kO);have ms:=hD cj;(first|guard_hyp JP;obtain ⟨aq,aQ⟩:=xE (w.alloc (y #[I .i64 2,I Y fJ,I Y fN,I Y iy,I Y jD,I U 0,I U 0,D A ps.length c] 105))|obtain ⟨aq,aQ⟩:=xE (w.alloc (y #[I .i64 1,I Y 0,I Y 0,I Y 0,I Y 0,I U 0,I U 0,D A ps.length c] 105)));rw[←aQ] at dI a7 iw;have cd:=hD aQ;have qy:ps.length≤1000000000:=(by have:=kcE ps;omega);have ex:=hD al;clear dx dU hF bQ ax aQ dw cj al;obtain ⟨eK,u9⟩:=xE ps.length;rw[←u9] at dI cd fQ qy az ⊢;have qV:=hD u9;clear u9;obtain ⟨d8,g1,eN,gV⟩:=iw.o.2;obtain ⟨⟨⟨aN,aM⟩,aZ,bC⟩,⟨b1,c5⟩,ct,bI⟩:=dI.o.cells;subst az;go_enter func187,ntmps187;go_upto_region 1 with (fail);rw[←cd.o];clear cd;go_wp2_with fail;go_ret;exact ⟨rfl,a7.o⟩):=h
mutual
def Rx.fmd:Rx→Prop
 | .node kind fJ fN iy jD lo hi ps => ((kind = 1 ∧ (fJ = 0 ∧ fN = 0 ∧ iy = 0 ∧ jD = 0) ∧ lo = 0 ∧ hi = 0 ∧ ps.length = 0) ∨ (kind = 2 ∧ lo = 0 ∧ hi = 0 ∧ ps.length = 0) ∨ (kind = 3 ∧ (fJ = 0 ∧ fN = 0 ∧ iy = 0 ∧ jD = 0) ∧ lo = 0 ∧ hi = 0 ∧ 2 ≤ ps.length) ∨ (kind = 4 ∧ (fJ = 0 ∧ fN = 0 ∧ iy = 0 ∧ jD = 0) ∧ lo = 0 ∧ hi = 0 ∧ 2 ≤ ps.length) ∨
  (kind = 5 ∧ (fJ = 0 ∧ fN = 0 ∧ iy = 0 ∧ jD = 0) ∧ ps.length = 1 ∧ 0 ≤ lo ∧ lo ≤ 64 ∧ (hi = -1 ∨ (0 ≤ hi ∧ lo ≤ hi ∧ hi ≤ 64)))) ∧ kap ps
def kap:List Rx→Prop
 |[]=>True
 |r::e7=>r.fmd∧kap e7
end
theorem kdX:∀ {l:List Rx} {i:Nat} {r:Rx},kap l→l[i]? =N r→r.fmd
 |[],i,r,_,am=>by simp at am
 |r0::e7,i,r,h,am=>by
  unfold kap at h
  cases i with
  |zero=>simp only[gB,ug0] at am;subst am;exact h.1
  |succ i=>exact kdX h.2 (by simpa using am)
def NoneAt (w:O):Prop:=2<w.heap.size∧w.cell? ⟨2,0,Z⟩=N (I Y 0)∧w.cell? ⟨2,1,Z⟩=N (I Y 0)∧w.cell? ⟨2,2,Z⟩=N (I Y 0)∧w.cell? ⟨2,3,Z⟩=N (I Y 0)
def NoneAt.below {w w':O} {B:Nat} (h:NoneAt w) (ak:H B w w') (b0:2<B):NoneAt w':=
 ⟨ua7 h.1 ak.size,(ak.cell (p:=⟨2,0,Z⟩) b0).trans h.2.1,(ak.cell (p:=⟨2,1,Z⟩) b0).trans h.2.2.1,(ak.cell (p:=⟨2,2,Z⟩) b0).trans h.2.2.2.1,(ak.cell (p:=⟨2,3,Z⟩) b0).trans h.2.2.2.2⟩
@[go_sem] theorem eql_set0 (w : O) : Sem.run prog (Op.equalIn 10000 102 (aa #[I .u64 0, I Y 0, I Y 0, I Y 0]) (aa #[I .u64 0, I Y 0, I Y 0, I Y 0])) w = .ok K w := by kernel_rfl
def kex (n:Nat):Prop:=∀(r:Rx),r.size≤n→∀(cs:List C) (w:O) (F:Nat→Prop),RxV w F r cs→(∀ i,F i→i<w.heap.size)→r.fmd→NoneAt w→r.size≤1000000000→
 L prog 187 #[aa cs.toArray] w fun e w'=>e=ac (V K)∧H w w w'
def kzu (n:Nat) (bQ:kex n) (ps:List Rx) (ax:(Rx.node 1 0 0 0 0 0 0 ps).size≤n+1) (cs:List C) (w:O) (F:Nat→Prop) (au:RxV w F (Rx.node 1 0 0 0 0 0 0 ps) cs) (hF:∀ i,F i→i<w.heap.size) (az:ps.length=0) (dw:kap ps) (cj:NoneAt w) (al:(Rx.node 1 0 0 0 0 0 0 ps).size≤1000000000):
 L prog 187 #[aa cs.toArray] w fun e w'=>e=ac (V K)∧H w w w':=by
 exact kmo
def kzt (n:Nat) (bQ:kex n) (fJ fN iy jD:Nat) (ps:List Rx) (ax:(Rx.node 2 fJ fN iy jD 0 0 ps).size≤n+1) (cs:List C) (w:O) (F:Nat→Prop) (au:RxV w F (Rx.node 2 fJ fN iy jD 0 0 ps) cs) (hF:∀ i,F i→i<w.heap.size) (az:ps.length=0) (dw:kap ps) (cj:NoneAt w) (al:(Rx.node 2 fJ fN iy jD 0 0 ps).size≤1000000000):
 L prog 187 #[aa cs.toArray] w fun e w'=>e=ac (V K)∧H w w w':=by
 have JP:=();exact kmo
def kzs (n:Nat) (bQ:kex n) (ps:List Rx) (ax:(Rx.node 3 0 0 0 0 0 0 ps).size≤n+1) (cs:List C) (w:O) (F:Nat→Prop) (au:RxV w F (Rx.node 3 0 0 0 0 0 0 ps) cs) (hF:∀ i,F i→i<w.heap.size) (ao:2≤ps.length) (dw:kap ps) (cj:NoneAt w) (al:(Rx.node 3 0 0 0 0 0 0 ps).size≤1000000000):
 L prog 187 #[aa cs.toArray] w fun e w'=>e=ac (V K)∧H w w w':=by
 exact kgF
def kzr (n:Nat) (bQ:kex n) (ps:List Rx) (ax:(Rx.node 4 0 0 0 0 0 0 ps).size≤n+1) (cs:List C) (w:O) (F:Nat→Prop) (au:RxV w F (Rx.node 4 0 0 0 0 0 0 ps) cs) (hF:∀ i,F i→i<w.heap.size) (ao:2≤ps.length) (dw:kap ps) (cj:NoneAt w) (al:(Rx.node 4 0 0 0 0 0 0 ps).size≤1000000000):
 L prog 187 #[aa cs.toArray] w fun e w'=>e=ac (V K)∧H w w w':=by
 have E5:=();exact kgF
def kzq (n:Nat) (bQ:kex n) (lo:Int) (ps:List Rx) (ax:(Rx.node 5 0 0 0 0 lo (-1) ps).size≤n+1) (cs:List C) (w:O) (F:Nat→Prop) (au:RxV w F (Rx.node 5 0 0 0 0 lo (-1) ps) cs) (hF:∀ i,F i→i<w.heap.size) (ao:ps.length=1) (av:0≤lo) (bk:lo≤64) (dw:kap ps) (cj:NoneAt w) (al:(Rx.node 5 0 0 0 0 lo (-1) ps).size≤1000000000):
 L prog 187 #[aa cs.toArray] w fun e w'=>e=ac (V K)∧H w w w':=by
 have Cd:=();exact kgF
def kzp (n:Nat) (bQ:kex n) (lo hi:Int) (ps:List Rx) (ax:(Rx.node 5 0 0 0 0 lo hi ps).size≤n+1) (cs:List C) (w:O) (F:Nat→Prop) (au:RxV w F (Rx.node 5 0 0 0 0 lo hi ps) cs) (hF:∀ i,F i→i<w.heap.size) (ao:ps.length=1) (av:0≤lo) (bk:lo≤64) (dE:0≤hi) (fi:lo≤hi) (hv:hi≤64) (dw:kap ps) (cj:NoneAt w) (al:(Rx.node 5 0 0 0 0 lo hi ps).size≤1000000000):
 L prog 187 #[aa cs.toArray] w fun e w'=>e=ac (V K)∧H w w w':=by
 have Ce:=();exact kgF
theorem krb:∀(n:Nat),kex n
 |0,r,ax,_,_,_,_,_,_,_,_=>by have:=r.size_pos;omega
 |n+1, .node kind fJ fN iy jD lo hi ps,ax,cs,w,F,au,hF,aB,cj,al=>by
  have bQ:=krb n;unfold Rx.fmd at aB;obtain ⟨aw,dw⟩:=aB;rcases aw with ⟨rfl,⟨rfl,rfl,rfl,rfl⟩,rfl,rfl,af⟩|⟨rfl,rfl,rfl,af⟩|⟨rfl,⟨rfl,rfl,rfl,rfl⟩,rfl,rfl,af⟩|⟨rfl,⟨rfl,rfl,rfl,rfl⟩,rfl,rfl,af⟩|⟨rfl,⟨rfl,rfl,rfl,rfl⟩,ao,av,bk,rfl|⟨dE,fi,hv⟩⟩
  .exact kzu n bQ ps ax cs w F au hF af dw cj al
  .exact kzt n bQ _ _ _ _ ps ax cs w F au hF af dw cj al
  .exact kzs n bQ ps ax cs w F au hF af dw cj al
  .exact kzr n bQ ps ax cs w F au hF af dw cj al
  .exact kzq n bQ _ ps ax cs w F au hF ao av bk dw cj al
  .exact kzp n bQ _ _ ps ax cs w F au hF ao av bk dE fi hv dw cj al
end Go.Proofs.YtamhdmkolfmmdaaGreatDoor
namespace Go.Proofs.YtamhdmkolfmmdaaGreatDoor
variable {P:Prop}
variable {T:List UInt8}
theorem khp:∀ {l l':List Rx},kap l→kap l'→kap (l++l')
 |[],_,_,h=>h
 |r::e7,l',h,fg=>by unfold kap at h;rw[ui4];unfold kap;exact ⟨h.1,khp h.2 fg⟩
theorem kf9 {r:Rx} (h:r.fmd):kap [r]:=by unfold kap kap;exact ⟨h,trivial⟩
theorem kg4:∀(l l':List Rx),kam (l++l')=kam l+kam l'
 |[],l'=>by rw[uj4,kam];omega
 |r::l,l'=>by rw[ui4,kam,kam,kg4 l l'];omega
theorem kcc (r:Rx):kam [r]=r.size:=by rw[kam,kam];rfl
theorem krq (S:LS):(Rx.set S).fmd:=by unfold Rx.set Rx.fmd kap;exact ⟨.inr (.inl ⟨rfl,rfl,rfl,rfl⟩),trivial⟩
theorem koB (S:LS):(Rx.set S).size=1:=by unfold Rx.set;rw[Rx.size,kam]
theorem kzV:∀ {l:List Rx},kap l→(Rx.seq l).fmd
 |[],h=>by unfold Rx.seq Rx.empty Rx.plain Rx.fmd;exact ⟨.inl ⟨rfl,⟨rfl,rfl,rfl,rfl⟩,rfl,rfl,rfl⟩,h⟩
 |[r],h=>by unfold kap at h;exact h.1
 |r::q::l,h=>by show (Rx.plain 3 (r::q::l)).fmd;unfold Rx.plain Rx.fmd;exact ⟨.inr (.inr (.inl ⟨rfl,⟨rfl,rfl,rfl,rfl⟩,rfl,rfl,by simp⟩)),h⟩
theorem kub:∀(l:List Rx),(Rx.seq l).size≤1+kam l
 |[]=>by show (Rx.plain 1 []).size≤_;unfold Rx.plain;rw[Rx.size];omega
 |[r]=>by show r.size≤_;rw[kcc];omega
 |r::q::l=>by show (Rx.plain 3 (r::q::l)).size≤_;unfold Rx.plain;rw[Rx.size];omega
theorem kzX:∀ {l:List Rx},1≤l.length→kap l→(Rx.alt l).fmd
 |[],af,_=>by simp at af
 |[r],_,h=>by unfold kap at h;exact h.1
 |r::q::l,_,h=>by show (Rx.plain 4 (r::q::l)).fmd;unfold Rx.plain Rx.fmd;exact ⟨.inr (.inr (.inr (.inl ⟨rfl,⟨rfl,rfl,rfl,rfl⟩,rfl,rfl,by simp⟩))),h⟩
theorem kue:∀(l:List Rx),(Rx.alt l).size≤1+kam l
 |[]=>by show (Rx.plain 4 []).size≤_;unfold Rx.plain;rw[Rx.size];omega
 |[r]=>by show r.size≤_;rw[kcc];omega
 |r::q::l=>by show (Rx.plain 4 (r::q::l)).size≤_;unfold Rx.plain;rw[Rx.size];omega
theorem kzW {lo hi:Int} {r:Rx} (h:r.fmd) (af:0≤lo) (ao:lo≤64) (av:hi= -1∨(0≤hi∧lo≤hi∧hi≤64)):(Rx.rep lo hi r).fmd:=by unfold Rx.rep Rx.fmd;exact ⟨.inr (.inr (.inr (.inr ⟨rfl,⟨rfl,rfl,rfl,rfl⟩,rfl,af,ao,av⟩))),kf9 h⟩
theorem kuc (lo hi:Int) (r:Rx):(Rx.rep lo hi r).size=1+r.size:=by unfold Rx.rep;rw[Rx.size,kcc]
theorem kBx {k k':Nat} {lo hi:Int} (h:kby T k=N (N (lo,hi),k')):0≤lo∧lo≤64∧(hi= -1∨(0≤hi∧lo≤hi∧hi≤64)):=by have Rh:=();exact kmk
def FmE (T:List UInt8) (E:Nat→Option (Rx×Nat)):Prop:=∀ k k' r,k≤T.length→E k=N (r,k')→r.fmd∧r.size+k≤2+k'
theorem ktG {E:Nat→Option (Rx×Nat)} {k k':Nat} {r:Rx} (ce:FmE T E) (h:kcv T E k=N (r,k')):r.fmd∧r.size+k≤k':=by have E6:=();exact kmi
theorem krS:∀(f k k':Nat) (r hb:Rx),k≤T.length→r.fmd→kbH T f r k=N (hb,k')→hb.fmd∧hb.size+k≤r.size+k'
 |0,_,_,_,_,_,_,h=>by cases h
 |f+1,k,k',r,hb,aw,am,h=>by
  unfold kbH at h;split at h
  .cases h
  .rename_i k1 aL;have:=ke9 aw aL;injection h with h;injection h with af ao;subst af;exact ⟨am,oM⟩
  .rename_i lo hi k1 aL;have af:=ke9 aw aL;have ao:=kBx aL;have av:=af.2.2 (by simp);have:=krS f _ _ _ _ oM (kzW am ao.1 ao.2.1 ao.2.2) h;rw[kuc] at this;exact ⟨this.1,oM⟩
theorem kn7 {E:Nat→Option (Rx×Nat)} (aO:∀ k k' r,k≤T.length→E k=N (r,k')→k≤k'∧k'≤T.length) (ce:FmE T E):∀(f k k':Nat) (l l':List Rx),k≤T.length→kap l→kbQ T E f l k=N (l',k')→kap l'∧kam l'+k≤kam l+k'
 |0,_,_,_,_,_,_,h=>by cases h
 |f+1,k,k',l,l',aw,az,h=>by
  unfold kbQ at h;split at h
  .injection h with h;injection h with af ao;subst af;exact ⟨az,oM⟩
  split at h
  .cases h
  rename_i d5 k1 aL;have af:=kgX aO aL;have bb:=ktG ce aL;split at h
  .cases h
  rename_i fM bS bJ;have ao:=khz _ _ _ _ _ oM bJ;have db:=krS _ _ _ _ _ oM bb.1 bJ;have:=kn7 aO ce f _ _ _ _ oM (khp az (kf9 db.1)) h;rw[kg4,kcc] at this;exact ⟨this.1,oM⟩
theorem kn3 {E:Nat→Option (Rx×Nat)} {k k':Nat} {r:Rx} (aO:∀ k k' r,k≤T.length→E k=N (r,k')→k≤k'∧k'≤T.length) (ce:FmE T E) (aw:k≤T.length) (h:kbL T E k=N (r,k')):r.fmd∧r.size+k≤1+k':=by
 unfold kbL at h;split at h
 .cases h
 rename_i l k1 aL;have:=kn7 aO ce _ _ _ _ _ aw (by unfold kap;trivial) aL;injection h with h;injection h with af ao;subst af;have av:=kub l;have bk:=this.2;rw[show kam []=0 from rfl] at bk;exact ⟨kzV this.1,oM⟩
theorem kr8 {E:Nat→Option (Rx×Nat)} (aO:∀ k k' r,k≤T.length→E k=N (r,k')→k≤k'∧k'≤T.length) (ce:FmE T E):∀(f k k':Nat) (l l':List Rx),k≤T.length→kap l→kcf T E f l k=N (l',k')→kap l'∧kam l'+k≤kam l+k'∧l.length≤l'.length
 |0,_,_,_,_,_,_,h=>by cases h
 |f+1,k,k',l,l',aw,az,h=>by
  unfold kcf at h;split at h
  .rename_i ak;have dR:=kaj ak;split at h
   .cases h
   rename_i d5 k1 aL;have af:=kdO aO oM aL;have bb:=kn3 aO ce oM aL;have:=kr8 aO ce f _ _ _ _ oM (khp az (kf9 bb.1)) h;rw[kg4,kcc,ua6] at this;exact ⟨this.1,oM,oM⟩
  .injection h with h;injection h with af ao;subst af;exact ⟨az,oM,nR⟩
theorem kkD:∀(n:Nat),FmE T (kbG T n)
 |0,_,_,_,_,h=>by cases h
 |n+1,k,k',r,aw,h=>by
  have bQ:=kkD n;have aO:=ke7 (T:=T) n;unfold kbG at h;split at h
  .cases h
  rename_i d5 k1 aL;have af:=kdO aO aw aL;have bb:=kn3 aO bQ aw aL;split at h
  .cases h
  rename_i l bS bJ;have db:=kr8 aO bQ _ _ _ _ _ oM (kf9 bb.1) bJ;injection h with h;injection h with af ao;subst af;have av:=kue l;have bk:=db.2.1;rw[kcc] at bk;exact ⟨kzX (by have:=db.2.2;simp at this;omega) db.1,oM⟩
end Go.Proofs.YtamhdmkolfmmdaaGreatDoor
namespace Go.Proofs.YtamhdmkolfmmdaaGreatDoor
open Go.RowKit
variable {P:Prop}
structure RxOk (w:O) (F:Nat→Prop) (r:Rx) (cs:List C):Prop where
 v:RxV w F r cs
 F:∀ i,F i→i<w.heap.size
 fmd:r.fmd
 mat:r.mat
 big:r.size≤1000000000
def RxOk.below {w w':O} {F:Nat→Prop} {r:Rx} {cs:List C} {B:Nat} (h:RxOk w F r cs) (ak:H B w w') (b0:w.heap.size≤B):RxOk w' F r cs:=
 ⟨h.v.kept (Kept.of_below (F:=fun _=>False) (ak.mono b0)) (fun _ _ _=>id) (fun i hi _=>hi),fun i hi=>ua7 (h.F i hi) ak.size,h.fmd,h.mat,h.big⟩
end Go.Proofs.YtamhdmkolfmmdaaGreatDoor
namespace Go.Proofs.YtamhdmkolfmmdaaGreatDoor
variable {P:Prop}
section
variable {T:List UInt8} {f k n:Nat} {b:UInt8}
theorem kqP (h:T[k]? =Z):Gr.mas T (f+1) k n=(n,k):=by rw[Gr.mas,h]
theorem kqU (h:T[k]? =N b) (hd:48≤b∧b≤57):Gr.mas T (f+1) k n=Gr.mas T f (k+1) (min (10*n+(b.toNat-48)) 1000):=by rw[Gr.mas,h];exact ua1 hd
theorem kqT (h:T[k]? =N b) (hd:¬(48≤b∧b≤57)):Gr.mas T (f+1) k n=(n,k):=by rw[Gr.mas,h];exact ua0 hd
theorem kpW (h:T[k]? =Z):mas T (f+1) k n=N (n,k):=by rw[mas,h]
theorem kwj (h:T[k]? =N b) (hd:48≤b∧b≤57):mas T (f+1) k n=if 64<n*10+(b.toNat-48) then Z else mas T f (k+1) (n*10+(b.toNat-48)):=by rw[mas,h];exact ua1 hd
theorem kwi (h:T[k]? =N b) (hd:¬(48≤b∧b≤57)):mas T (f+1) k n=N (n,k):=by rw[mas,h];exact ua0 hd
end
theorem kqR {T:List UInt8} :∀(f k n:Nat),n≤1000→n≤(Gr.mas T f k n).1
 |0,k,n,h=>by rw[Gr.mas];exact nR
 |f+1,k,n,h=>by
  cases ak:T[k]? with
  |none=>rw[kqP ak];exact nR
  |some b=>
   by_cases hd:48≤b∧b≤57
   .rw[kqU ak hd];have:=kqR (T:=T) f (k+1) (min (10*n+(b.toNat-48)) 1000) (Nat.min_le_right _ _);omega
   .rw[kqT ak hd];exact nR
theorem kqS {T:List UInt8} :∀(f k n:Nat),n≤64→k≤T.length→T.length<k+f→mas T f k n=if (Gr.mas T f k n).1≤64 then N (Gr.mas T f k n) else Z
 |0,k,n,h,aw,b5=>by omega
 |f+1,k,n,h,aw,b5=>by
  cases ak:T[k]? with
  |none=>rw[kpW ak,kqP ak];exact (ua1 h).symm
  |some b=>
   by_cases hd:48≤b∧b≤57
   .rw[kwj ak hd,kqU ak hd];by_cases AB:64<n*10+(b.toNat-48)
    .rw[ua1 AB];have:=kqR (T:=T) f (k+1) (min (10*n+(b.toNat-48)) 1000) (Nat.min_le_right _ _);exact (ua0 oM).symm
    .have az:k<T.length:=kaj ak;rw[ua0 AB,kqS f (k+1) _ oM oM oM,show min (10*n+(b.toNat-48)) 1000=n*10+(b.toNat-48) by omega]
   .rw[kwi ak hd,kqT ak hd];exact (ua1 h).symm
def kqN {T:List UInt8} {k:Nat} (aw:k≤T.length):kaW T k=if (Gr.num T k J).2.2=K then Z else N ((Gr.num T k J).1,(Gr.num T k J).2.1):=by
 unfold kaW Gr.num;rw[kqS (T.length+1) k 0 oM aw oM];generalize Gr.mas T (T.length+1) k 0=p;obtain ⟨n,e⟩:=p;dsimp only;by_cases h:n≤64
 .rw[ua1 h];dsimp only;have ao:decide (64<n)=J:=ua5 oM;rw[ao];by_cases av:e=k∨(T[k]? =N 48∧k+1<e)
  .rw[ua1 av,ua1];rcases av with av|av
   .simp[av]
   .simp[av.1,av.2]
  .rw[ua0 av,ua0];intro an;apply av;simp only[uk9,uq7,ur4,ue8,uj0,ut1] at an;rcases an with an|an
   .exact .inl an
   .exact .inr ⟨an.2,an.1⟩
 .rw[ua0 h];dsimp only;rw[ua1];simp;omega
end Go.Proofs.YtamhdmkolfmmdaaGreatDoor
namespace Go.Proofs.YtamhdmkolfmmdaaGreatDoor
open Go
variable {P:Prop}
section
variable {P:Program} {cD:Array Oper} {cY:Exit→Act→O→Prop} {ez:Region.Mode} {S:O→Prop}
theorem ksH {i j:Nat} {o dp:Oper} {fuel:Nat} {ee:Array Bool} {a:Act} {w:O} (am:Region.ready ez cD ee=[i,j]) (bf:cD[i]? =N o) (Bv:cD[j]? =N dp)
  (h : ∀ hH : Act → O → Prop, Shut (∀ a w, S w → wpAnyH P ez cD cY S fuel (ee.setIfInBounds i K) a w → hH a w) → if Region.wanted o (yielded cD a.tmps) = K then Oper.wp P o a w hH cY else hH (a.put o.dst undef) w)
  (fg : ∀ hH : Act → O → Prop, Shut (∀ a w, S w → wpAnyH P ez cD cY S fuel (ee.setIfInBounds j K) a w → hH a w) → if Region.wanted dp (yielded cD a.tmps) = K then Oper.wp P dp a w hH cY else hH (a.put dp.dst undef) w) : wpAnyH P ez cD cY S (fuel + 1) ee a w :=
 wpAnyH_ready am (by simp) (uu3 bf (fun hH aJ => h hH (fun a w dO dH => aJ a w dO (fun _ => dH))) (uu3 Bv (fun hH aJ => fg hH (fun a w dO dH => aJ a w dO (fun _ => dH))) AllReadyH.nil))
end
end Go.Proofs.YtamhdmkolfmmdaaGreatDoor
