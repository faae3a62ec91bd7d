/- The row and card of OptimizeEach. -/
import Derived.Test.YtamhdmkolfmmdaaGreatDoorCards
import Derived.Test.YtamhdmkolfmmdaaGreatDoorTie
import Derived.Deep.DeepHandedRow
import Derived.LaidMore
import Derived.Test.YtamhdmkolfmmdaaGreatDoorwan
open Go.Proofs.Tryz
namespace Go.Proofs.YtamhdmkolfmmdaaGreatDoor.optimizeEach
open Go.ChangeShapes Go.WideShapes Go.ChangeAt Go.RowKit Go.Deep
open Go.ChangeMaps (open_string shut_string)
theorem b0:ownKnob prog.godebug=none:=kR
theorem b1:laidOutB prog=true:=kR
theorem b2 (os:Os):laidMet prog Rows.optimizeEachUptoRow.laid ((World.doorLaid prog 29 os).forCall (fun _ _=>0) ⟨#[],#[.slice none 0 0, .int .u8 0, .slice none 0 0],[]⟩).memory:=
 laidMet_of_run' 8 kR kR
theorem b3 (os:Os) {H:Type} (enc:TypeId×Value→H):DataW.whole enc prog ((World.doorLaid prog 29 os).forCall (fun _ _=>0) ⟨#[],#[.slice none 0 0, .int .u8 0, .slice none 0 0],[]⟩).memory f7.params.toList Rows.optimizeEachSpec.vars false #[Value.slice none 0 0,Value.int .u8 0,Value.slice none 0 0].toList 8=some ([.nil, .lit (.int .u8 0), .nil],[],[]):=kR
theorem b4:(Rows.laid_evergreen_evergreenref30_none:DataW Unit)=Lib.tabData .u64 [0,0,0,0]:=kR
theorem b5 {W:World} (h:laidMet prog Rows.optimizeEachUptoRow.laid W):NoneAt W:=by
 have h3:laidMet prog [("evergreen/evergreenref30.none",Rows.laid_evergreen_evergreenref30_none)] W:=h;rw[b4] at h3
 have ht:Lib.TabIs prog W "evergreen/evergreenref30.none" .u64 [0,0,0,0]:=
  Lib.tabIs_of_head (g:=2) (t:=102) (e:=100) (n:=4) kR kR kR kR kR kR h3
 have hc:∀ i,W.cell? ⟨2,i,none⟩=((([0,0,0,0]:List Int).map fun z=>Value.int .u64 z).toArray)[i]? :=fun i=>World.var?_cell kR ht i;refine ⟨?_,hc 0,hc 1,hc 2,hc 3⟩;have h0:=hc 0;by_cases hl:2<W.heap.size
 · exact hl
 · have : W.heap[2]? = none := Array.getElem?_eq_none (by omega)
   rw [World.cell?] at h0
   simp [this] at h0
set_option maxRecDepth 100000 in
theorem b6 (os:Os) (sd:os.Started) (H:Type) (enc:TypeId×Value→H) (F:Stop.Interp):
 ReturnsInHanded {} checked os 7 .any ((Rows.OpenSpec.upto Rows.optimizeEachSpec).preRow enc prog f7 Rows.optimizeEachUptoRow.domain false Rows.optimizeEachUptoRow.laid) (((Rows.OpenSpec.upto Rows.optimizeEachSpec).at F).post enc prog f7 false true false false):=by
 refine returnsInHanded_of_row (C := checked) (s := Rows.OpenSpec.upto Rows.optimizeEachSpec) b0 sd kR func7
   (witness_row_at (enc := enc) (C := checked) false (World.doorLaid prog 29 os) #[.slice none 0 0, .int .u8 0, .slice none 0 0] rfl kR kR kR
     (OpenSpec.preRow_of_cond 8 (b3 os enc) kR (fun k hk => by cases hk; kernel_rfl) kR (b2 os))) ?_
 intro W base args ds gs bf hx hW _ hc _ hl _ _;have hk:=hc _ rfl;have hv:∀(j:Nat) t v,f7.params[j]? =some t→args[j]? =some v→Value.okWide prog W .any base t v:=hx;have hW':=hW;obtain ⟨p,q,hA0,hV,rfl,hfz,hnd⟩:=hW;have hA:DataW.TrodAll enc prog W 0 (fun _=>true) true f7.params.toList args.toList ds p:=hA0;rw[params7] at hA hv;obtain ⟨v0,vs0,d0,ds0,p0,q0,hr,rfl,rfl,h0,z0⟩:=trodAll_cons hA;obtain ⟨v1,vs1,d1,ds1,p1,q1,rfl,rfl,rfl,h1,z1⟩:=trodAll_cons z0;obtain ⟨v2,vs2,d2,ds2,p2,q2,rfl,rfl,rfl,h2,z2⟩:=trodAll_cons z1;obtain ⟨rfl,rfl,rfl⟩:=trodAll_nil z2;obtain rfl:args= #[v0,v1,v2]:=(by cases args;simp_all);obtain ⟨rfl,rfl⟩:=trodVars_none hV;have k0:=h0;have lt0:∀ x∈p0,x.block<W.heap.size:=(by obtain ⟨m,hm⟩:=k0;exact DataW.trod_lt m _ _ _ hm);have kk1:=h1;have lt1:∀ x∈p1,x.block<W.heap.size:=(by obtain ⟨m,hm⟩:=kk1;exact DataW.trod_lt m _ _ _ hm);have kk2:=h2;have lt2:∀ x∈p2,x.block<W.heap.size:=(by obtain ⟨m,hm⟩:=kk2;exact DataW.trod_lt m _ _ _ hm);have hb:Rows.uptoBulk d0≤1048576:=(by have h:=of_decide_eq_true hk;simp only[Rows.uptoBulkAll,List.cons_append,List.nil_append] at h;omega);obtain ⟨a0,len0,cap0,rfl⟩:=okWide_slice underlying22 (hv 0 22 v0 rfl rfl);obtain ⟨a1,rfl,rfl,rfl,w1⟩:=open_int underlying5 (hv 1 5 v1 rfl rfl) h1;simp[Lit.wf,IntKind.min,IntKind.max,IntKind.signed,IntKind.bits] at w1;obtain ⟨k1,rfl⟩:∃ k:Nat,a1=(k:Int):=⟨a1.toNat,oM⟩;have hk1:k1<256:=oM;obtain ⟨a2,len2,cap2,rfl⟩:=okWide_slice underlying37 (hv 2 37 v2 rfl rfl);obtain ⟨fuel2,hf2⟩:=h2;obtain ⟨l2,rfl,r2⟩:=open_items hf2;obtain ⟨fuel0,hf0⟩:=h0;obtain ⟨l0,rfl,r0⟩:=open_steps hf0 hb;clear hA0 hx;refine (each_law a0 cap0 l0 k1 hk1 a2 cap2 l2 W r0.1 (by have:=r0.2.1;omega) (fun s hs=>by have:=(r0.2.2 s hs).args;omega) (fun s hs=>by have:=(r0.2.2 s hs).textB;omega) r2.1 (fun x hx=>(r2.2 x hx).2) (b5 hl)).mono fun e W' ⟨he,bel⟩=>?_;subst he;exact ⟨_,rfl,_,_,_,[],_,[],hW',trodAll_mk1 (shut_bool underlying4 _),(trodAll_cons_mk (Below.trod b1 kR (of_decide_eq_true kR) k0 bel lt0) (trodAll_cons_mk (Below.trod b1 kR (of_decide_eq_true kR) kk1 bel lt1) (trodAll_cons_mk (Below.trod b1 kR (of_decide_eq_true kR) kk2 bel lt2) trodAll_mk0))),rfl,bel.frame _,fun h=>by cases h⟩
theorem b9:Rows.OptimizeEachUptoSaid:=
 OpenClaim.holds_of_cond 7 f7 rfl rfl rfl rfl rfl rfl rfl ⟨rfl, rfl, rfl, rfl, rfl⟩ rfl rfl rfl rfl rfl kR func7 kR
   (of_decide_eq_true kR) (by unfold Func.isWrapper; first | (rw [if_pos (by decide +kernel)]; kernel_rfl) | (rw [if_neg (by decide +kernel)]; exact ⟨rfl, rfl⟩))
   (fun os sd H enc _ F => by rw [OpenClaim.pre_eq_preRow]; exact b6 os sd H enc F)
theorem b7 (f:FuncId) (fn:Func) (hf:Tryz.pinned.checked.prog.funcNamed Rows.optimizeEachUptoRow.func=some f) (hfn:Tryz.pinned.checked.prog.funcs[f]? =some fn):
 Tryz.pinned.checked.prog.looks []=Tryz.pinned.checked.prog.looks []∧∀(j:Nat) t,fn.params[j]? =some t→Tryz.pinned.checked.prog.wantsStandIn t=false:=by
 obtain rfl:f=7:=Option.some.inj ((show prog.funcNamed Rows.optimizeEachUptoRow.func=some 7 by kernel_rfl).symm.trans hf)|>.symm;obtain rfl:fn=f7:=(Option.some.inj (func7.symm.trans hfn)).symm;refine ⟨rfl,fun j t ht=>?_⟩;rw[params7] at ht;have h2:t=22∨t=5∨t=37:=(by simpa using Array.mem_of_getElem? ht);rcases h2 with rfl|rfl|rfl
 · exact (show prog.wantsStandIn 22=false by kernel_rfl)
 · exact (show prog.wantsStandIn 5=false by kernel_rfl)
 · exact (show prog.wantsStandIn 37=false by kernel_rfl)
theorem b8:Tryz.pinned.checked.prog.looks []=true:=kR
theorem proved:Rows.OptimizeEachUptoCardSaid:=
 Claim7.holds_tied_plain_at .later [] _ _ _ _ b9 (fun _ h=>by cases h) kR (fun _ h=>by cases h) optimizeEachUpto_row_tie rfl ⟨rfl,rfl⟩ kR rfl (fun f fn hf hfn=>⟨b8.symm,(b7 f fn hf hfn).2⟩) kR
end Go.Proofs.YtamhdmkolfmmdaaGreatDoor.optimizeEach
