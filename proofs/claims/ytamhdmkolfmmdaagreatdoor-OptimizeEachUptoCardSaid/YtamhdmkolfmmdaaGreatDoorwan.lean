/- Part an of the proof. -/
import Derived.Test.YtamhdmkolfmmdaaGreatDoorwal
set_option linter.all false
set_option maxHeartbeats 16000000
set_option maxRecDepth 100000
open Go.Proofs.Tryz
open Go.Value renaming int→I,slice→D,bool→V,string→Q,pointer→ab,agg→aa,tuple→ag,nilIface→aj
open Go.IntKind renaming i64→U,u64→Y,u8→ai
open Go.Obj renaming cells→y
open Go.Ending renaming returned→ac
open Option renaming none→Z,some→N
open Bool renaming true→K,false→J
open Go renaming World→O,Value→C,Calls→L,TypeId→ah,Addr→ae
open Go.RowKit renaming Below→H
namespace Go.Proofs.YtamhdmkolfmmdaaGreatDoor
open Go.RowKit
theorem each_law (A:Option ae) (c:Nat) (l:List St) (r:Nat) (lM:r<256) (fF:Option ae) (gb:Nat) (env:List (List UInt8×List UInt8)) (w:O) (h:ArgPl w A l) (ax:l.length≤1048576) (aE:∀ s∈l,s.args.length≤2000000) (aB:TxB l)
 (aG:EnvAt w fF env) (qR:∀ x∈env,x.2.length≤9223372036854775807) (dY:NoneAt w):
 L prog 7 #[D A l.length c,I ai r,D fF env.length gb] w (kfm w):=by
 have Dd:=();exact knb
end Go.Proofs.YtamhdmkolfmmdaaGreatDoor
