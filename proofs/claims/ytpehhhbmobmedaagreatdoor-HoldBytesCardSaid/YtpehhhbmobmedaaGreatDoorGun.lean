/- op.kinds, roll.asks, as values of the machine. -/
import Derived.Test.YtpehhhbmobmedaaGreatDoorGO
namespace Go.Proofs.YtpehhhbmobmedaaGreatDoor
set_option linter.unusedVariables false
set_option linter.unusedSimpArgs false
set_option linter.unusedSectionVars false
section
open Go.RowKit
def kinds:List G:=[0,2064,32793,21,16,12,480,640,512,31744,8704,8705,512,33299].map gI
def fnG (n:Nat):G:=.clo (.func n) [] []
def asks:List G:=[.lit .nilFunc,.lit .nilFunc,fnG 395,fnG 397,.lit .nilFunc,fnG 398,fnG 399,.lit .nilFunc,fnG 400,fnG 401,fnG 403,fnG 404,fnG 403,fnG 405]
def glc:List (Nat × List G):=[(0,kinds),(1,asks)]
end
section
open Go.RowKit
attribute [local irreducible] Tr Run RunD GS TG Le Wk Frz Fn' ImmG Flat WkFr WkSt
section gun
variable {P:Program} {ops:Array Oper} {K:St → Prop} {ty:TypeId} {pos:String} {af:Array Edge} {rest:List Oper} {n:Nat} {gl:List (Nat × List G)} {fr:Fr} {σ:Sto} {c p d:Nat} {rr:Bool} {gq:Option (Nat × Bool)}
end gun
end
end Go.Proofs.YtpehhhbmobmedaaGreatDoor
