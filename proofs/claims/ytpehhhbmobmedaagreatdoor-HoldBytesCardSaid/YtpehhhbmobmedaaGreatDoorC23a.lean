/- Calls of values of functions of two names of keys. -/
import Derived.Test.YtpehhhbmobmedaaGreatDoorEC
import Derived.Test.YtpehhhbmobmedaaGreatDoorT23
import Derived.Test.YtpehhhbmobmedaaGreatDoorHMr
import Derived.Test.YtpehhhbmobmedaaGreatDoorGun
import Derived.KernelRfl
namespace Go.Proofs.YtpehhhbmobmedaaGreatDoor
set_option linter.unusedVariables false
set_option linter.unusedSimpArgs false
set_option linter.unusedSectionVars false
section
open Go.RowKit
def pcT:Operand → Array Operand → Array TypeId → Bool:=fun _ _ ts => match ts.toList with
 | [a,b] => bif Nat.beq a 92 then Nat.beq b 92 else false
 | _ => false
end
section
open Go.RowKit
def pfc:FuncId → Bool:=fun f => pures.any (Nat.beq f)
noncomputable def tpc:XPure:=tpM tp21
theorem tpc_ok:PureOk Tryz.prog tpc:=tpM_ok tp21_ok
def c0:KE :=
 ⟨55,[.agg [ti 1,ti 1,ti 1,ti 0,tz,ti 0,ti 0,ti 0,ti 0,.rsl 7 0 1,ti 0,ti 0,tu 0,ti 0,tz,tz,ti 0,ti 0,tu 0,tz,ti 0,ti 0,tz,tu 0,tz,tu 0,tu 0]],[(7,some ⟨119,[tu 77,tz],none⟩),
 (6,some ⟨31,[.rsl 4 0 2,tz,tz,tz,tz],none⟩),
 (4,some ⟨128,[ti 1,ti 1,tu 1858807316446646070,tu 2294458496254976924,tu 1058522930688824048,ti 2,ti 2,tu 1810974450540283748,tu 732551293757751401,tu 86482453431610406],none⟩),
 (0,some ⟨3,[ti 1,ti 2],none⟩)],8,[(.agg [ti 1,ti 1,ti 1,ti 0,tz,ti 0,ti 0,ti 0,ti 0,.rsl 7 0 1,ti 0,ti 0,tu 0,ti 0,tz,tz,ti 0,ti 0,tu 0,tz,ti 0,ti 0,tz,tu 0,tz,tu 2105261610024964903,tu 1671013581248195933],[(7,some ⟨119,[tu 77,tz],none⟩),
 (6,some ⟨31,[.rsl 4 0 2,tz,tz,tz,tz],none⟩),
 (4,some ⟨128,[ti 1,ti 1,tu 1858807316446646070,tu 2294458496254976924,tu 1058522930688824048,ti 2,ti 2,tu 1810974450540283748,tu 732551293757751401,tu 86482453431610406],none⟩),
 (0,some ⟨3,[ti 1,ti 2],none⟩)],105,8)]⟩
noncomputable def Ec0:XEnv:={ xenvK pfc tpc glc [] [] with pc:=pcT }
theorem Ec0_ok:KcOk Tryz.prog Ec0:=(xenvK_ok (by simp) (by simp):KcOk Tryz.prog (xenvK pfc tpc glc [] []))
theorem c0_run:chkK Tryz.prog Ec0 glc 100000 c0 = true:=by kernel_rfl
theorem c0_ok:KeOk Tryz.prog glc c0:=chkK_ok mixed tpc_ok Ec0_ok c0_run
def c1:KE :=
 ⟨87,[.ref 239 0,.agg [ti 1,ti 1,ti 1,ti 0,tz,ti 0,ti 0,ti 0,ti 0,.rsl 7 0 1,ti 0,ti 0,tu 0,ti 0,tz,tz,ti 0,ti 0,tu 0,tz,ti 0,ti 0,tz,tu 0,tz,tu 2105261610024964903,tu 1671013581248195933]],[(238,some ⟨201,[],some (.map [] 0)⟩),
 (237,some ⟨128,[ti 1,ti 1,tu 1858807316446646070,tu 2294458496254976924,tu 1058522930688824048,ti 2,ti 2,tu 1810974450540283748,tu 732551293757751401,tu 86482453431610406],none⟩),
 (239,some ⟨204,[.rsl 237 0 2,.mref 238,tz],none⟩),
 (235,some ⟨31,[.rsl 4 0 2,.rsl 224 0 1,.rsl 227 0 1,.rsl 230 0 1,.rsl 234 0 1],none⟩),
 (232,some ⟨4,[tb false],none⟩),
 (234,some ⟨131,[.rsl 232 0 1],none⟩),
 (230,some ⟨24,[tz],none⟩),
 (227,some ⟨61,[ti 1,ti 1,tu 937959638841350770],none⟩),
 (224,some ⟨68,[ti 1,ti 1,ti 1,ti 0,tz,ti 0,ti 0,ti 0,ti 0,.rsl 7 0 1,ti 0,ti 0,tu 0,ti 0,tz,tz,ti 0,ti 0,tu 0,tz,ti 0,ti 0,tz,tu 0,tz,tu 2105261610024964903,tu 1671013581248195933],none⟩),
 (105,some ⟨68,[ti 1,ti 1,ti 1,ti 0,tz,ti 0,ti 0,ti 0,ti 0,.rsl 7 0 1,ti 0,ti 0,tu 0,ti 0,tz,tz,ti 0,ti 0,tu 0,tz,ti 0,ti 0,tz,tu 0,tz,tu 2105261610024964903,tu 1671013581248195933],none⟩),
 (7,some ⟨119,[tu 77,tz],none⟩),
 (6,some ⟨31,[.rsl 4 0 2,.rsl 224 0 1,.rsl 227 0 1,.rsl 230 0 1,.rsl 234 0 1],none⟩),
 (4,some ⟨128,[ti 1,ti 1,tu 1858807316446646070,tu 2294458496254976924,tu 1058522930688824048,ti 2,ti 2,tu 1810974450540283748,tu 732551293757751401,tu 86482453431610406],none⟩),
 (0,some ⟨3,[ti 1,ti 2],none⟩)],242,[(ti 0,[(404,some ⟨210,[ti 1,ti 1,ti 1,ti 0,tz,ti 0,ti 0,ti 0,ti 0,.rsl 253 0 1,ti 0,ti 0,tu 0,ti 0,tz,tz,ti 0,ti 0,tu 0,tz,ti 0,ti 0,tz,tu 0,tz,tu 2105261610024964903,tu 1671013581248195933,ti 1,ti 1,tu 937959638841350770,tu 0,tu 0,tu 0,tu 0,ti 1],none⟩),
 (403,some ⟨210,[ti 1,ti 1,ti 1,ti 0,tz,ti 0,ti 0,ti 0,ti 0,.rsl 253 0 1,ti 0,ti 0,tu 0,ti 0,tz,tz,ti 0,ti 0,tu 0,tz,ti 0,ti 0,tz,tu 0,tz,tu 2105261610024964903,tu 1671013581248195933,ti 1,ti 1,tu 937959638841350770,tu 0,tu 0,tu 0,tu 0,ti 1],none⟩),
 (402,some ⟨208,[tu 0,tu 0,tu 0,tu 0],none⟩),
 (401,some ⟨208,[tu 0,tu 0,tu 0,tu 0],none⟩),
 (400,some ⟨208,[tu 0,tu 0,tu 0,tu 0],none⟩),
 (399,some ⟨208,[tu 0,tu 0,tu 0,tu 0],none⟩),
 (325,some ⟨128,[ti 1,ti 1,tu 1858807316446646070,tu 2294458496254976924,tu 1058522930688824048],none⟩),
 (253,some ⟨119,[tu 77,tz],none⟩),
 (249,some ⟨210,[ti 1,ti 1,ti 1,ti 0,tz,ti 0,ti 0,ti 0,ti 0,.rsl 253 0 1,ti 0,ti 0,tu 0,ti 0,tz,tz,ti 0,ti 0,tu 0,tz,ti 0,ti 0,tz,tu 0,tz,tu 2105261610024964903,tu 1671013581248195933,ti 1,ti 1,tu 937959638841350770,tu 0,tu 0,tu 0,tu 0,ti 1],none⟩),
 (242,some ⟨68,[ti 1,ti 1,ti 1,ti 0,tz,ti 0,ti 0,ti 0,ti 0,.rsl 7 0 1,ti 0,ti 0,tu 0,ti 0,tz,tz,ti 0,ti 0,tu 0,tz,ti 0,ti 0,tz,tu 0,tz,tu 2105261610024964903,tu 1671013581248195933],none⟩),
 (238,some ⟨201,[],some (.map [(.agg #[.int .i64 (1),.int .i64 (1),.int .u64 (937959638841350770)],ti 0,0)] 1)⟩),
 (237,some ⟨128,[ti 1,ti 1,tu 1858807316446646070,tu 2294458496254976924,tu 1058522930688824048,ti 2,ti 2,tu 1810974450540283748,tu 732551293757751401,tu 86482453431610406],none⟩),
 (239,some ⟨204,[.rsl 237 0 2,.mref 238,.rsl 404 0 1],none⟩),
 (235,some ⟨31,[.rsl 4 0 2,.rsl 224 0 1,.rsl 227 0 1,.rsl 230 0 1,.rsl 234 0 1],none⟩),
 (232,some ⟨4,[tb false],none⟩),
 (234,some ⟨131,[.rsl 232 0 1],none⟩),
 (230,some ⟨24,[tz],none⟩),
 (227,some ⟨61,[ti 1,ti 1,tu 937959638841350770],none⟩),
 (224,some ⟨68,[ti 1,ti 1,ti 1,ti 0,tz,ti 0,ti 0,ti 0,ti 0,.rsl 7 0 1,ti 0,ti 0,tu 0,ti 0,tz,tz,ti 0,ti 0,tu 0,tz,ti 0,ti 0,tz,tu 0,tz,tu 2105261610024964903,tu 1671013581248195933],none⟩),
 (105,some ⟨68,[ti 1,ti 1,ti 1,ti 0,tz,ti 0,ti 0,ti 0,ti 0,.rsl 7 0 1,ti 0,ti 0,tu 0,ti 0,tz,tz,ti 0,ti 0,tu 0,tz,ti 0,ti 0,tz,tu 0,tz,tu 2105261610024964903,tu 1671013581248195933],none⟩),
 (7,some ⟨119,[tu 77,tz],none⟩),
 (6,some ⟨31,[.rsl 4 0 2,.rsl 224 0 1,.rsl 227 0 1,.rsl 230 0 1,.rsl 234 0 1],none⟩),
 (4,some ⟨128,[ti 1,ti 1,tu 1858807316446646070,tu 2294458496254976924,tu 1058522930688824048,ti 2,ti 2,tu 1810974450540283748,tu 732551293757751401,tu 86482453431610406],none⟩),
 (0,some ⟨3,[ti 1,ti 2],none⟩)],405,238)]⟩
noncomputable def Ec1:XEnv:={ xenvK pfc tpc glc [c0] [] with pc:=pcT }
theorem Ec1_ok:KcOk Tryz.prog Ec1:=(xenvK_ok (by simp [c0_ok]) (by simp):KcOk Tryz.prog (xenvK pfc tpc glc [c0] []))
theorem c1_run:chkK Tryz.prog Ec1 glc 100000 c1 = true:=by kernel_rfl
theorem c1_ok:KeOk Tryz.prog glc c1:=chkK_ok mixed tpc_ok Ec1_ok c1_run
def c2:KF :=
 ⟨200,[.ref 239 0,.agg [ti 1,ti 1,ti 1,ti 0,tz,ti 0,ti 0,ti 0,ti 0,.rsl 453 0 1,ti 0,ti 0,tu 0,ti 0,tz,tz,ti 0,ti 0,tu 0,tz,ti 0,ti 0,tz,tu 0,tz,tu 2105261610024964903,tu 1671013581248195933]],[453,253,404,238,237,239],[(453,some ⟨119,[tu 77,tz],none⟩),
 (253,some ⟨119,[tu 77,tz],none⟩),
 (404,some ⟨210,[ti 1,ti 1,ti 1,ti 0,tz,ti 0,ti 0,ti 0,ti 0,.rsl 253 0 1,ti 0,ti 0,tu 0,ti 0,tz,tz,ti 0,ti 0,tu 0,tz,ti 0,ti 0,tz,tu 0,tz,tu 2105261610024964903,tu 1671013581248195933,ti 1,ti 1,tu 937959638841350770,tu 0,tu 0,tu 0,tu 0,ti 1],none⟩),
 (238,some ⟨201,[],some (.map [(.agg #[.int .i64 (1),.int .i64 (1),.int .u64 (937959638841350770)],ti 0,0)] 1)⟩),
 (237,some ⟨128,[ti 1,ti 1,tu 1858807316446646070,tu 2294458496254976924,tu 1058522930688824048,ti 2,ti 2,tu 1810974450540283748,tu 732551293757751401,tu 86482453431610406],none⟩),
 (239,some ⟨204,[.rsl 237 0 2,.mref 238,.rsl 404 0 1],none⟩)],456,.rsl 570 0 1,[(570,some ⟨3,[ti 1],none⟩)],579⟩
noncomputable def Ec2:XEnv:={ xenvK pfc tpc glc [c1,c0] [] with pc:=pcT }
theorem Ec2_ok:KcOk Tryz.prog Ec2:=(xenvK_ok (by simp [c1_ok,c0_ok]) (by simp):KcOk Tryz.prog (xenvK pfc tpc glc [c1,c0] []))
theorem c2_run:chkF Tryz.prog Ec2 glc 100000 c2 = true:=by kernel_rfl
theorem c2_ok:KfOk Tryz.prog glc c2:=chkF_ok mixed tpc_ok Ec2_ok c2_run
def c3:KE :=
 ⟨61,[.ref 239 0,.agg [ti 1,ti 1,tu 937959638841350770]],[(587,some ⟨61,[ti 1,ti 1,tu 937959638841350770],none⟩),
 (586,some ⟨61,[ti 1,ti 1,tu 937959638841350770],none⟩),
 (442,some ⟨61,[ti 1,ti 1,tu 937959638841350770],none⟩),
 (439,some ⟨120,[.ref 239 0],none⟩),
 (438,some ⟨105,[ti 1,ti 0,ti 0,tu 0,ti 1,ti 0,ti 3,ti 1,ti 1,tu 937959638841350770,ti 0,ti 0],none⟩),
 (416,some ⟨61,[ti 1,ti 1,tu 937959638841350770],none⟩),
 (405,some ⟨88,[],some (.map [(.agg #[.int .i64 (0),.int .i64 (0),.int .u64 (0),.int .i64 (0)],tu 5,0),(.agg #[.int .i64 (1),.int .i64 (1),.int .u64 (937959638841350770),.int .i64 (0)],tu 9,1)] 2)⟩),
 (406,some ⟨90,[ti 1,.mref 405],none⟩),
 (253,some ⟨119,[tu 77,tz],none⟩),
 (404,some ⟨210,[ti 1,ti 1,ti 1,ti 0,tz,ti 0,ti 0,ti 0,ti 0,.rsl 253 0 1,ti 0,ti 0,tu 0,ti 0,tz,tz,ti 0,ti 0,tu 0,tz,ti 0,ti 0,tz,tu 0,tz,tu 2105261610024964903,tu 1671013581248195933,ti 1,ti 1,tu 937959638841350770,tu 0,tu 0,tu 0,tu 0,ti 1],none⟩),
 (238,some ⟨201,[],some (.map [(.agg #[.int .i64 (1),.int .i64 (1),.int .u64 (937959638841350770)],ti 0,0)] 1)⟩),
 (237,some ⟨128,[ti 1,ti 1,tu 1858807316446646070,tu 2294458496254976924,tu 1058522930688824048,ti 2,ti 2,tu 1810974450540283748,tu 732551293757751401,tu 86482453431610406],none⟩),
 (239,some ⟨204,[.rsl 237 0 2,.mref 238,.rsl 404 0 1],none⟩),
 (232,some ⟨4,[tb false],none⟩),
 (234,some ⟨131,[.rsl 232 0 1],none⟩),
 (230,some ⟨24,[tz],none⟩),
 (227,some ⟨61,[ti 1,ti 1,tu 937959638841350770],none⟩),
 (224,some ⟨68,[ti 1,ti 1,ti 1,ti 0,tz,ti 0,ti 0,ti 0,ti 0,.rsl 7 0 1,ti 0,ti 0,tu 0,ti 0,tz,tz,ti 0,ti 0,tu 0,tz,ti 0,ti 0,tz,tu 0,tz,tu 2105261610024964903,tu 1671013581248195933],none⟩),
 (105,some ⟨68,[ti 1,ti 1,ti 1,ti 0,tz,ti 0,ti 0,ti 0,ti 0,.rsl 7 0 1,ti 0,ti 0,tu 0,ti 0,tz,tz,ti 0,ti 0,tu 0,tz,ti 0,ti 0,tz,tu 0,tz,tu 2105261610024964903,tu 1671013581248195933],none⟩),
 (7,some ⟨119,[tu 77,tz],none⟩),
 (6,some ⟨31,[.rsl 4 0 2,.rsl 224 0 1,.rsl 227 0 1,.rsl 230 0 1,.rsl 234 0 1],none⟩),
 (4,some ⟨128,[ti 1,ti 1,tu 1858807316446646070,tu 2294458496254976924,tu 1058522930688824048,ti 2,ti 2,tu 1810974450540283748,tu 732551293757751401,tu 86482453431610406],none⟩),
 (0,some ⟨3,[ti 1,ti 2],none⟩)],588,[(tb true,[(587,some ⟨61,[ti 1,ti 1,tu 937959638841350770],none⟩),
 (586,some ⟨61,[ti 1,ti 1,tu 937959638841350770],none⟩),
 (442,some ⟨61,[ti 1,ti 1,tu 937959638841350770],none⟩),
 (439,some ⟨120,[.ref 239 0],none⟩),
 (438,some ⟨105,[ti 1,ti 0,ti 0,tu 0,ti 1,ti 0,ti 3,ti 1,ti 1,tu 937959638841350770,ti 0,ti 0],none⟩),
 (416,some ⟨61,[ti 1,ti 1,tu 937959638841350770],none⟩),
 (405,some ⟨88,[],some (.map [(.agg #[.int .i64 (0),.int .i64 (0),.int .u64 (0),.int .i64 (0)],tu 5,0),(.agg #[.int .i64 (1),.int .i64 (1),.int .u64 (937959638841350770),.int .i64 (0)],tu 9,1)] 2)⟩),
 (406,some ⟨90,[ti 1,.mref 405],none⟩),
 (253,some ⟨119,[tu 77,tz],none⟩),
 (404,some ⟨210,[ti 1,ti 1,ti 1,ti 0,tz,ti 0,ti 0,ti 0,ti 0,.rsl 253 0 1,ti 0,ti 0,tu 0,ti 0,tz,tz,ti 0,ti 0,tu 0,tz,ti 0,ti 0,tz,tu 0,tz,tu 2105261610024964903,tu 1671013581248195933,ti 1,ti 1,tu 937959638841350770,tu 0,tu 0,tu 0,tu 0,ti 1],none⟩),
 (238,some ⟨201,[],some (.map [(.agg #[.int .i64 (1),.int .i64 (1),.int .u64 (937959638841350770)],ti 0,0)] 1)⟩),
 (237,some ⟨128,[ti 1,ti 1,tu 1858807316446646070,tu 2294458496254976924,tu 1058522930688824048,ti 2,ti 2,tu 1810974450540283748,tu 732551293757751401,tu 86482453431610406],none⟩),
 (239,some ⟨204,[.rsl 237 0 2,.mref 238,.rsl 404 0 1],none⟩),
 (232,some ⟨4,[tb false],none⟩),
 (234,some ⟨131,[.rsl 232 0 1],none⟩),
 (230,some ⟨24,[tz],none⟩),
 (227,some ⟨61,[ti 1,ti 1,tu 937959638841350770],none⟩),
 (224,some ⟨68,[ti 1,ti 1,ti 1,ti 0,tz,ti 0,ti 0,ti 0,ti 0,.rsl 7 0 1,ti 0,ti 0,tu 0,ti 0,tz,tz,ti 0,ti 0,tu 0,tz,ti 0,ti 0,tz,tu 0,tz,tu 2105261610024964903,tu 1671013581248195933],none⟩),
 (105,some ⟨68,[ti 1,ti 1,ti 1,ti 0,tz,ti 0,ti 0,ti 0,ti 0,.rsl 7 0 1,ti 0,ti 0,tu 0,ti 0,tz,tz,ti 0,ti 0,tu 0,tz,ti 0,ti 0,tz,tu 0,tz,tu 2105261610024964903,tu 1671013581248195933],none⟩),
 (7,some ⟨119,[tu 77,tz],none⟩),
 (6,some ⟨31,[.rsl 4 0 2,.rsl 224 0 1,.rsl 227 0 1,.rsl 230 0 1,.rsl 234 0 1],none⟩),
 (4,some ⟨128,[ti 1,ti 1,tu 1858807316446646070,tu 2294458496254976924,tu 1058522930688824048,ti 2,ti 2,tu 1810974450540283748,tu 732551293757751401,tu 86482453431610406],none⟩),
 (0,some ⟨3,[ti 1,ti 2],none⟩)],708,588)]⟩
noncomputable def Ec3:XEnv:={ xenvK pfc tpc glc [c1,c0] [c2] with pc:=pcT }
theorem Ec3_ok:KcOk Tryz.prog Ec3:=(xenvK_ok (by simp [c1_ok,c0_ok]) (by simp [c2_ok]):KcOk Tryz.prog (xenvK pfc tpc glc [c1,c0] [c2]))
theorem c3_run:chkK Tryz.prog Ec3 glc 100000 c3 = true:=by kernel_rfl
theorem c3_ok:KeOk Tryz.prog glc c3:=chkK_ok mixed tpc_ok Ec3_ok c3_run
def c4:KF :=
 ⟨200,[.ref 239 0,.agg [ti 1,ti 1,ti 1,ti 0,tz,ti 0,ti 0,ti 0,ti 0,.rsl 740 0 1,ti 0,ti 0,tu 0,ti 0,tz,tz,ti 0,ti 0,tu 0,tz,ti 0,ti 0,tz,tu 0,tz,tu 2105261610024964903,tu 1671013581248195933]],[740,253,404,238,237,239],[(740,some ⟨119,[tu 77,tz],none⟩),
 (253,some ⟨119,[tu 77,tz],none⟩),
 (404,some ⟨210,[ti 1,ti 1,ti 1,ti 0,tz,ti 0,ti 0,ti 0,ti 0,.rsl 253 0 1,ti 0,ti 0,tu 0,ti 0,tz,tz,ti 0,ti 0,tu 0,tz,ti 0,ti 0,tz,tu 0,tz,tu 2105261610024964903,tu 1671013581248195933,ti 1,ti 1,tu 937959638841350770,tu 0,tu 0,tu 0,tu 0,ti 1],none⟩),
 (238,some ⟨201,[],some (.map [(.agg #[.int .i64 (1),.int .i64 (1),.int .u64 (937959638841350770)],ti 0,0)] 1)⟩),
 (237,some ⟨128,[ti 1,ti 1,tu 1858807316446646070,tu 2294458496254976924,tu 1058522930688824048,ti 2,ti 2,tu 1810974450540283748,tu 732551293757751401,tu 86482453431610406],none⟩),
 (239,some ⟨204,[.rsl 237 0 2,.mref 238,.rsl 404 0 1],none⟩)],743,.rsl 857 0 1,[(857,some ⟨3,[ti 1],none⟩)],866⟩
noncomputable def Ec4:XEnv:={ xenvK pfc tpc glc [c3,c1,c0] [c2] with pc:=pcT }
theorem Ec4_ok:KcOk Tryz.prog Ec4:=(xenvK_ok (by simp [c3_ok,c1_ok,c0_ok]) (by simp [c2_ok]):KcOk Tryz.prog (xenvK pfc tpc glc [c3,c1,c0] [c2]))
theorem c4_run:chkF Tryz.prog Ec4 glc 100000 c4 = true:=by kernel_rfl
theorem c4_ok:KfOk Tryz.prog glc c4:=chkF_ok mixed tpc_ok Ec4_ok c4_run
def c5:KE :=
 ⟨61,[.ref 239 0,.agg [ti 1,ti 1,tu 937959638841350770]],[(889,some ⟨105,[ti 3,ti 1,ti 1,tu 937959638841350770,ti 0,ti 0],none⟩),
 (888,some ⟨105,[ti 1,ti 0,ti 0,tu 0,ti 1,ti 0],none⟩),
 (887,some ⟨105,[ti 3,ti 1,ti 1,tu 937959638841350770,ti 0,ti 0],none⟩),
 (867,some ⟨3,[ti 1],none⟩),
 (871,some ⟨24,[.rsl 867 0 1],none⟩),
 (733,some ⟨24,[.rsl 867 0 1],none⟩),
 (732,some ⟨3,[ti 1],none⟩),
 (731,some ⟨92,[ti 1,ti 1,tu 937959638841350770,ti 0],none⟩),
 (730,some ⟨105,[ti 1,ti 0,ti 0,tu 0,ti 1,ti 0],none⟩),
 (729,some ⟨105,[ti 1,ti 0,ti 0,tu 0,ti 1,ti 0],none⟩),
 (725,some ⟨24,[.rsl 724 0 1],none⟩),
 (724,some ⟨3,[ti 1],none⟩),
 (723,some ⟨92,[ti 0,ti 0,tu 0,ti 0],none⟩),
 (722,some ⟨92,[ti 0,ti 0,tu 0,ti 0,ti 1,ti 1,tu 937959638841350770,ti 0],none⟩),
 (721,some ⟨92,[ti 0,ti 0,tu 0,ti 0,ti 1,ti 1,tu 937959638841350770,ti 0],none⟩),
 (709,some ⟨61,[ti 1,ti 1,tu 937959638841350770],none⟩),
 (708,some ⟨61,[ti 1,ti 1,tu 937959638841350770],none⟩),
 (587,some ⟨61,[ti 1,ti 1,tu 937959638841350770],none⟩),
 (586,some ⟨61,[ti 1,ti 1,tu 937959638841350770],none⟩),
 (442,some ⟨61,[ti 1,ti 1,tu 937959638841350770],none⟩),
 (439,some ⟨120,[.ref 239 0],none⟩),
 (438,some ⟨105,[ti 1,ti 0,ti 0,tu 0,ti 1,ti 0,ti 3,ti 1,ti 1,tu 937959638841350770,ti 0,ti 0],none⟩),
 (416,some ⟨61,[ti 1,ti 1,tu 937959638841350770],none⟩),
 (405,some ⟨88,[],some (.map [(.agg #[.int .i64 (1),.int .i64 (1),.int .u64 (937959638841350770),.int .i64 (0)],tu 9,1)] 2)⟩),
 (406,some ⟨90,[ti 1,.mref 405],none⟩),
 (253,some ⟨119,[tu 77,tz],none⟩),
 (404,some ⟨210,[ti 1,ti 1,ti 1,ti 0,tz,ti 0,ti 0,ti 0,ti 0,.rsl 253 0 1,ti 0,ti 0,tu 0,ti 0,tz,tz,ti 0,ti 0,tu 0,tz,ti 0,ti 0,tz,tu 0,tz,tu 2105261610024964903,tu 1671013581248195933,ti 1,ti 1,tu 937959638841350770,tu 0,tu 0,tu 0,tu 0,ti 1],none⟩),
 (238,some ⟨201,[],some (.map [(.agg #[.int .i64 (1),.int .i64 (1),.int .u64 (937959638841350770)],ti 0,0)] 1)⟩),
 (237,some ⟨128,[ti 1,ti 1,tu 1858807316446646070,tu 2294458496254976924,tu 1058522930688824048,ti 2,ti 2,tu 1810974450540283748,tu 732551293757751401,tu 86482453431610406],none⟩),
 (239,some ⟨204,[.rsl 237 0 2,.mref 238,.rsl 404 0 1],none⟩),
 (232,some ⟨4,[tb false],none⟩),
 (234,some ⟨131,[.rsl 232 0 1],none⟩),
 (230,some ⟨24,[tz],none⟩),
 (227,some ⟨61,[ti 1,ti 1,tu 937959638841350770],none⟩),
 (224,some ⟨68,[ti 1,ti 1,ti 1,ti 0,tz,ti 0,ti 0,ti 0,ti 0,.rsl 7 0 1,ti 0,ti 0,tu 0,ti 0,tz,tz,ti 0,ti 0,tu 0,tz,ti 0,ti 0,tz,tu 0,tz,tu 2105261610024964903,tu 1671013581248195933],none⟩),
 (105,some ⟨68,[ti 1,ti 1,ti 1,ti 0,tz,ti 0,ti 0,ti 0,ti 0,.rsl 7 0 1,ti 0,ti 0,tu 0,ti 0,tz,tz,ti 0,ti 0,tu 0,tz,ti 0,ti 0,tz,tu 0,tz,tu 2105261610024964903,tu 1671013581248195933],none⟩),
 (7,some ⟨119,[tu 77,tz],none⟩),
 (6,some ⟨31,[.rsl 4 0 2,.rsl 224 0 1,.rsl 227 0 1,.rsl 230 0 1,.rsl 234 0 1],none⟩),
 (4,some ⟨128,[ti 1,ti 1,tu 1858807316446646070,tu 2294458496254976924,tu 1058522930688824048,ti 2,ti 2,tu 1810974450540283748,tu 732551293757751401,tu 86482453431610406],none⟩),
 (0,some ⟨3,[ti 1,ti 2],none⟩)],890,[(tb true,[(889,some ⟨105,[ti 3,ti 1,ti 1,tu 937959638841350770,ti 0,ti 0],none⟩),
 (888,some ⟨105,[ti 1,ti 0,ti 0,tu 0,ti 1,ti 0],none⟩),
 (887,some ⟨105,[ti 3,ti 1,ti 1,tu 937959638841350770,ti 0,ti 0],none⟩),
 (867,some ⟨3,[ti 1],none⟩),
 (871,some ⟨24,[.rsl 867 0 1],none⟩),
 (733,some ⟨24,[.rsl 867 0 1],none⟩),
 (732,some ⟨3,[ti 1],none⟩),
 (731,some ⟨92,[ti 1,ti 1,tu 937959638841350770,ti 0],none⟩),
 (730,some ⟨105,[ti 1,ti 0,ti 0,tu 0,ti 1,ti 0],none⟩),
 (729,some ⟨105,[ti 1,ti 0,ti 0,tu 0,ti 1,ti 0],none⟩),
 (725,some ⟨24,[.rsl 724 0 1],none⟩),
 (724,some ⟨3,[ti 1],none⟩),
 (723,some ⟨92,[ti 0,ti 0,tu 0,ti 0],none⟩),
 (722,some ⟨92,[ti 0,ti 0,tu 0,ti 0,ti 1,ti 1,tu 937959638841350770,ti 0],none⟩),
 (721,some ⟨92,[ti 0,ti 0,tu 0,ti 0,ti 1,ti 1,tu 937959638841350770,ti 0],none⟩),
 (709,some ⟨61,[ti 1,ti 1,tu 937959638841350770],none⟩),
 (708,some ⟨61,[ti 1,ti 1,tu 937959638841350770],none⟩),
 (587,some ⟨61,[ti 1,ti 1,tu 937959638841350770],none⟩),
 (586,some ⟨61,[ti 1,ti 1,tu 937959638841350770],none⟩),
 (442,some ⟨61,[ti 1,ti 1,tu 937959638841350770],none⟩),
 (439,some ⟨120,[.ref 239 0],none⟩),
 (438,some ⟨105,[ti 1,ti 0,ti 0,tu 0,ti 1,ti 0,ti 3,ti 1,ti 1,tu 937959638841350770,ti 0,ti 0],none⟩),
 (416,some ⟨61,[ti 1,ti 1,tu 937959638841350770],none⟩),
 (405,some ⟨88,[],some (.map [(.agg #[.int .i64 (1),.int .i64 (1),.int .u64 (937959638841350770),.int .i64 (0)],tu 9,1)] 2)⟩),
 (406,some ⟨90,[ti 1,.mref 405],none⟩),
 (253,some ⟨119,[tu 77,tz],none⟩),
 (404,some ⟨210,[ti 1,ti 1,ti 1,ti 0,tz,ti 0,ti 0,ti 0,ti 0,.rsl 253 0 1,ti 0,ti 0,tu 0,ti 0,tz,tz,ti 0,ti 0,tu 0,tz,ti 0,ti 0,tz,tu 0,tz,tu 2105261610024964903,tu 1671013581248195933,ti 1,ti 1,tu 937959638841350770,tu 0,tu 0,tu 0,tu 0,ti 1],none⟩),
 (238,some ⟨201,[],some (.map [(.agg #[.int .i64 (1),.int .i64 (1),.int .u64 (937959638841350770)],ti 0,0)] 1)⟩),
 (237,some ⟨128,[ti 1,ti 1,tu 1858807316446646070,tu 2294458496254976924,tu 1058522930688824048,ti 2,ti 2,tu 1810974450540283748,tu 732551293757751401,tu 86482453431610406],none⟩),
 (239,some ⟨204,[.rsl 237 0 2,.mref 238,.rsl 404 0 1],none⟩),
 (232,some ⟨4,[tb false],none⟩),
 (234,some ⟨131,[.rsl 232 0 1],none⟩),
 (230,some ⟨24,[tz],none⟩),
 (227,some ⟨61,[ti 1,ti 1,tu 937959638841350770],none⟩),
 (224,some ⟨68,[ti 1,ti 1,ti 1,ti 0,tz,ti 0,ti 0,ti 0,ti 0,.rsl 7 0 1,ti 0,ti 0,tu 0,ti 0,tz,tz,ti 0,ti 0,tu 0,tz,ti 0,ti 0,tz,tu 0,tz,tu 2105261610024964903,tu 1671013581248195933],none⟩),
 (105,some ⟨68,[ti 1,ti 1,ti 1,ti 0,tz,ti 0,ti 0,ti 0,ti 0,.rsl 7 0 1,ti 0,ti 0,tu 0,ti 0,tz,tz,ti 0,ti 0,tu 0,tz,ti 0,ti 0,tz,tu 0,tz,tu 2105261610024964903,tu 1671013581248195933],none⟩),
 (7,some ⟨119,[tu 77,tz],none⟩),
 (6,some ⟨31,[.rsl 4 0 2,.rsl 224 0 1,.rsl 227 0 1,.rsl 230 0 1,.rsl 234 0 1],none⟩),
 (4,some ⟨128,[ti 1,ti 1,tu 1858807316446646070,tu 2294458496254976924,tu 1058522930688824048,ti 2,ti 2,tu 1810974450540283748,tu 732551293757751401,tu 86482453431610406],none⟩),
 (0,some ⟨3,[ti 1,ti 2],none⟩)],1010,890)]⟩
noncomputable def Ec5:XEnv:={ xenvK pfc tpc glc [c3,c1,c0] [c4,c2] with pc:=pcT }
theorem Ec5_ok:KcOk Tryz.prog Ec5:=(xenvK_ok (by simp [c3_ok,c1_ok,c0_ok]) (by simp [c4_ok,c2_ok]):KcOk Tryz.prog (xenvK pfc tpc glc [c3,c1,c0] [c4,c2]))
theorem c5_run:chkK Tryz.prog Ec5 glc 100000 c5 = true:=by kernel_rfl
theorem c5_ok:KeOk Tryz.prog glc c5:=chkK_ok mixed tpc_ok Ec5_ok c5_run
noncomputable def Ec:XEnv:={ xenvK pfc tpc glc [c5,c3,c1,c0] [c4,c2] with pc:=pcT }
theorem Ec_ok:KcOk Tryz.prog Ec:=(xenvK_ok (by simp [c5_ok,c3_ok,c1_ok,c0_ok]) (by simp [c4_ok,c2_ok]):KcOk Tryz.prog (xenvK pfc tpc glc [c5,c3,c1,c0] [c4,c2]))
def isT (r:Option G):Bool:=match r with
 | some (.lit (.bool true)) => true
 | _ => false
theorem isT_spec {r:Option G} (h:isT r = true):r = some (.lit (.bool true)):=by
 unfold isT at h
 split at h
 ·rfl
 ·cases h
theorem lives_run:isT (xpureR Tryz.prog Ec (xcode Tryz.prog Ec 100000) 15 [] glc) = true:=by kernel_rfl
theorem lives_fn:Fn' Tryz.prog glc 15 [] (.lit (.bool true)):=(xpureR_ok (xcode_ok mixed tpc_ok Ec_ok 100000).toRunOk tpc_ok _ _ _ _ (isT_spec lives_run)).1
end
end Go.Proofs.YtpehhhbmobmedaaGreatDoor
