/- Pure calls of the lives() of chapter 23, with their answers: run by the kernel. Printed by gentab.py. -/
import Derived.Test.YtpehhhbmobmedaaGreatDoorKC
import Derived.Test.YtpehhhbmobmedaaGreatDoorHTp
import Derived.KernelRfl
namespace Go.Proofs.YtpehhhbmobmedaaGreatDoor
set_option linter.unusedVariables false
set_option linter.unusedSimpArgs false
set_option linter.unusedSectionVars false
open Go.RowKit
abbrev ti (z:Int):G:=.lit (.int .i64 z)
abbrev tu (n:Nat):G:=.lit (.int .u64 (.ofNat n))
abbrev ty (n:Nat):G:=.lit (.int .u8 (.ofNat n))
abbrev tb (b:Bool):G:=.lit (.bool b)
abbrev ts (l:List UInt8):G:=.lit (.string ⟨⟨l⟩⟩)
abbrev tz:G:=.lit (.slice none 0 0)
def pures:List Nat:=[166,104,195,147,105,89,62,63,59,7,146,88,177,178,187,252,193]
def EA:XEnv:={ pf:=fun f => pures.any (Nat.beq f),tp:=tpA }
theorem EA_kc:KcOk Tryz.prog EA:=⟨(fun _ _ _ _ _ _ h => by cases h),(fun _ _ _ _ _ _ _ h => by cases h)⟩

def tab0:Tab:=[(63,[ts [108,101,97,100],ti (1)],tu 421707201092791294),
 (62,[tu 421707201092791294],tu 1858807316446646070),
 (63,[ts [107,101,101,112],ti (1)],tu 1521848841071240365),
 (62,[tu 1521848841071240365],tu 2294458496254976924),
 (63,[ts [115,105,103,110],ti (1)],tu 1626133395376501031),
 (62,[tu 1626133395376501031],tu 1058522930688824048),
 (63,[ts [108,101,97,100],ti (2)],tu 2291886921610748822),
 (62,[tu 2291886921610748822],tu 1810974450540283748),
 (63,[ts [107,101,101,112],ti (2)],tu 1180713173775317926),
 (62,[tu 1180713173775317926],tu 732551293757751401),
 (63,[ts [115,105,103,110],ti (2)],tu 1386298229917608494),
 (62,[tu 1386298229917608494],tu 86482453431610406),
 (89,[ts [115,105,103,110,101,100],.sl [ty 2,ty 2,ty 2,ty 0,ty 0,ty 0,ty 0,ty 0,ty 0,ty 2,ty 77,ty 0,ty 0,ty 0,ty 0,ty 0,ty 0,ty 0,ty 0,ty 0,ty 0,ty 0,ty 0,ty 0,ty 0,ty 0,ty 0] 27],tu 548699417238400799),
 (105,[ts [110,111,110,99,101],.sl [tu 1626133395376501031,tu 548699417238400799] 2],tu 46510885366322548),
 (147,[ts [115,105,103],.sl [tu 2105261610024964903,tu 1058522930688824048,tu 548699417238400799] 3],tu 491737871520151385),
 (59,[.agg [ti (1),ti (1),ti (1),ti (0),tz,ti (0),ti (0),ti (0),ti (0),.sl [tu 77,tz] 1,ti (0),ti (0),tu 0,ti (0),tz,tz,ti (0),ti (0),tu 0,tz,ti (0),ti (0),tz,tu 0,tz,tu 2105261610024964903,tu 1671013581248195933]],.agg [ti (1),ti (1),tu 937959638841350770])]
theorem tab0_run:tab0.all (chk1 Tryz.prog EA 100000) = true:=by kernel_rfl
def tab1:Tab:=[(187,[ts [111,112],.sl [ty 2,ty 2,ty 2,ty 0,ty 0,ty 0,ty 0,ty 0,ty 0,ty 2,ty 77,ty 0,ty 0,ty 0,ty 0,ty 0,ty 0,ty 0,ty 0,ty 0,ty 0,ty 0,ty 0,ty 0,ty 0,ty 0,ty 0] 27],tu 937959638841350770),
 (187,[ts [115,105,103,110,101,100],.sl [ty 2,ty 2,ty 2,ty 0,ty 0,ty 0,ty 0,ty 0,ty 0,ty 2,ty 77,ty 0,ty 0,ty 0,ty 0,ty 0,ty 0,ty 0,ty 0,ty 0,ty 0,ty 0,ty 0,ty 0,ty 0,ty 0,ty 0] 27],tu 548699417238400799),
 (252,[ts [115,105,103],.sl [tu 2105261610024964903,tu 1058522930688824048,tu 548699417238400799] 3],tu 491737871520151385),
 (37,[.agg [ti (1),ti (1),tu 937959638841350770,ti (0)],.agg [ti (0),ti (0),tu 0,ti (0)]],ti (1)),
 (37,[.agg [ti (0),ti (0),tu 0,ti (0)],.agg [ti (1),ti (1),tu 937959638841350770,ti (0)]],ti (-1))]
theorem tab1_run:tab1.all (chk1 Tryz.prog EA 100000) = true:=by kernel_rfl
def tp21:XPure:=tabTp tab0 (tabTp tab1 (tpA))
theorem tp21_ok:PureOk Tryz.prog tp21:=tabTp_ok (T:=tab0) (tabTp_ok (T:=tab1) (tpA_ok) (chk_ok mixed tpA_ok EA_kc tab1_run)) (chk_ok mixed tpA_ok EA_kc tab0_run)
end Go.Proofs.YtpehhhbmobmedaaGreatDoor
