/- Pure calls of the lives() of chapter 34, with their answers: run by the kernel. Printed by gentab.py. -/
import Derived.Test.YtjbbgjbknfoddaaGreatDoorKC
import Derived.Test.YtjbbgjbknfoddaaGreatDoorHTp
import Derived.KernelRfl
namespace Go.Proofs.YtjbbgjbknfoddaaGreatDoor
open Go.RowKit
set_option linter.unusedVariables false
abbrev ti (z : Int) : G := .lit (.int .i64 z)
abbrev tu (n : Nat) : G := .lit (.int .u64 (.ofNat n))
abbrev ty (n : Nat) : G := .lit (.int .u8 (.ofNat n))
abbrev tb (b : Bool) : G := .lit (.bool b)
abbrev ts (l : List UInt8) : G := .lit (.string ⟨⟨l⟩⟩)
abbrev tz : G := .lit (.slice none 0 0)
def pures : List Nat := [240, 135, 69, 141, 140, 227, 108, 68, 129, 18, 363, 362, 245, 246, 248, 343, 412]
def EA : XEnv := { pf := fun f => pures.any (Nat.beq f), tp := tpA }
theorem EA_kc : KcOk Tryz.prog EA := ⟨(fun _ _ _ _ _ _ h => by cases h), (fun _ _ _ _ _ _ _ h => by cases h)⟩

def tab0 : Tab := [(68, [ts [108, 101, 97, 100], ti (1)], tu 421707201092791294),
  (108, [tu 421707201092791294], tu 1858807316446646070),
  (68, [ts [107, 101, 101, 112], ti (1)], tu 1521848841071240365),
  (108, [tu 1521848841071240365], tu 2294458496254976924),
  (68, [ts [115, 105, 103, 110], ti (1)], tu 1626133395376501031),
  (108, [tu 1626133395376501031], tu 1058522930688824048),
  (68, [ts [108, 101, 97, 100], ti (2)], tu 2291886921610748822),
  (108, [tu 2291886921610748822], tu 1810974450540283748),
  (68, [ts [107, 101, 101, 112], ti (2)], tu 1180713173775317926),
  (108, [tu 1180713173775317926], tu 732551293757751401),
  (68, [ts [115, 105, 103, 110], ti (2)], tu 1386298229917608494),
  (108, [tu 1386298229917608494], tu 86482453431610406),
  (68, [ts [108, 101, 97, 100], ti (3)], tu 1073959592131259377),
  (108, [tu 1073959592131259377], tu 490180086995058983),
  (68, [ts [107, 101, 101, 112], ti (3)], tu 2096338858604164514),
  (108, [tu 2096338858604164514], tu 1441871927598236410),
  (68, [ts [115, 105, 103, 110], ti (3)], tu 1538782551431182296),
  (108, [tu 1538782551431182296], tu 1783630545573332436),
  (68, [ts [108, 101, 97, 100], ti (4)], tu 1863283391132157292),
  (108, [tu 1863283391132157292], tu 1953319703317080786),
  (68, [ts [107, 101, 101, 112], ti (4)], tu 665162985134019866),
  (108, [tu 665162985134019866], tu 881125215762738857),
  (68, [ts [115, 105, 103, 110], ti (4)], tu 444722250596327671),
  (108, [tu 444722250596327671], tu 1828901513722737251),
  (68, [ts [108, 101, 97, 100], ti (5)], tu 281260203134007987),
  (108, [tu 281260203134007987], tu 603255930034390424),
  (68, [ts [107, 101, 101, 112], ti (5)], tu 987829929308553698),
  (108, [tu 987829929308553698], tu 1128020181934541352),
  (68, [ts [115, 105, 103, 110], ti (5)], tu 1244687748040770041),
  (108, [tu 1244687748040770041], tu 1855458293155442097),
  (68, [ts [108, 101, 97, 100], ti (6)], tu 1497570388657391175),
  (108, [tu 1497570388657391175], tu 681465322610182208),
  (68, [ts [107, 101, 101, 112], ti (6)], tu 66607009714436665),
  (108, [tu 66607009714436665], tu 1458595129815633359),
  (68, [ts [115, 105, 103, 110], ti (6)], tu 1246550084688066300),
  (108, [tu 1246550084688066300], tu 1877287273825605593),
  (18, [ti (0), ti (1000000)], ti (0)),
  (129, [.agg [ti (1), ti (1), ti (1), ti (0), tz, ti (0), ti (0), ti (0), ti (0), tz, ti (0), ti (0), tu 0, ti (0), tz, tz, ti (0), ti (0), tu 0, tz, ti (0), ti (0), tz, tu 0, tz, tu 0, tu 0]], .agg [ti (1), ti (1), tu 1678659063197719793]),
  (227, [ts [115, 105, 103, 110, 101, 100], .sl [ty 2, ty 2, ty 2, ty 0, ty 0, ty 0, ty 0, ty 0, ty 0, ty 2, ty 232, ty 7, ty 0, ty 0, ty 0, ty 0, ty 0, ty 0, ty 0, ty 0, ty 0, ty 0, ty 0, ty 0, ty 0, ty 0, ty 0, ty 0] 28], tu 1894155358097759710),
  (140, [ts [110, 111, 110, 99, 101], .sl [tu 1626133395376501031, tu 1894155358097759710] 2], tu 946356337986661323),
  (141, [ts [115, 105, 103], .sl [tu 1695899507400157853, tu 1058522930688824048, tu 1894155358097759710] 3], tu 80194051798065368),
  (129, [.agg [ti (1), ti (1), ti (1), ti (0), tz, ti (0), ti (0), ti (0), ti (0), .sl [tu 1000, tz] 1, ti (0), ti (0), tu 0, ti (0), tz, tz, ti (0), ti (0), tu 0, tz, ti (0), ti (0), tz, tu 0, tz, tu 1695899507400157853, tu 644682306613698331]], .agg [ti (1), ti (1), tu 2121501834213576595]),
  (129, [.agg [ti (1), ti (2), ti (2), ti (0), .sl [ti (1), ti (1), tu 2121501834213576595] 1, ti (2), ti (0), ti (0), ti (3), tz, ti (0), ti (0), tu 0, ti (0), tz, tz, ti (0), ti (0), tu 0, tz, ti (0), ti (0), tz, tu 0, tz, tu 0, tu 0]], .agg [ti (1), ti (2), tu 228970879149404166]),
  (227, [ts [115, 105, 103, 110, 101, 100], .sl [ty 2, ty 4, ty 4, ty 0, ty 2, ty 2, ty 2, ty 147, ty 159, ty 143, ty 149, ty 217, ty 213, ty 197, ty 184, ty 29, ty 4, ty 0, ty 0, ty 6, ty 4, ty 242, ty 7, ty 0, ty 243, ty 7, ty 0, ty 0, ty 0, ty 0, ty 0, ty 0, ty 0, ty 0, ty 0, ty 0, ty 0, ty 0, ty 0, ty 0, ty 0, ty 0] 42], tu 188314862188550192)]
/-- 14849 operations. -/
theorem tab0_run : tab0.all (chk1 Tryz.prog EA 100000) = true := by kernel_rfl
def tab1 : Tab := [(140, [ts [110, 111, 110, 99, 101], .sl [tu 1626133395376501031, tu 188314862188550192] 2], tu 1776841811896853426),
  (141, [ts [115, 105, 103], .sl [tu 1479892474240941217, tu 1058522930688824048, tu 188314862188550192] 3], tu 2201041035467745596),
  (129, [.agg [ti (1), ti (2), ti (2), ti (0), .sl [ti (1), ti (1), tu 2121501834213576595] 1, ti (2), ti (0), ti (0), ti (3), .sl [tu 1010, tz, tu 1011, tz] 2, ti (0), ti (0), tu 0, ti (0), tz, tz, ti (0), ti (0), tu 0, tz, ti (0), ti (0), tz, tu 0, tz, tu 1479892474240941217, tu 404158722206669652]], .agg [ti (1), ti (2), tu 1178938091502474893]),
  (129, [.agg [ti (1), ti (3), ti (2), ti (0), .sl [ti (1), ti (2), tu 1178938091502474893] 1, ti (3), ti (0), ti (0), ti (3), tz, ti (0), ti (0), tu 0, ti (0), tz, tz, ti (0), ti (0), tu 0, tz, ti (0), ti (0), tz, tu 0, tz, tu 0, tu 0]], .agg [ti (1), ti (3), tu 2056906719886977697]),
  (227, [ts [115, 105, 103, 110, 101, 100], .sl [ty 2, ty 6, ty 4, ty 0, ty 2, ty 2, ty 4, ty 141, ty 173, ty 186, ty 225, ty 170, ty 190, ty 155, ty 174, ty 16, ty 6, ty 0, ty 0, ty 6, ty 6, ty 252, ty 7, ty 0, ty 253, ty 7, ty 0, ty 254, ty 7, ty 0, ty 0, ty 0, ty 0, ty 0, ty 0, ty 0, ty 0, ty 0, ty 0, ty 0, ty 0, ty 0, ty 0, ty 0, ty 0] 45], tu 1761039875129330641),
  (140, [ts [110, 111, 110, 99, 101], .sl [tu 1626133395376501031, tu 1761039875129330641] 2], tu 839168426184031016),
  (141, [ts [115, 105, 103], .sl [tu 1976084756027819395, tu 1058522930688824048, tu 1761039875129330641] 3], tu 631677755862836169),
  (129, [.agg [ti (1), ti (3), ti (2), ti (0), .sl [ti (1), ti (2), tu 1178938091502474893] 1, ti (3), ti (0), ti (0), ti (3), .sl [tu 1020, tz, tu 1021, tz, tu 1022, tz] 3, ti (0), ti (0), tu 0, ti (0), tz, tz, ti (0), ti (0), tu 0, tz, ti (0), ti (0), tz, tu 0, tz, tu 1976084756027819395, tu 1216949111420244005]], .agg [ti (1), ti (3), tu 1030493698523647063]),
  (129, [.agg [ti (1), ti (4), ti (2), ti (0), .sl [ti (1), ti (3), tu 1030493698523647063] 1, ti (4), ti (0), ti (0), ti (3), tz, ti (0), ti (0), tu 0, ti (0), tz, tz, ti (0), ti (0), tu 0, tz, ti (0), ti (0), tz, tu 0, tz, tu 0, tu 0]], .agg [ti (1), ti (4), tu 478386807392334582]),
  (227, [ts [115, 105, 103, 110, 101, 100], .sl [ty 2, ty 8, ty 4, ty 0, ty 2, ty 2, ty 6, ty 215, ty 152, ty 159, ty 222, ty 241, ty 145, ty 195, ty 166, ty 14, ty 8, ty 0, ty 0, ty 6, ty 6, ty 134, ty 8, ty 0, ty 135, ty 8, ty 0, ty 136, ty 8, ty 0, ty 0, ty 0, ty 0, ty 0, ty 0, ty 0, ty 0, ty 0, ty 0, ty 0, ty 0, ty 0, ty 0, ty 0, ty 0] 45], tu 1690828379046136167),
  (140, [ts [110, 111, 110, 99, 101], .sl [tu 1626133395376501031, tu 1690828379046136167] 2], tu 1973221972374651104)]
/-- 14915 operations. -/
theorem tab1_run : tab1.all (chk1 Tryz.prog EA 100000) = true := by kernel_rfl
def tab2 : Tab := [(141, [ts [115, 105, 103], .sl [tu 557930940679962174, tu 1058522930688824048, tu 1690828379046136167] 3], tu 294405391536677357),
  (129, [.agg [ti (1), ti (4), ti (2), ti (0), .sl [ti (1), ti (3), tu 1030493698523647063] 1, ti (4), ti (0), ti (0), ti (3), .sl [tu 1030, tz, tu 1031, tz, tu 1032, tz] 3, ti (0), ti (0), tu 0, ti (0), tz, tz, ti (0), ti (0), tu 0, tz, ti (0), ti (0), tz, tu 0, tz, tu 557930940679962174, tu 857061758059851171]], .agg [ti (1), ti (4), tu 1114364670887373108]),
  (248, [ts [111, 112], .sl [ty 2, ty 2, ty 2, ty 0, ty 0, ty 0, ty 0, ty 0, ty 0, ty 2, ty 232, ty 7, ty 0, ty 0, ty 0, ty 0, ty 0, ty 0, ty 0, ty 0, ty 0, ty 0, ty 0, ty 0, ty 0, ty 0, ty 0, ty 0] 28], tu 2121501834213576595),
  (248, [ts [115, 105, 103, 110, 101, 100], .sl [ty 2, ty 2, ty 2, ty 0, ty 0, ty 0, ty 0, ty 0, ty 0, ty 2, ty 232, ty 7, ty 0, ty 0, ty 0, ty 0, ty 0, ty 0, ty 0, ty 0, ty 0, ty 0, ty 0, ty 0, ty 0, ty 0, ty 0, ty 0] 28], tu 1894155358097759710),
  (343, [ts [115, 105, 103], .sl [tu 1695899507400157853, tu 1058522930688824048, tu 1894155358097759710] 3], tu 80194051798065368),
  (248, [ts [111, 112], .sl [ty 2, ty 4, ty 4, ty 0, ty 2, ty 2, ty 2, ty 147, ty 159, ty 143, ty 149, ty 217, ty 213, ty 197, ty 184, ty 29, ty 4, ty 0, ty 0, ty 6, ty 4, ty 242, ty 7, ty 0, ty 243, ty 7, ty 0, ty 0, ty 0, ty 0, ty 0, ty 0, ty 0, ty 0, ty 0, ty 0, ty 0, ty 0, ty 0, ty 0, ty 0, ty 0] 42], tu 1178938091502474893),
  (248, [ts [115, 105, 103, 110, 101, 100], .sl [ty 2, ty 4, ty 4, ty 0, ty 2, ty 2, ty 2, ty 147, ty 159, ty 143, ty 149, ty 217, ty 213, ty 197, ty 184, ty 29, ty 4, ty 0, ty 0, ty 6, ty 4, ty 242, ty 7, ty 0, ty 243, ty 7, ty 0, ty 0, ty 0, ty 0, ty 0, ty 0, ty 0, ty 0, ty 0, ty 0, ty 0, ty 0, ty 0, ty 0, ty 0, ty 0] 42], tu 188314862188550192),
  (343, [ts [115, 105, 103], .sl [tu 1479892474240941217, tu 1058522930688824048, tu 188314862188550192] 3], tu 2201041035467745596),
  (248, [ts [111, 112], .sl [ty 2, ty 6, ty 4, ty 0, ty 2, ty 2, ty 4, ty 141, ty 173, ty 186, ty 225, ty 170, ty 190, ty 155, ty 174, ty 16, ty 6, ty 0, ty 0, ty 6, ty 6, ty 252, ty 7, ty 0, ty 253, ty 7, ty 0, ty 254, ty 7, ty 0, ty 0, ty 0, ty 0, ty 0, ty 0, ty 0, ty 0, ty 0, ty 0, ty 0, ty 0, ty 0, ty 0, ty 0, ty 0] 45], tu 1030493698523647063)]
/-- 14430 operations. -/
theorem tab2_run : tab2.all (chk1 Tryz.prog EA 100000) = true := by kernel_rfl
def tab3 : Tab := [(248, [ts [115, 105, 103, 110, 101, 100], .sl [ty 2, ty 6, ty 4, ty 0, ty 2, ty 2, ty 4, ty 141, ty 173, ty 186, ty 225, ty 170, ty 190, ty 155, ty 174, ty 16, ty 6, ty 0, ty 0, ty 6, ty 6, ty 252, ty 7, ty 0, ty 253, ty 7, ty 0, ty 254, ty 7, ty 0, ty 0, ty 0, ty 0, ty 0, ty 0, ty 0, ty 0, ty 0, ty 0, ty 0, ty 0, ty 0, ty 0, ty 0, ty 0] 45], tu 1761039875129330641),
  (343, [ts [115, 105, 103], .sl [tu 1976084756027819395, tu 1058522930688824048, tu 1761039875129330641] 3], tu 631677755862836169),
  (248, [ts [111, 112], .sl [ty 2, ty 8, ty 4, ty 0, ty 2, ty 2, ty 6, ty 215, ty 152, ty 159, ty 222, ty 241, ty 145, ty 195, ty 166, ty 14, ty 8, ty 0, ty 0, ty 6, ty 6, ty 134, ty 8, ty 0, ty 135, ty 8, ty 0, ty 136, ty 8, ty 0, ty 0, ty 0, ty 0, ty 0, ty 0, ty 0, ty 0, ty 0, ty 0, ty 0, ty 0, ty 0, ty 0, ty 0, ty 0] 45], tu 1114364670887373108),
  (248, [ts [115, 105, 103, 110, 101, 100], .sl [ty 2, ty 8, ty 4, ty 0, ty 2, ty 2, ty 6, ty 215, ty 152, ty 159, ty 222, ty 241, ty 145, ty 195, ty 166, ty 14, ty 8, ty 0, ty 0, ty 6, ty 6, ty 134, ty 8, ty 0, ty 135, ty 8, ty 0, ty 136, ty 8, ty 0, ty 0, ty 0, ty 0, ty 0, ty 0, ty 0, ty 0, ty 0, ty 0, ty 0, ty 0, ty 0, ty 0, ty 0, ty 0] 45], tu 1690828379046136167),
  (343, [ts [115, 105, 103], .sl [tu 557930940679962174, tu 1058522930688824048, tu 1690828379046136167] 3], tu 294405391536677357)]
/-- 8513 operations. -/
theorem tab3_run : tab3.all (chk1 Tryz.prog EA 100000) = true := by kernel_rfl
def tp21 : XPure := tabTp tab0 (tabTp tab1 (tabTp tab2 (tabTp tab3 (tpA))))
theorem tp21_ok : PureOk Tryz.prog tp21 := tabTp_ok (T := tab0) (tabTp_ok (T := tab1) (tabTp_ok (T := tab2) (tabTp_ok (T := tab3) (tpA_ok) (chk_ok mixed tpA_ok EA_kc tab3_run)) (chk_ok mixed tpA_ok EA_kc tab2_run)) (chk_ok mixed tpA_ok EA_kc tab1_run)) (chk_ok mixed tpA_ok EA_kc tab0_run)
end Go.Proofs.YtjbbgjbknfoddaaGreatDoor
