/- Calls in place, further. Printed by gencuts.py. -/
import Derived.Test.YtjbbgjbknfoddaaGreatDoorC34a
import Derived.KernelRfl
namespace Go.Proofs.YtjbbgjbknfoddaaGreatDoor
open Go.RowKit
set_option linter.unusedVariables false
set_option linter.unusedSimpArgs false
/-- A call of huddle/huddleref19.After: 2186 operations. -/
def c5 : KE :=
  ⟨213, [.agg [.rsl 14 0 6, .rsl 869 0 2, .rsl 872 0 2, .rsl 875 0 2, .rsl 884 0 2], .agg [ti 1, ti 3, ti 2, ti 0, .rsl 981 0 1, ti 3, ti 0, ti 0, ti 3, tz, ti 0, ti 0, tu 0, ti 0, tz, tz, ti 0, ti 0, tu 0, tz, ti 0, ti 0, tz, tu 0, tz, tu 0, tu 0]], [(992, some ⟨88, [ti 1, ti 3, ti 2, ti 0, .rsl 981 0 1, ti 3, ti 0, ti 0, ti 3, tz, ti 0, ti 0, tu 0, ti 0, tz, tz, ti 0, ti 0, tu 0, tz, ti 0, ti 0, tz, tu 0, tz, tu 0, tu 0], none⟩),
  (991, some ⟨63, [.rsl 14 0 6, .rsl 869 0 2, .rsl 872 0 2, .rsl 875 0 2, .rsl 884 0 2], none⟩),
  (990, some ⟨88, [ti 0, ti 0, ti 0, ti 0, tz, ti 0, ti 0, ti 0, ti 0, tz, ti 0, ti 0, tu 0, ti 0, tz, tz, ti 0, ti 0, tu 0, tz, ti 0, ti 0, tz, tu 0, tz, tu 0, tu 0], none⟩),
  (989, some ⟨88, [ti 1, ti 3, ti 2, ti 0, .rsl 981 0 1, ti 3, ti 0, ti 0, ti 3, tz, ti 0, ti 0, tu 0, ti 0, tz, tz, ti 0, ti 0, tu 0, tz, ti 0, ti 0, tz, tu 0, tz, tu 0, tu 0], none⟩),
  (988, some ⟨63, [.rsl 14 0 6, .rsl 869 0 2, .rsl 872 0 2, .rsl 875 0 2, .rsl 884 0 2], none⟩),
  (981, some ⟨36, [ti 1, ti 2, tu 1178938091502474893], none⟩),
  (882, some ⟨4, [tb true, tb false], none⟩),
  (878, some ⟨4, [tb false, tb false], none⟩),
  (884, some ⟨203, [.rsl 878 0 2, .rsl 882 0 2], none⟩),
  (859, some ⟨3, [ti 0], none⟩),
  (875, some ⟨22, [tz, .rsl 859 0 1], none⟩),
  (872, some ⟨36, [ti 1, ti 1, tu 2121501834213576595, ti 1, ti 2, tu 1178938091502474893], none⟩),
  (575, some ⟨184, [tu 1010, tz, tu 1011, tz], none⟩),
  (380, some ⟨36, [ti 1, ti 1, tu 2121501834213576595], none⟩),
  (95, some ⟨184, [tu 1000, tz], none⟩),
  (869, some ⟨88, [ti 1, ti 1, ti 1, ti 0, tz, ti 0, ti 0, ti 0, ti 0, .rsl 95 0 1, ti 0, ti 0, tu 0, ti 0, tz, tz, ti 0, ti 0, tu 0, tz, ti 0, ti 0, tz, tu 0, tz, tu 1695899507400157853, tu 644682306613698331, ti 1, ti 2, ti 2, ti 0, .rsl 380 0 1, ti 2, ti 0, ti 0, ti 3, .rsl 575 0 2, ti 0, ti 0, tu 0, ti 0, tz, tz, ti 0, ti 0, tu 0, tz, ti 0, ti 0, tz, tu 0, tz, tu 1479892474240941217, tu 404158722206669652], none⟩),
  (14, some ⟨131, [ti 1, ti 1, tu 1858807316446646070, tu 2294458496254976924, tu 1058522930688824048, ti 2, ti 2, tu 1810974450540283748, tu 732551293757751401, tu 86482453431610406, ti 3, ti 3, tu 490180086995058983, tu 1441871927598236410, tu 1783630545573332436, ti 4, ti 1, tu 1953319703317080786, tu 881125215762738857, tu 1828901513722737251, ti 5, ti 2, tu 603255930034390424, tu 1128020181934541352, tu 1855458293155442097, ti 6, ti 3, tu 681465322610182208, tu 1458595129815633359, tu 1877287273825605593], none⟩)], 993, [(.rsl 1302 0 3, [(1302, some ⟨3, [ti 1, ti 2, ti 3], none⟩),
  (992, some ⟨88, [ti 1, ti 3, ti 2, ti 0, .rsl 981 0 1, ti 3, ti 0, ti 0, ti 3, tz, ti 0, ti 0, tu 0, ti 0, tz, tz, ti 0, ti 0, tu 0, tz, ti 0, ti 0, tz, tu 0, tz, tu 0, tu 0], none⟩),
  (991, some ⟨63, [.rsl 14 0 6, .rsl 869 0 2, .rsl 872 0 2, .rsl 875 0 2, .rsl 884 0 2], none⟩),
  (990, some ⟨88, [ti 0, ti 0, ti 0, ti 0, tz, ti 0, ti 0, ti 0, ti 0, tz, ti 0, ti 0, tu 0, ti 0, tz, tz, ti 0, ti 0, tu 0, tz, ti 0, ti 0, tz, tu 0, tz, tu 0, tu 0], none⟩),
  (989, some ⟨88, [ti 1, ti 3, ti 2, ti 0, .rsl 981 0 1, ti 3, ti 0, ti 0, ti 3, tz, ti 0, ti 0, tu 0, ti 0, tz, tz, ti 0, ti 0, tu 0, tz, ti 0, ti 0, tz, tu 0, tz, tu 0, tu 0], none⟩),
  (988, some ⟨63, [.rsl 14 0 6, .rsl 869 0 2, .rsl 872 0 2, .rsl 875 0 2, .rsl 884 0 2], none⟩),
  (981, some ⟨36, [ti 1, ti 2, tu 1178938091502474893], none⟩),
  (882, some ⟨4, [tb true, tb false], none⟩),
  (878, some ⟨4, [tb false, tb false], none⟩),
  (884, some ⟨203, [.rsl 878 0 2, .rsl 882 0 2], none⟩),
  (859, some ⟨3, [ti 0], none⟩),
  (875, some ⟨22, [tz, .rsl 859 0 1], none⟩),
  (872, some ⟨36, [ti 1, ti 1, tu 2121501834213576595, ti 1, ti 2, tu 1178938091502474893], none⟩),
  (575, some ⟨184, [tu 1010, tz, tu 1011, tz], none⟩),
  (380, some ⟨36, [ti 1, ti 1, tu 2121501834213576595], none⟩),
  (95, some ⟨184, [tu 1000, tz], none⟩),
  (869, some ⟨88, [ti 1, ti 1, ti 1, ti 0, tz, ti 0, ti 0, ti 0, ti 0, .rsl 95 0 1, ti 0, ti 0, tu 0, ti 0, tz, tz, ti 0, ti 0, tu 0, tz, ti 0, ti 0, tz, tu 0, tz, tu 1695899507400157853, tu 644682306613698331, ti 1, ti 2, ti 2, ti 0, .rsl 380 0 1, ti 2, ti 0, ti 0, ti 3, .rsl 575 0 2, ti 0, ti 0, tu 0, ti 0, tz, tz, ti 0, ti 0, tu 0, tz, ti 0, ti 0, tz, tu 0, tz, tu 1479892474240941217, tu 404158722206669652], none⟩),
  (14, some ⟨131, [ti 1, ti 1, tu 1858807316446646070, tu 2294458496254976924, tu 1058522930688824048, ti 2, ti 2, tu 1810974450540283748, tu 732551293757751401, tu 86482453431610406, ti 3, ti 3, tu 490180086995058983, tu 1441871927598236410, tu 1783630545573332436, ti 4, ti 1, tu 1953319703317080786, tu 881125215762738857, tu 1828901513722737251, ti 5, ti 2, tu 603255930034390424, tu 1128020181934541352, tu 1855458293155442097, ti 6, ti 3, tu 681465322610182208, tu 1458595129815633359, tu 1877287273825605593], none⟩)], 1303, 993)]⟩
noncomputable def Ec5 : XEnv := { xenvK pfc tpc glc [c4, c3, c1] [c2, c0] with pc := pcT }
theorem Ec5_ok : KcOk Tryz.prog Ec5 := (xenvK_ok (by simp [c4_ok, c3_ok, c1_ok]) (by simp [c2_ok, c0_ok]) : KcOk Tryz.prog (xenvK pfc tpc glc [c4, c3, c1] [c2, c0]))
theorem c5_run : chkK Tryz.prog Ec5 glc 100000 c5 = true := by kernel_rfl
theorem c5_ok : KeOk Tryz.prog glc c5 := chkK_ok mixed tpc_ok Ec5_ok c5_run
/-- A call of huddle/huddleref11.Signed: 2557 operations. -/
def c6 : KF :=
  ⟨58, [.agg [ti 1, ti 3, ti 2, ti 0, .rsl 981 0 1, ti 3, ti 0, ti 0, ti 3, .rsl 1323 0 3, ti 0, ti 0, tu 0, ti 0, tz, tz, ti 0, ti 0, tu 0, tz, ti 0, ti 0, tz, tu 0, tz, tu 0, tu 0]], [1323, 981], [(1323, some ⟨184, [tu 1020, tz, tu 1021, tz, tu 1022, tz], none⟩),
  (981, some ⟨36, [ti 1, ti 2, tu 1178938091502474893], none⟩)], 1325, .agg [ti 1, ti 3, ti 2, ti 0, .rsl 981 0 1, ti 3, ti 0, ti 0, ti 3, .rsl 1323 0 3, ti 0, ti 0, tu 0, ti 0, tz, tz, ti 0, ti 0, tu 0, tz, ti 0, ti 0, tz, tu 0, tz, tu 1976084756027819395, tu 1216949111420244005], [], 1466⟩
noncomputable def Ec6 : XEnv := { xenvK pfc tpc glc [c5, c4, c3, c1] [c2, c0] with pc := pcT }
theorem Ec6_ok : KcOk Tryz.prog Ec6 := (xenvK_ok (by simp [c5_ok, c4_ok, c3_ok, c1_ok]) (by simp [c2_ok, c0_ok]) : KcOk Tryz.prog (xenvK pfc tpc glc [c5, c4, c3, c1] [c2, c0]))
theorem c6_run : chkF Tryz.prog Ec6 glc 100000 c6 = true := by kernel_rfl
theorem c6_ok : KfOk Tryz.prog glc c6 := chkF_ok mixed tpc_ok Ec6_ok c6_run
/-- A call of huddle/huddleref12.Wrong: 2455 operations. -/
def c7 : KE :=
  ⟨127, [.agg [.rsl 14 0 6, .rsl 869 0 2, .rsl 872 0 2, .rsl 875 0 2, .rsl 884 0 2], .agg [ti 1, ti 3, ti 2, ti 0, .rsl 981 0 1, ti 3, ti 0, ti 0, ti 3, .rsl 1323 0 3, ti 0, ti 0, tu 0, ti 0, tz, tz, ti 0, ti 0, tu 0, tz, ti 0, ti 0, tz, tu 0, tz, tu 1976084756027819395, tu 1216949111420244005]], [(1468, some ⟨63, [tz, tz, tz, tz, tz], none⟩),
  (1467, some ⟨88, [ti 1, ti 3, ti 2, ti 0, .rsl 981 0 1, ti 3, ti 0, ti 0, ti 3, .rsl 1323 0 3, ti 0, ti 0, tu 0, ti 0, tz, tz, ti 0, ti 0, tu 0, tz, ti 0, ti 0, tz, tu 0, tz, tu 1976084756027819395, tu 1216949111420244005], none⟩),
  (1466, some ⟨63, [.rsl 14 0 6, .rsl 869 0 2, .rsl 872 0 2, .rsl 875 0 2, .rsl 884 0 2], none⟩),
  (1323, some ⟨184, [tu 1020, tz, tu 1021, tz, tu 1022, tz], none⟩),
  (981, some ⟨36, [ti 1, ti 2, tu 1178938091502474893], none⟩),
  (882, some ⟨4, [tb true, tb false], none⟩),
  (878, some ⟨4, [tb false, tb false], none⟩),
  (884, some ⟨203, [.rsl 878 0 2, .rsl 882 0 2], none⟩),
  (859, some ⟨3, [ti 0], none⟩),
  (875, some ⟨22, [tz, .rsl 859 0 1], none⟩),
  (872, some ⟨36, [ti 1, ti 1, tu 2121501834213576595, ti 1, ti 2, tu 1178938091502474893], none⟩),
  (575, some ⟨184, [tu 1010, tz, tu 1011, tz], none⟩),
  (380, some ⟨36, [ti 1, ti 1, tu 2121501834213576595], none⟩),
  (95, some ⟨184, [tu 1000, tz], none⟩),
  (869, some ⟨88, [ti 1, ti 1, ti 1, ti 0, tz, ti 0, ti 0, ti 0, ti 0, .rsl 95 0 1, ti 0, ti 0, tu 0, ti 0, tz, tz, ti 0, ti 0, tu 0, tz, ti 0, ti 0, tz, tu 0, tz, tu 1695899507400157853, tu 644682306613698331, ti 1, ti 2, ti 2, ti 0, .rsl 380 0 1, ti 2, ti 0, ti 0, ti 3, .rsl 575 0 2, ti 0, ti 0, tu 0, ti 0, tz, tz, ti 0, ti 0, tu 0, tz, ti 0, ti 0, tz, tu 0, tz, tu 1479892474240941217, tu 404158722206669652], none⟩),
  (14, some ⟨131, [ti 1, ti 1, tu 1858807316446646070, tu 2294458496254976924, tu 1058522930688824048, ti 2, ti 2, tu 1810974450540283748, tu 732551293757751401, tu 86482453431610406, ti 3, ti 3, tu 490180086995058983, tu 1441871927598236410, tu 1783630545573332436, ti 4, ti 1, tu 1953319703317080786, tu 881125215762738857, tu 1828901513722737251, ti 5, ti 2, tu 603255930034390424, tu 1128020181934541352, tu 1855458293155442097, ti 6, ti 3, tu 681465322610182208, tu 1458595129815633359, tu 1877287273825605593], none⟩)], 1469, [(.tup [ti 0, .rsl 1623 0 1], [(1623, some ⟨3, [ti 1], none⟩),
  (1468, some ⟨63, [tz, tz, tz, tz, tz], none⟩),
  (1467, some ⟨88, [ti 1, ti 3, ti 2, ti 0, .rsl 981 0 1, ti 3, ti 0, ti 0, ti 3, .rsl 1323 0 3, ti 0, ti 0, tu 0, ti 0, tz, tz, ti 0, ti 0, tu 0, tz, ti 0, ti 0, tz, tu 0, tz, tu 1976084756027819395, tu 1216949111420244005], none⟩),
  (1466, some ⟨63, [.rsl 14 0 6, .rsl 869 0 2, .rsl 872 0 2, .rsl 875 0 2, .rsl 884 0 2], none⟩),
  (1323, some ⟨184, [tu 1020, tz, tu 1021, tz, tu 1022, tz], none⟩),
  (981, some ⟨36, [ti 1, ti 2, tu 1178938091502474893], none⟩),
  (882, some ⟨4, [tb true, tb false], none⟩),
  (878, some ⟨4, [tb false, tb false], none⟩),
  (884, some ⟨203, [.rsl 878 0 2, .rsl 882 0 2], none⟩),
  (859, some ⟨3, [ti 0], none⟩),
  (875, some ⟨22, [tz, .rsl 859 0 1], none⟩),
  (872, some ⟨36, [ti 1, ti 1, tu 2121501834213576595, ti 1, ti 2, tu 1178938091502474893], none⟩),
  (575, some ⟨184, [tu 1010, tz, tu 1011, tz], none⟩),
  (380, some ⟨36, [ti 1, ti 1, tu 2121501834213576595], none⟩),
  (95, some ⟨184, [tu 1000, tz], none⟩),
  (869, some ⟨88, [ti 1, ti 1, ti 1, ti 0, tz, ti 0, ti 0, ti 0, ti 0, .rsl 95 0 1, ti 0, ti 0, tu 0, ti 0, tz, tz, ti 0, ti 0, tu 0, tz, ti 0, ti 0, tz, tu 0, tz, tu 1695899507400157853, tu 644682306613698331, ti 1, ti 2, ti 2, ti 0, .rsl 380 0 1, ti 2, ti 0, ti 0, ti 3, .rsl 575 0 2, ti 0, ti 0, tu 0, ti 0, tz, tz, ti 0, ti 0, tu 0, tz, ti 0, ti 0, tz, tu 0, tz, tu 1479892474240941217, tu 404158722206669652], none⟩),
  (14, some ⟨131, [ti 1, ti 1, tu 1858807316446646070, tu 2294458496254976924, tu 1058522930688824048, ti 2, ti 2, tu 1810974450540283748, tu 732551293757751401, tu 86482453431610406, ti 3, ti 3, tu 490180086995058983, tu 1441871927598236410, tu 1783630545573332436, ti 4, ti 1, tu 1953319703317080786, tu 881125215762738857, tu 1828901513722737251, ti 5, ti 2, tu 603255930034390424, tu 1128020181934541352, tu 1855458293155442097, ti 6, ti 3, tu 681465322610182208, tu 1458595129815633359, tu 1877287273825605593], none⟩)], 1628, 1469)]⟩
noncomputable def Ec7 : XEnv := { xenvK pfc tpc glc [c5, c4, c3, c1] [c6, c2, c0] with pc := pcT }
theorem Ec7_ok : KcOk Tryz.prog Ec7 := (xenvK_ok (by simp [c5_ok, c4_ok, c3_ok, c1_ok]) (by simp [c6_ok, c2_ok, c0_ok]) : KcOk Tryz.prog (xenvK pfc tpc glc [c5, c4, c3, c1] [c6, c2, c0]))
theorem c7_run : chkK Tryz.prog Ec7 glc 100000 c7 = true := by kernel_rfl
theorem c7_ok : KeOk Tryz.prog glc c7 := chkK_ok mixed tpc_ok Ec7_ok c7_run
/-- A call of huddle/huddleref16.Next: 2913 operations. -/
def c8 : KF :=
  ⟨53, [.agg [.rsl 14 0 6, .rsl 1633 0 3, .rsl 1636 0 3, .rsl 1639 0 3, .rsl 1653 0 3], ti 0, ti 0], [1651, 1647, 1642, 1653, 1623, 859, 1639, 1636, 1323, 981, 575, 380, 95, 1633, 14], [(1651, some ⟨4, [tb true, tb true, tb false], none⟩),
  (1647, some ⟨4, [tb true, tb false, tb false], none⟩),
  (1642, some ⟨4, [tb false, tb false, tb false], none⟩),
  (1653, some ⟨203, [.rsl 1642 0 3, .rsl 1647 0 3, .rsl 1651 0 3], none⟩),
  (1623, some ⟨3, [ti 1], none⟩),
  (859, some ⟨3, [ti 0], none⟩),
  (1639, some ⟨22, [tz, .rsl 859 0 1, .rsl 1623 0 1], none⟩),
  (1636, some ⟨36, [ti 1, ti 1, tu 2121501834213576595, ti 1, ti 2, tu 1178938091502474893, ti 1, ti 3, tu 1030493698523647063], none⟩),
  (1323, some ⟨184, [tu 1020, tz, tu 1021, tz, tu 1022, tz], none⟩),
  (981, some ⟨36, [ti 1, ti 2, tu 1178938091502474893], none⟩),
  (575, some ⟨184, [tu 1010, tz, tu 1011, tz], none⟩),
  (380, some ⟨36, [ti 1, ti 1, tu 2121501834213576595], none⟩),
  (95, some ⟨184, [tu 1000, tz], none⟩),
  (1633, some ⟨88, [ti 1, ti 1, ti 1, ti 0, tz, ti 0, ti 0, ti 0, ti 0, .rsl 95 0 1, ti 0, ti 0, tu 0, ti 0, tz, tz, ti 0, ti 0, tu 0, tz, ti 0, ti 0, tz, tu 0, tz, tu 1695899507400157853, tu 644682306613698331, ti 1, ti 2, ti 2, ti 0, .rsl 380 0 1, ti 2, ti 0, ti 0, ti 3, .rsl 575 0 2, ti 0, ti 0, tu 0, ti 0, tz, tz, ti 0, ti 0, tu 0, tz, ti 0, ti 0, tz, tu 0, tz, tu 1479892474240941217, tu 404158722206669652, ti 1, ti 3, ti 2, ti 0, .rsl 981 0 1, ti 3, ti 0, ti 0, ti 3, .rsl 1323 0 3, ti 0, ti 0, tu 0, ti 0, tz, tz, ti 0, ti 0, tu 0, tz, ti 0, ti 0, tz, tu 0, tz, tu 1976084756027819395, tu 1216949111420244005], none⟩),
  (14, some ⟨131, [ti 1, ti 1, tu 1858807316446646070, tu 2294458496254976924, tu 1058522930688824048, ti 2, ti 2, tu 1810974450540283748, tu 732551293757751401, tu 86482453431610406, ti 3, ti 3, tu 490180086995058983, tu 1441871927598236410, tu 1783630545573332436, ti 4, ti 1, tu 1953319703317080786, tu 881125215762738857, tu 1828901513722737251, ti 5, ti 2, tu 603255930034390424, tu 1128020181934541352, tu 1855458293155442097, ti 6, ti 3, tu 681465322610182208, tu 1458595129815633359, tu 1877287273825605593], none⟩)], 1655, .agg [ti 1, ti 4, ti 2, ti 0, .rsl 1801 0 1, ti 4, ti 0, ti 0, ti 3, tz, ti 0, ti 0, tu 0, ti 0, tz, tz, ti 0, ti 0, tu 0, tz, ti 0, ti 0, tz, tu 0, tz, tu 0, tu 0], [(1801, some ⟨36, [ti 1, ti 3, tu 1030493698523647063], none⟩)], 1810⟩
noncomputable def Ec8 : XEnv := { xenvK pfc tpc glc [c7, c5, c4, c3, c1] [c6, c2, c0] with pc := pcT }
theorem Ec8_ok : KcOk Tryz.prog Ec8 := (xenvK_ok (by simp [c7_ok, c5_ok, c4_ok, c3_ok, c1_ok]) (by simp [c6_ok, c2_ok, c0_ok]) : KcOk Tryz.prog (xenvK pfc tpc glc [c7, c5, c4, c3, c1] [c6, c2, c0]))
theorem c8_run : chkF Tryz.prog Ec8 glc 100000 c8 = true := by kernel_rfl
theorem c8_ok : KfOk Tryz.prog glc c8 := chkF_ok mixed tpc_ok Ec8_ok c8_run
/-- A call of huddle/huddleref16.decided: 3117 operations. -/
def c9 : KF :=
  ⟨222, [.agg [.rsl 14 0 6, .rsl 1633 0 3, .rsl 1636 0 3, .rsl 1639 0 3, .rsl 1653 0 3], .rsl 1859 0 3], [1859, 1651, 1647, 1642, 1653, 1623, 859, 1639, 1636, 1323, 981, 575, 380, 95, 1633, 14], [(1859, some ⟨36, [ti 1, ti 1, tu 2121501834213576595, ti 1, ti 2, tu 1178938091502474893, ti 1, ti 3, tu 1030493698523647063], none⟩),
  (1651, some ⟨4, [tb true, tb true, tb false], none⟩),
  (1647, some ⟨4, [tb true, tb false, tb false], none⟩),
  (1642, some ⟨4, [tb false, tb false, tb false], none⟩),
  (1653, some ⟨203, [.rsl 1642 0 3, .rsl 1647 0 3, .rsl 1651 0 3], none⟩),
  (1623, some ⟨3, [ti 1], none⟩),
  (859, some ⟨3, [ti 0], none⟩),
  (1639, some ⟨22, [tz, .rsl 859 0 1, .rsl 1623 0 1], none⟩),
  (1636, some ⟨36, [ti 1, ti 1, tu 2121501834213576595, ti 1, ti 2, tu 1178938091502474893, ti 1, ti 3, tu 1030493698523647063], none⟩),
  (1323, some ⟨184, [tu 1020, tz, tu 1021, tz, tu 1022, tz], none⟩),
  (981, some ⟨36, [ti 1, ti 2, tu 1178938091502474893], none⟩),
  (575, some ⟨184, [tu 1010, tz, tu 1011, tz], none⟩),
  (380, some ⟨36, [ti 1, ti 1, tu 2121501834213576595], none⟩),
  (95, some ⟨184, [tu 1000, tz], none⟩),
  (1633, some ⟨88, [ti 1, ti 1, ti 1, ti 0, tz, ti 0, ti 0, ti 0, ti 0, .rsl 95 0 1, ti 0, ti 0, tu 0, ti 0, tz, tz, ti 0, ti 0, tu 0, tz, ti 0, ti 0, tz, tu 0, tz, tu 1695899507400157853, tu 644682306613698331, ti 1, ti 2, ti 2, ti 0, .rsl 380 0 1, ti 2, ti 0, ti 0, ti 3, .rsl 575 0 2, ti 0, ti 0, tu 0, ti 0, tz, tz, ti 0, ti 0, tu 0, tz, ti 0, ti 0, tz, tu 0, tz, tu 1479892474240941217, tu 404158722206669652, ti 1, ti 3, ti 2, ti 0, .rsl 981 0 1, ti 3, ti 0, ti 0, ti 3, .rsl 1323 0 3, ti 0, ti 0, tu 0, ti 0, tz, tz, ti 0, ti 0, tu 0, tz, ti 0, ti 0, tz, tu 0, tz, tu 1976084756027819395, tu 1216949111420244005], none⟩),
  (14, some ⟨131, [ti 1, ti 1, tu 1858807316446646070, tu 2294458496254976924, tu 1058522930688824048, ti 2, ti 2, tu 1810974450540283748, tu 732551293757751401, tu 86482453431610406, ti 3, ti 3, tu 490180086995058983, tu 1441871927598236410, tu 1783630545573332436, ti 4, ti 1, tu 1953319703317080786, tu 881125215762738857, tu 1828901513722737251, ti 5, ti 2, tu 603255930034390424, tu 1128020181934541352, tu 1855458293155442097, ti 6, ti 3, tu 681465322610182208, tu 1458595129815633359, tu 1877287273825605593], none⟩)], 1864, .agg [.rsl 1922 0 3, .rsl 1910 0 3, .rsl 1911 0 3, .rsl 1912 0 3], [(1912, some ⟨4, [tb false, tb false, tb false], none⟩),
  (1911, some ⟨4, [tb false, tb false, tb false], none⟩),
  (1910, some ⟨4, [tb false, tb false, tb false], none⟩),
  (1922, some ⟨3, [ti 0, ti 1, ti 2], none⟩)], 1997⟩
noncomputable def Ec9 : XEnv := { xenvK pfc tpc glc [c7, c5, c4, c3, c1] [c8, c6, c2, c0] with pc := pcT }
theorem Ec9_ok : KcOk Tryz.prog Ec9 := (xenvK_ok (by simp [c7_ok, c5_ok, c4_ok, c3_ok, c1_ok]) (by simp [c8_ok, c6_ok, c2_ok, c0_ok]) : KcOk Tryz.prog (xenvK pfc tpc glc [c7, c5, c4, c3, c1] [c8, c6, c2, c0]))
theorem c9_run : chkF Tryz.prog Ec9 glc 100000 c9 = true := by kernel_rfl
theorem c9_ok : KfOk Tryz.prog glc c9 := chkF_ok mixed tpc_ok Ec9_ok c9_run
end Go.Proofs.YtjbbgjbknfoddaaGreatDoor
