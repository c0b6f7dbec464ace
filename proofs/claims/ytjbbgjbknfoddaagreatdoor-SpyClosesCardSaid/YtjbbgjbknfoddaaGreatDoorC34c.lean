/- Calls in place, further. Printed by gencuts.py. -/
import Derived.Test.YtjbbgjbknfoddaaGreatDoorC34b
import Derived.KernelRfl
namespace Go.Proofs.YtjbbgjbknfoddaaGreatDoor
open Go.RowKit
set_option linter.unusedVariables false
set_option linter.unusedSimpArgs false
/-- A call of huddle/huddleref16.Roll: 2435 operations. -/
def c10 : KE :=
  ⟨124, [.agg [.rsl 14 0 6, .rsl 1633 0 3, .rsl 1636 0 3, .rsl 1639 0 3, .rsl 1653 0 3], .rsl 1859 0 3], [(1859, some ⟨36, [ti 1, ti 1, tu 2121501834213576595, ti 1, ti 2, tu 1178938091502474893, ti 1, ti 3, tu 1030493698523647063], none⟩),
  (1816, some ⟨88, [ti 1, ti 4, ti 2, ti 0, .rsl 1801 0 1, ti 4, ti 0, ti 0, ti 3, tz, ti 0, ti 0, tu 0, ti 0, tz, tz, ti 0, ti 0, tu 0, tz, ti 0, ti 0, tz, tu 0, tz, tu 0, tu 0], none⟩),
  (1815, some ⟨63, [.rsl 14 0 6, .rsl 1633 0 3, .rsl 1636 0 3, .rsl 1639 0 3, .rsl 1653 0 3], none⟩),
  (1814, some ⟨88, [ti 1, ti 4, ti 2, ti 0, .rsl 1801 0 1, ti 4, ti 0, ti 0, ti 3, tz, ti 0, ti 0, tu 0, ti 0, tz, tz, ti 0, ti 0, tu 0, tz, ti 0, ti 0, tz, tu 0, tz, tu 0, tu 0], none⟩),
  (1813, some ⟨63, [.rsl 14 0 6, .rsl 1633 0 3, .rsl 1636 0 3, .rsl 1639 0 3, .rsl 1653 0 3], none⟩),
  (1812, some ⟨88, [ti 0, ti 0, ti 0, ti 0, tz, ti 0, ti 0, ti 0, ti 0, tz, ti 0, ti 0, tu 0, ti 0, tz, tz, ti 0, ti 0, tu 0, tz, ti 0, ti 0, tz, tu 0, tz, tu 0, tu 0], none⟩),
  (1811, some ⟨88, [ti 1, ti 4, ti 2, ti 0, .rsl 1801 0 1, ti 4, ti 0, ti 0, ti 3, tz, ti 0, ti 0, tu 0, ti 0, tz, tz, ti 0, ti 0, tu 0, tz, ti 0, ti 0, tz, tu 0, tz, tu 0, tu 0], none⟩),
  (1810, some ⟨63, [.rsl 14 0 6, .rsl 1633 0 3, .rsl 1636 0 3, .rsl 1639 0 3, .rsl 1653 0 3], none⟩),
  (1801, some ⟨36, [ti 1, ti 3, tu 1030493698523647063], none⟩),
  (1651, some ⟨4, [tb true, tb true, tb false], none⟩),
  (1647, some ⟨4, [tb true, tb false, tb false], none⟩),
  (1642, some ⟨4, [tb false, tb false, tb false], none⟩),
  (1653, some ⟨203, [.rsl 1642 0 3, .rsl 1647 0 3, .rsl 1651 0 3], none⟩),
  (1623, some ⟨3, [ti 1], none⟩),
  (859, some ⟨3, [ti 0], none⟩),
  (1639, some ⟨22, [tz, .rsl 859 0 1, .rsl 1623 0 1], none⟩),
  (1636, some ⟨36, [ti 1, ti 1, tu 2121501834213576595, ti 1, ti 2, tu 1178938091502474893, ti 1, ti 3, tu 1030493698523647063], none⟩),
  (1323, some ⟨184, [tu 1020, tz, tu 1021, tz, tu 1022, tz], none⟩),
  (981, some ⟨36, [ti 1, ti 2, tu 1178938091502474893], none⟩),
  (575, some ⟨184, [tu 1010, tz, tu 1011, tz], none⟩),
  (380, some ⟨36, [ti 1, ti 1, tu 2121501834213576595], none⟩),
  (95, some ⟨184, [tu 1000, tz], none⟩),
  (1633, some ⟨88, [ti 1, ti 1, ti 1, ti 0, tz, ti 0, ti 0, ti 0, ti 0, .rsl 95 0 1, ti 0, ti 0, tu 0, ti 0, tz, tz, ti 0, ti 0, tu 0, tz, ti 0, ti 0, tz, tu 0, tz, tu 1695899507400157853, tu 644682306613698331, ti 1, ti 2, ti 2, ti 0, .rsl 380 0 1, ti 2, ti 0, ti 0, ti 3, .rsl 575 0 2, ti 0, ti 0, tu 0, ti 0, tz, tz, ti 0, ti 0, tu 0, tz, ti 0, ti 0, tz, tu 0, tz, tu 1479892474240941217, tu 404158722206669652, ti 1, ti 3, ti 2, ti 0, .rsl 981 0 1, ti 3, ti 0, ti 0, ti 3, .rsl 1323 0 3, ti 0, ti 0, tu 0, ti 0, tz, tz, ti 0, ti 0, tu 0, tz, ti 0, ti 0, tz, tu 0, tz, tu 1976084756027819395, tu 1216949111420244005], none⟩),
  (14, some ⟨131, [ti 1, ti 1, tu 1858807316446646070, tu 2294458496254976924, tu 1058522930688824048, ti 2, ti 2, tu 1810974450540283748, tu 732551293757751401, tu 86482453431610406, ti 3, ti 3, tu 490180086995058983, tu 1441871927598236410, tu 1783630545573332436, ti 4, ti 1, tu 1953319703317080786, tu 881125215762738857, tu 1828901513722737251, ti 5, ti 2, tu 603255930034390424, tu 1128020181934541352, tu 1855458293155442097, ti 6, ti 3, tu 681465322610182208, tu 1458595129815633359, tu 1877287273825605593], none⟩)], 1860, [(.agg [.rsl 14 0 6, .rsl 2161 0 3, tz, .rsl 2167 0 3, ti 0, tz], [(2167, some ⟨378, [ti 1, ti 3, tb false, ti 0, ti 0, tu 0, tz, ti 0, ti 0, tb false, ti 0, ti 2, ti 3, tb false, ti 0, ti 0, tu 0, tz, ti 0, ti 0, tb false, ti 0, ti 3, ti 3, tb false, ti 0, ti 0, tu 0, tz, ti 0, ti 0, tb false, ti 0], none⟩),
  (2161, some ⟨3, [ti 1, ti 2, ti 3], none⟩),
  (1859, some ⟨36, [ti 1, ti 1, tu 2121501834213576595, ti 1, ti 2, tu 1178938091502474893, ti 1, ti 3, tu 1030493698523647063], none⟩),
  (1816, some ⟨88, [ti 1, ti 4, ti 2, ti 0, .rsl 1801 0 1, ti 4, ti 0, ti 0, ti 3, tz, ti 0, ti 0, tu 0, ti 0, tz, tz, ti 0, ti 0, tu 0, tz, ti 0, ti 0, tz, tu 0, tz, tu 0, tu 0], none⟩),
  (1815, some ⟨63, [.rsl 14 0 6, .rsl 1633 0 3, .rsl 1636 0 3, .rsl 1639 0 3, .rsl 1653 0 3], none⟩),
  (1814, some ⟨88, [ti 1, ti 4, ti 2, ti 0, .rsl 1801 0 1, ti 4, ti 0, ti 0, ti 3, tz, ti 0, ti 0, tu 0, ti 0, tz, tz, ti 0, ti 0, tu 0, tz, ti 0, ti 0, tz, tu 0, tz, tu 0, tu 0], none⟩),
  (1813, some ⟨63, [.rsl 14 0 6, .rsl 1633 0 3, .rsl 1636 0 3, .rsl 1639 0 3, .rsl 1653 0 3], none⟩),
  (1812, some ⟨88, [ti 0, ti 0, ti 0, ti 0, tz, ti 0, ti 0, ti 0, ti 0, tz, ti 0, ti 0, tu 0, ti 0, tz, tz, ti 0, ti 0, tu 0, tz, ti 0, ti 0, tz, tu 0, tz, tu 0, tu 0], none⟩),
  (1811, some ⟨88, [ti 1, ti 4, ti 2, ti 0, .rsl 1801 0 1, ti 4, ti 0, ti 0, ti 3, tz, ti 0, ti 0, tu 0, ti 0, tz, tz, ti 0, ti 0, tu 0, tz, ti 0, ti 0, tz, tu 0, tz, tu 0, tu 0], none⟩),
  (1810, some ⟨63, [.rsl 14 0 6, .rsl 1633 0 3, .rsl 1636 0 3, .rsl 1639 0 3, .rsl 1653 0 3], none⟩),
  (1801, some ⟨36, [ti 1, ti 3, tu 1030493698523647063], none⟩),
  (1651, some ⟨4, [tb true, tb true, tb false], none⟩),
  (1647, some ⟨4, [tb true, tb false, tb false], none⟩),
  (1642, some ⟨4, [tb false, tb false, tb false], none⟩),
  (1653, some ⟨203, [.rsl 1642 0 3, .rsl 1647 0 3, .rsl 1651 0 3], none⟩),
  (1623, some ⟨3, [ti 1], none⟩),
  (859, some ⟨3, [ti 0], none⟩),
  (1639, some ⟨22, [tz, .rsl 859 0 1, .rsl 1623 0 1], none⟩),
  (1636, some ⟨36, [ti 1, ti 1, tu 2121501834213576595, ti 1, ti 2, tu 1178938091502474893, ti 1, ti 3, tu 1030493698523647063], none⟩),
  (1323, some ⟨184, [tu 1020, tz, tu 1021, tz, tu 1022, tz], none⟩),
  (981, some ⟨36, [ti 1, ti 2, tu 1178938091502474893], none⟩),
  (575, some ⟨184, [tu 1010, tz, tu 1011, tz], none⟩),
  (380, some ⟨36, [ti 1, ti 1, tu 2121501834213576595], none⟩),
  (95, some ⟨184, [tu 1000, tz], none⟩),
  (1633, some ⟨88, [ti 1, ti 1, ti 1, ti 0, tz, ti 0, ti 0, ti 0, ti 0, .rsl 95 0 1, ti 0, ti 0, tu 0, ti 0, tz, tz, ti 0, ti 0, tu 0, tz, ti 0, ti 0, tz, tu 0, tz, tu 1695899507400157853, tu 644682306613698331, ti 1, ti 2, ti 2, ti 0, .rsl 380 0 1, ti 2, ti 0, ti 0, ti 3, .rsl 575 0 2, ti 0, ti 0, tu 0, ti 0, tz, tz, ti 0, ti 0, tu 0, tz, ti 0, ti 0, tz, tu 0, tz, tu 1479892474240941217, tu 404158722206669652, ti 1, ti 3, ti 2, ti 0, .rsl 981 0 1, ti 3, ti 0, ti 0, ti 3, .rsl 1323 0 3, ti 0, ti 0, tu 0, ti 0, tz, tz, ti 0, ti 0, tu 0, tz, ti 0, ti 0, tz, tu 0, tz, tu 1976084756027819395, tu 1216949111420244005], none⟩),
  (14, some ⟨131, [ti 1, ti 1, tu 1858807316446646070, tu 2294458496254976924, tu 1058522930688824048, ti 2, ti 2, tu 1810974450540283748, tu 732551293757751401, tu 86482453431610406, ti 3, ti 3, tu 490180086995058983, tu 1441871927598236410, tu 1783630545573332436, ti 4, ti 1, tu 1953319703317080786, tu 881125215762738857, tu 1828901513722737251, ti 5, ti 2, tu 603255930034390424, tu 1128020181934541352, tu 1855458293155442097, ti 6, ti 3, tu 681465322610182208, tu 1458595129815633359, tu 1877287273825605593], none⟩)], 2168, 1860)]⟩
noncomputable def Ec10 : XEnv := { xenvK pfc tpc glc [c7, c5, c4, c3, c1] [c9, c8, c6, c2, c0] with pc := pcT }
theorem Ec10_ok : KcOk Tryz.prog Ec10 := (xenvK_ok (by simp [c7_ok, c5_ok, c4_ok, c3_ok, c1_ok]) (by simp [c9_ok, c8_ok, c6_ok, c2_ok, c0_ok]) : KcOk Tryz.prog (xenvK pfc tpc glc [c7, c5, c4, c3, c1] [c9, c8, c6, c2, c0]))
theorem c10_run : chkK Tryz.prog Ec10 glc 100000 c10 = true := by kernel_rfl
theorem c10_ok : KeOk Tryz.prog glc c10 := chkK_ok mixed tpc_ok Ec10_ok c10_run
/-- A call of huddle/huddleref19.After: 3288 operations. -/
def c11 : KE :=
  ⟨213, [.agg [.rsl 14 0 6, .rsl 1633 0 3, .rsl 1636 0 3, .rsl 1639 0 3, .rsl 1653 0 3], .agg [ti 1, ti 4, ti 2, ti 0, .rsl 1801 0 1, ti 4, ti 0, ti 0, ti 3, tz, ti 0, ti 0, tu 0, ti 0, tz, tz, ti 0, ti 0, tu 0, tz, ti 0, ti 0, tz, tu 0, tz, tu 0, tu 0]], [(1814, some ⟨88, [ti 1, ti 4, ti 2, ti 0, .rsl 1801 0 1, ti 4, ti 0, ti 0, ti 3, tz, ti 0, ti 0, tu 0, ti 0, tz, tz, ti 0, ti 0, tu 0, tz, ti 0, ti 0, tz, tu 0, tz, tu 0, tu 0], none⟩),
  (1813, some ⟨63, [.rsl 14 0 6, .rsl 1633 0 3, .rsl 1636 0 3, .rsl 1639 0 3, .rsl 1653 0 3], none⟩),
  (1812, some ⟨88, [ti 0, ti 0, ti 0, ti 0, tz, ti 0, ti 0, ti 0, ti 0, tz, ti 0, ti 0, tu 0, ti 0, tz, tz, ti 0, ti 0, tu 0, tz, ti 0, ti 0, tz, tu 0, tz, tu 0, tu 0], none⟩),
  (1811, some ⟨88, [ti 1, ti 4, ti 2, ti 0, .rsl 1801 0 1, ti 4, ti 0, ti 0, ti 3, tz, ti 0, ti 0, tu 0, ti 0, tz, tz, ti 0, ti 0, tu 0, tz, ti 0, ti 0, tz, tu 0, tz, tu 0, tu 0], none⟩),
  (1810, some ⟨63, [.rsl 14 0 6, .rsl 1633 0 3, .rsl 1636 0 3, .rsl 1639 0 3, .rsl 1653 0 3], none⟩),
  (1801, some ⟨36, [ti 1, ti 3, tu 1030493698523647063], none⟩),
  (1651, some ⟨4, [tb true, tb true, tb false], none⟩),
  (1647, some ⟨4, [tb true, tb false, tb false], none⟩),
  (1642, some ⟨4, [tb false, tb false, tb false], none⟩),
  (1653, some ⟨203, [.rsl 1642 0 3, .rsl 1647 0 3, .rsl 1651 0 3], none⟩),
  (1623, some ⟨3, [ti 1], none⟩),
  (859, some ⟨3, [ti 0], none⟩),
  (1639, some ⟨22, [tz, .rsl 859 0 1, .rsl 1623 0 1], none⟩),
  (1636, some ⟨36, [ti 1, ti 1, tu 2121501834213576595, ti 1, ti 2, tu 1178938091502474893, ti 1, ti 3, tu 1030493698523647063], none⟩),
  (1323, some ⟨184, [tu 1020, tz, tu 1021, tz, tu 1022, tz], none⟩),
  (981, some ⟨36, [ti 1, ti 2, tu 1178938091502474893], none⟩),
  (575, some ⟨184, [tu 1010, tz, tu 1011, tz], none⟩),
  (380, some ⟨36, [ti 1, ti 1, tu 2121501834213576595], none⟩),
  (95, some ⟨184, [tu 1000, tz], none⟩),
  (1633, some ⟨88, [ti 1, ti 1, ti 1, ti 0, tz, ti 0, ti 0, ti 0, ti 0, .rsl 95 0 1, ti 0, ti 0, tu 0, ti 0, tz, tz, ti 0, ti 0, tu 0, tz, ti 0, ti 0, tz, tu 0, tz, tu 1695899507400157853, tu 644682306613698331, ti 1, ti 2, ti 2, ti 0, .rsl 380 0 1, ti 2, ti 0, ti 0, ti 3, .rsl 575 0 2, ti 0, ti 0, tu 0, ti 0, tz, tz, ti 0, ti 0, tu 0, tz, ti 0, ti 0, tz, tu 0, tz, tu 1479892474240941217, tu 404158722206669652, ti 1, ti 3, ti 2, ti 0, .rsl 981 0 1, ti 3, ti 0, ti 0, ti 3, .rsl 1323 0 3, ti 0, ti 0, tu 0, ti 0, tz, tz, ti 0, ti 0, tu 0, tz, ti 0, ti 0, tz, tu 0, tz, tu 1976084756027819395, tu 1216949111420244005], none⟩),
  (14, some ⟨131, [ti 1, ti 1, tu 1858807316446646070, tu 2294458496254976924, tu 1058522930688824048, ti 2, ti 2, tu 1810974450540283748, tu 732551293757751401, tu 86482453431610406, ti 3, ti 3, tu 490180086995058983, tu 1441871927598236410, tu 1783630545573332436, ti 4, ti 1, tu 1953319703317080786, tu 881125215762738857, tu 1828901513722737251, ti 5, ti 2, tu 603255930034390424, tu 1128020181934541352, tu 1855458293155442097, ti 6, ti 3, tu 681465322610182208, tu 1458595129815633359, tu 1877287273825605593], none⟩)], 1815, [(.rsl 2283 0 4, [(2283, some ⟨3, [ti 1, ti 2, ti 3, ti 4], none⟩),
  (1814, some ⟨88, [ti 1, ti 4, ti 2, ti 0, .rsl 1801 0 1, ti 4, ti 0, ti 0, ti 3, tz, ti 0, ti 0, tu 0, ti 0, tz, tz, ti 0, ti 0, tu 0, tz, ti 0, ti 0, tz, tu 0, tz, tu 0, tu 0], none⟩),
  (1813, some ⟨63, [.rsl 14 0 6, .rsl 1633 0 3, .rsl 1636 0 3, .rsl 1639 0 3, .rsl 1653 0 3], none⟩),
  (1812, some ⟨88, [ti 0, ti 0, ti 0, ti 0, tz, ti 0, ti 0, ti 0, ti 0, tz, ti 0, ti 0, tu 0, ti 0, tz, tz, ti 0, ti 0, tu 0, tz, ti 0, ti 0, tz, tu 0, tz, tu 0, tu 0], none⟩),
  (1811, some ⟨88, [ti 1, ti 4, ti 2, ti 0, .rsl 1801 0 1, ti 4, ti 0, ti 0, ti 3, tz, ti 0, ti 0, tu 0, ti 0, tz, tz, ti 0, ti 0, tu 0, tz, ti 0, ti 0, tz, tu 0, tz, tu 0, tu 0], none⟩),
  (1810, some ⟨63, [.rsl 14 0 6, .rsl 1633 0 3, .rsl 1636 0 3, .rsl 1639 0 3, .rsl 1653 0 3], none⟩),
  (1801, some ⟨36, [ti 1, ti 3, tu 1030493698523647063], none⟩),
  (1651, some ⟨4, [tb true, tb true, tb false], none⟩),
  (1647, some ⟨4, [tb true, tb false, tb false], none⟩),
  (1642, some ⟨4, [tb false, tb false, tb false], none⟩),
  (1653, some ⟨203, [.rsl 1642 0 3, .rsl 1647 0 3, .rsl 1651 0 3], none⟩),
  (1623, some ⟨3, [ti 1], none⟩),
  (859, some ⟨3, [ti 0], none⟩),
  (1639, some ⟨22, [tz, .rsl 859 0 1, .rsl 1623 0 1], none⟩),
  (1636, some ⟨36, [ti 1, ti 1, tu 2121501834213576595, ti 1, ti 2, tu 1178938091502474893, ti 1, ti 3, tu 1030493698523647063], none⟩),
  (1323, some ⟨184, [tu 1020, tz, tu 1021, tz, tu 1022, tz], none⟩),
  (981, some ⟨36, [ti 1, ti 2, tu 1178938091502474893], none⟩),
  (575, some ⟨184, [tu 1010, tz, tu 1011, tz], none⟩),
  (380, some ⟨36, [ti 1, ti 1, tu 2121501834213576595], none⟩),
  (95, some ⟨184, [tu 1000, tz], none⟩),
  (1633, some ⟨88, [ti 1, ti 1, ti 1, ti 0, tz, ti 0, ti 0, ti 0, ti 0, .rsl 95 0 1, ti 0, ti 0, tu 0, ti 0, tz, tz, ti 0, ti 0, tu 0, tz, ti 0, ti 0, tz, tu 0, tz, tu 1695899507400157853, tu 644682306613698331, ti 1, ti 2, ti 2, ti 0, .rsl 380 0 1, ti 2, ti 0, ti 0, ti 3, .rsl 575 0 2, ti 0, ti 0, tu 0, ti 0, tz, tz, ti 0, ti 0, tu 0, tz, ti 0, ti 0, tz, tu 0, tz, tu 1479892474240941217, tu 404158722206669652, ti 1, ti 3, ti 2, ti 0, .rsl 981 0 1, ti 3, ti 0, ti 0, ti 3, .rsl 1323 0 3, ti 0, ti 0, tu 0, ti 0, tz, tz, ti 0, ti 0, tu 0, tz, ti 0, ti 0, tz, tu 0, tz, tu 1976084756027819395, tu 1216949111420244005], none⟩),
  (14, some ⟨131, [ti 1, ti 1, tu 1858807316446646070, tu 2294458496254976924, tu 1058522930688824048, ti 2, ti 2, tu 1810974450540283748, tu 732551293757751401, tu 86482453431610406, ti 3, ti 3, tu 490180086995058983, tu 1441871927598236410, tu 1783630545573332436, ti 4, ti 1, tu 1953319703317080786, tu 881125215762738857, tu 1828901513722737251, ti 5, ti 2, tu 603255930034390424, tu 1128020181934541352, tu 1855458293155442097, ti 6, ti 3, tu 681465322610182208, tu 1458595129815633359, tu 1877287273825605593], none⟩)], 2284, 1815)]⟩
noncomputable def Ec11 : XEnv := { xenvK pfc tpc glc [c10, c7, c5, c4, c3, c1] [c9, c8, c6, c2, c0] with pc := pcT }
theorem Ec11_ok : KcOk Tryz.prog Ec11 := (xenvK_ok (by simp [c10_ok, c7_ok, c5_ok, c4_ok, c3_ok, c1_ok]) (by simp [c9_ok, c8_ok, c6_ok, c2_ok, c0_ok]) : KcOk Tryz.prog (xenvK pfc tpc glc [c10, c7, c5, c4, c3, c1] [c9, c8, c6, c2, c0]))
theorem c11_run : chkK Tryz.prog Ec11 glc 100000 c11 = true := by kernel_rfl
theorem c11_ok : KeOk Tryz.prog glc c11 := chkK_ok mixed tpc_ok Ec11_ok c11_run
/-- A call of huddle/huddleref11.Signed: 2557 operations. -/
def c12 : KF :=
  ⟨58, [.agg [ti 1, ti 4, ti 2, ti 0, .rsl 1801 0 1, ti 4, ti 0, ti 0, ti 3, .rsl 2308 0 3, ti 0, ti 0, tu 0, ti 0, tz, tz, ti 0, ti 0, tu 0, tz, ti 0, ti 0, tz, tu 0, tz, tu 0, tu 0]], [2308, 1801], [(2308, some ⟨184, [tu 1030, tz, tu 1031, tz, tu 1032, tz], none⟩),
  (1801, some ⟨36, [ti 1, ti 3, tu 1030493698523647063], none⟩)], 2310, .agg [ti 1, ti 4, ti 2, ti 0, .rsl 1801 0 1, ti 4, ti 0, ti 0, ti 3, .rsl 2308 0 3, ti 0, ti 0, tu 0, ti 0, tz, tz, ti 0, ti 0, tu 0, tz, ti 0, ti 0, tz, tu 0, tz, tu 557930940679962174, tu 857061758059851171], [], 2451⟩
noncomputable def Ec12 : XEnv := { xenvK pfc tpc glc [c11, c10, c7, c5, c4, c3, c1] [c9, c8, c6, c2, c0] with pc := pcT }
theorem Ec12_ok : KcOk Tryz.prog Ec12 := (xenvK_ok (by simp [c11_ok, c10_ok, c7_ok, c5_ok, c4_ok, c3_ok, c1_ok]) (by simp [c9_ok, c8_ok, c6_ok, c2_ok, c0_ok]) : KcOk Tryz.prog (xenvK pfc tpc glc [c11, c10, c7, c5, c4, c3, c1] [c9, c8, c6, c2, c0]))
theorem c12_run : chkF Tryz.prog Ec12 glc 100000 c12 = true := by kernel_rfl
theorem c12_ok : KfOk Tryz.prog glc c12 := chkF_ok mixed tpc_ok Ec12_ok c12_run
/-- A call of huddle/huddleref12.Wrong: 2595 operations. -/
def c13 : KE :=
  ⟨127, [.agg [.rsl 14 0 6, .rsl 1633 0 3, .rsl 1636 0 3, .rsl 1639 0 3, .rsl 1653 0 3], .agg [ti 1, ti 4, ti 2, ti 0, .rsl 1801 0 1, ti 4, ti 0, ti 0, ti 3, .rsl 2308 0 3, ti 0, ti 0, tu 0, ti 0, tz, tz, ti 0, ti 0, tu 0, tz, ti 0, ti 0, tz, tu 0, tz, tu 557930940679962174, tu 857061758059851171]], [(2453, some ⟨63, [tz, tz, tz, tz, tz], none⟩),
  (2452, some ⟨88, [ti 1, ti 4, ti 2, ti 0, .rsl 1801 0 1, ti 4, ti 0, ti 0, ti 3, .rsl 2308 0 3, ti 0, ti 0, tu 0, ti 0, tz, tz, ti 0, ti 0, tu 0, tz, ti 0, ti 0, tz, tu 0, tz, tu 557930940679962174, tu 857061758059851171], none⟩),
  (2451, some ⟨63, [.rsl 14 0 6, .rsl 1633 0 3, .rsl 1636 0 3, .rsl 1639 0 3, .rsl 1653 0 3], none⟩),
  (2308, some ⟨184, [tu 1030, tz, tu 1031, tz, tu 1032, tz], none⟩),
  (1801, some ⟨36, [ti 1, ti 3, tu 1030493698523647063], none⟩),
  (1651, some ⟨4, [tb true, tb true, tb false], none⟩),
  (1647, some ⟨4, [tb true, tb false, tb false], none⟩),
  (1642, some ⟨4, [tb false, tb false, tb false], none⟩),
  (1653, some ⟨203, [.rsl 1642 0 3, .rsl 1647 0 3, .rsl 1651 0 3], none⟩),
  (1623, some ⟨3, [ti 1], none⟩),
  (859, some ⟨3, [ti 0], none⟩),
  (1639, some ⟨22, [tz, .rsl 859 0 1, .rsl 1623 0 1], none⟩),
  (1636, some ⟨36, [ti 1, ti 1, tu 2121501834213576595, ti 1, ti 2, tu 1178938091502474893, ti 1, ti 3, tu 1030493698523647063], none⟩),
  (1323, some ⟨184, [tu 1020, tz, tu 1021, tz, tu 1022, tz], none⟩),
  (981, some ⟨36, [ti 1, ti 2, tu 1178938091502474893], none⟩),
  (575, some ⟨184, [tu 1010, tz, tu 1011, tz], none⟩),
  (380, some ⟨36, [ti 1, ti 1, tu 2121501834213576595], none⟩),
  (95, some ⟨184, [tu 1000, tz], none⟩),
  (1633, some ⟨88, [ti 1, ti 1, ti 1, ti 0, tz, ti 0, ti 0, ti 0, ti 0, .rsl 95 0 1, ti 0, ti 0, tu 0, ti 0, tz, tz, ti 0, ti 0, tu 0, tz, ti 0, ti 0, tz, tu 0, tz, tu 1695899507400157853, tu 644682306613698331, ti 1, ti 2, ti 2, ti 0, .rsl 380 0 1, ti 2, ti 0, ti 0, ti 3, .rsl 575 0 2, ti 0, ti 0, tu 0, ti 0, tz, tz, ti 0, ti 0, tu 0, tz, ti 0, ti 0, tz, tu 0, tz, tu 1479892474240941217, tu 404158722206669652, ti 1, ti 3, ti 2, ti 0, .rsl 981 0 1, ti 3, ti 0, ti 0, ti 3, .rsl 1323 0 3, ti 0, ti 0, tu 0, ti 0, tz, tz, ti 0, ti 0, tu 0, tz, ti 0, ti 0, tz, tu 0, tz, tu 1976084756027819395, tu 1216949111420244005], none⟩),
  (14, some ⟨131, [ti 1, ti 1, tu 1858807316446646070, tu 2294458496254976924, tu 1058522930688824048, ti 2, ti 2, tu 1810974450540283748, tu 732551293757751401, tu 86482453431610406, ti 3, ti 3, tu 490180086995058983, tu 1441871927598236410, tu 1783630545573332436, ti 4, ti 1, tu 1953319703317080786, tu 881125215762738857, tu 1828901513722737251, ti 5, ti 2, tu 603255930034390424, tu 1128020181934541352, tu 1855458293155442097, ti 6, ti 3, tu 681465322610182208, tu 1458595129815633359, tu 1877287273825605593], none⟩)], 2454, [(.tup [ti 0, .rsl 2608 0 1], [(2608, some ⟨3, [ti 2], none⟩),
  (2453, some ⟨63, [tz, tz, tz, tz, tz], none⟩),
  (2452, some ⟨88, [ti 1, ti 4, ti 2, ti 0, .rsl 1801 0 1, ti 4, ti 0, ti 0, ti 3, .rsl 2308 0 3, ti 0, ti 0, tu 0, ti 0, tz, tz, ti 0, ti 0, tu 0, tz, ti 0, ti 0, tz, tu 0, tz, tu 557930940679962174, tu 857061758059851171], none⟩),
  (2451, some ⟨63, [.rsl 14 0 6, .rsl 1633 0 3, .rsl 1636 0 3, .rsl 1639 0 3, .rsl 1653 0 3], none⟩),
  (2308, some ⟨184, [tu 1030, tz, tu 1031, tz, tu 1032, tz], none⟩),
  (1801, some ⟨36, [ti 1, ti 3, tu 1030493698523647063], none⟩),
  (1651, some ⟨4, [tb true, tb true, tb false], none⟩),
  (1647, some ⟨4, [tb true, tb false, tb false], none⟩),
  (1642, some ⟨4, [tb false, tb false, tb false], none⟩),
  (1653, some ⟨203, [.rsl 1642 0 3, .rsl 1647 0 3, .rsl 1651 0 3], none⟩),
  (1623, some ⟨3, [ti 1], none⟩),
  (859, some ⟨3, [ti 0], none⟩),
  (1639, some ⟨22, [tz, .rsl 859 0 1, .rsl 1623 0 1], none⟩),
  (1636, some ⟨36, [ti 1, ti 1, tu 2121501834213576595, ti 1, ti 2, tu 1178938091502474893, ti 1, ti 3, tu 1030493698523647063], none⟩),
  (1323, some ⟨184, [tu 1020, tz, tu 1021, tz, tu 1022, tz], none⟩),
  (981, some ⟨36, [ti 1, ti 2, tu 1178938091502474893], none⟩),
  (575, some ⟨184, [tu 1010, tz, tu 1011, tz], none⟩),
  (380, some ⟨36, [ti 1, ti 1, tu 2121501834213576595], none⟩),
  (95, some ⟨184, [tu 1000, tz], none⟩),
  (1633, some ⟨88, [ti 1, ti 1, ti 1, ti 0, tz, ti 0, ti 0, ti 0, ti 0, .rsl 95 0 1, ti 0, ti 0, tu 0, ti 0, tz, tz, ti 0, ti 0, tu 0, tz, ti 0, ti 0, tz, tu 0, tz, tu 1695899507400157853, tu 644682306613698331, ti 1, ti 2, ti 2, ti 0, .rsl 380 0 1, ti 2, ti 0, ti 0, ti 3, .rsl 575 0 2, ti 0, ti 0, tu 0, ti 0, tz, tz, ti 0, ti 0, tu 0, tz, ti 0, ti 0, tz, tu 0, tz, tu 1479892474240941217, tu 404158722206669652, ti 1, ti 3, ti 2, ti 0, .rsl 981 0 1, ti 3, ti 0, ti 0, ti 3, .rsl 1323 0 3, ti 0, ti 0, tu 0, ti 0, tz, tz, ti 0, ti 0, tu 0, tz, ti 0, ti 0, tz, tu 0, tz, tu 1976084756027819395, tu 1216949111420244005], none⟩),
  (14, some ⟨131, [ti 1, ti 1, tu 1858807316446646070, tu 2294458496254976924, tu 1058522930688824048, ti 2, ti 2, tu 1810974450540283748, tu 732551293757751401, tu 86482453431610406, ti 3, ti 3, tu 490180086995058983, tu 1441871927598236410, tu 1783630545573332436, ti 4, ti 1, tu 1953319703317080786, tu 881125215762738857, tu 1828901513722737251, ti 5, ti 2, tu 603255930034390424, tu 1128020181934541352, tu 1855458293155442097, ti 6, ti 3, tu 681465322610182208, tu 1458595129815633359, tu 1877287273825605593], none⟩)], 2613, 2454)]⟩
noncomputable def Ec13 : XEnv := { xenvK pfc tpc glc [c11, c10, c7, c5, c4, c3, c1] [c12, c9, c8, c6, c2, c0] with pc := pcT }
theorem Ec13_ok : KcOk Tryz.prog Ec13 := (xenvK_ok (by simp [c11_ok, c10_ok, c7_ok, c5_ok, c4_ok, c3_ok, c1_ok]) (by simp [c12_ok, c9_ok, c8_ok, c6_ok, c2_ok, c0_ok]) : KcOk Tryz.prog (xenvK pfc tpc glc [c11, c10, c7, c5, c4, c3, c1] [c12, c9, c8, c6, c2, c0]))
theorem c13_run : chkK Tryz.prog Ec13 glc 100000 c13 = true := by kernel_rfl
theorem c13_ok : KeOk Tryz.prog glc c13 := chkK_ok mixed tpc_ok Ec13_ok c13_run
end Go.Proofs.YtjbbgjbknfoddaaGreatDoor
