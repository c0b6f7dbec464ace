/- Calls in place, further. Printed by gencuts.py. -/
import Derived.Test.YtjbbgjbknfoddaaGreatDoorC34c
import Derived.KernelRfl
namespace Go.Proofs.YtjbbgjbknfoddaaGreatDoor
open Go.RowKit
set_option linter.unusedVariables false
set_option linter.unusedSimpArgs false
/-- A call of huddle/huddleref21.Made: 7835 operations. -/
def c14 : KE :=
  ⟨32, [tz, ti 12], [(0, some ⟨63, [tz, tz, tz, tz, tz], none⟩)], 1, [(.agg [.rsl 14 0 6, .rsl 2618 0 4, .rsl 2621 0 4, .rsl 2624 0 4, .rsl 2643 0 4], [(2641, some ⟨4, [tb true, tb true, tb true, tb false], none⟩),
  (2637, some ⟨4, [tb true, tb true, tb false, tb false], none⟩),
  (2632, some ⟨4, [tb true, tb false, tb false, tb false], none⟩),
  (2627, some ⟨4, [tb false, tb false, tb false, tb false], none⟩),
  (2643, some ⟨203, [.rsl 2627 0 4, .rsl 2632 0 4, .rsl 2637 0 4, .rsl 2641 0 4], none⟩),
  (2608, some ⟨3, [ti 2], none⟩),
  (1623, some ⟨3, [ti 1], none⟩),
  (859, some ⟨3, [ti 0], none⟩),
  (2624, some ⟨22, [tz, .rsl 859 0 1, .rsl 1623 0 1, .rsl 2608 0 1], none⟩),
  (2621, some ⟨36, [ti 1, ti 1, tu 2121501834213576595, ti 1, ti 2, tu 1178938091502474893, ti 1, ti 3, tu 1030493698523647063, ti 1, ti 4, tu 1114364670887373108], none⟩),
  (2308, some ⟨184, [tu 1030, tz, tu 1031, tz, tu 1032, tz], none⟩),
  (1801, some ⟨36, [ti 1, ti 3, tu 1030493698523647063], none⟩),
  (1323, some ⟨184, [tu 1020, tz, tu 1021, tz, tu 1022, tz], none⟩),
  (981, some ⟨36, [ti 1, ti 2, tu 1178938091502474893], none⟩),
  (575, some ⟨184, [tu 1010, tz, tu 1011, tz], none⟩),
  (380, some ⟨36, [ti 1, ti 1, tu 2121501834213576595], none⟩),
  (95, some ⟨184, [tu 1000, tz], none⟩),
  (2618, some ⟨88, [ti 1, ti 1, ti 1, ti 0, tz, ti 0, ti 0, ti 0, ti 0, .rsl 95 0 1, ti 0, ti 0, tu 0, ti 0, tz, tz, ti 0, ti 0, tu 0, tz, ti 0, ti 0, tz, tu 0, tz, tu 1695899507400157853, tu 644682306613698331, ti 1, ti 2, ti 2, ti 0, .rsl 380 0 1, ti 2, ti 0, ti 0, ti 3, .rsl 575 0 2, ti 0, ti 0, tu 0, ti 0, tz, tz, ti 0, ti 0, tu 0, tz, ti 0, ti 0, tz, tu 0, tz, tu 1479892474240941217, tu 404158722206669652, ti 1, ti 3, ti 2, ti 0, .rsl 981 0 1, ti 3, ti 0, ti 0, ti 3, .rsl 1323 0 3, ti 0, ti 0, tu 0, ti 0, tz, tz, ti 0, ti 0, tu 0, tz, ti 0, ti 0, tz, tu 0, tz, tu 1976084756027819395, tu 1216949111420244005, ti 1, ti 4, ti 2, ti 0, .rsl 1801 0 1, ti 4, ti 0, ti 0, ti 3, .rsl 2308 0 3, ti 0, ti 0, tu 0, ti 0, tz, tz, ti 0, ti 0, tu 0, tz, ti 0, ti 0, tz, tu 0, tz, tu 557930940679962174, tu 857061758059851171], none⟩),
  (14, some ⟨131, [ti 1, ti 1, tu 1858807316446646070, tu 2294458496254976924, tu 1058522930688824048, ti 2, ti 2, tu 1810974450540283748, tu 732551293757751401, tu 86482453431610406, ti 3, ti 3, tu 490180086995058983, tu 1441871927598236410, tu 1783630545573332436, ti 4, ti 1, tu 1953319703317080786, tu 881125215762738857, tu 1828901513722737251, ti 5, ti 2, tu 603255930034390424, tu 1128020181934541352, tu 1855458293155442097, ti 6, ti 3, tu 681465322610182208, tu 1458595129815633359, tu 1877287273825605593], none⟩),
  (0, some ⟨63, [tz, tz, tz, tz, tz], none⟩)], 2644, 1)]⟩
noncomputable def Ec14 : XEnv := { xenvK pfc tpc glc [c13, c11, c10, c7, c5, c4, c3, c1] [c12, c9, c8, c6, c2, c0] with pc := pcT }
theorem Ec14_ok : KcOk Tryz.prog Ec14 := (xenvK_ok (by simp [c13_ok, c11_ok, c10_ok, c7_ok, c5_ok, c4_ok, c3_ok, c1_ok]) (by simp [c12_ok, c9_ok, c8_ok, c6_ok, c2_ok, c0_ok]) : KcOk Tryz.prog (xenvK pfc tpc glc [c13, c11, c10, c7, c5, c4, c3, c1] [c12, c9, c8, c6, c2, c0]))
theorem c14_run : chkK Tryz.prog Ec14 glc 100000 c14 = true := by kernel_rfl
theorem c14_ok : KeOk Tryz.prog glc c14 := chkK_ok mixed tpc_ok Ec14_ok c14_run
/-- A call of (*huddle/graph.Graph).Add: 2747 operations. -/
def c15 : KE :=
  ⟨74, [.ref 2649 0, .agg [ti 1, ti 1, ti 1, ti 0, tz, ti 0, ti 0, ti 0, ti 0, .rsl 95 0 1, ti 0, ti 0, tu 0, ti 0, tz, tz, ti 0, ti 0, tu 0, tz, ti 0, ti 0, tz, tu 0, tz, tu 1695899507400157853, tu 644682306613698331]], [(2648, some ⟨156, [], some (.map [] 0)⟩),
  (2647, some ⟨131, [ti 1, ti 1, tu 1858807316446646070, tu 2294458496254976924, tu 1058522930688824048, ti 2, ti 2, tu 1810974450540283748, tu 732551293757751401, tu 86482453431610406, ti 3, ti 3, tu 490180086995058983, tu 1441871927598236410, tu 1783630545573332436, ti 4, ti 1, tu 1953319703317080786, tu 881125215762738857, tu 1828901513722737251, ti 5, ti 2, tu 603255930034390424, tu 1128020181934541352, tu 1855458293155442097, ti 6, ti 3, tu 681465322610182208, tu 1458595129815633359, tu 1877287273825605593], none⟩),
  (2649, some ⟨159, [.rsl 2647 0 6, .mref 2648, tz], none⟩),
  (2645, some ⟨63, [.rsl 14 0 6, .rsl 2618 0 4, .rsl 2621 0 4, .rsl 2624 0 4, .rsl 2643 0 4], none⟩),
  (2641, some ⟨4, [tb true, tb true, tb true, tb false], none⟩),
  (2637, some ⟨4, [tb true, tb true, tb false, tb false], none⟩),
  (2632, some ⟨4, [tb true, tb false, tb false, tb false], none⟩),
  (2627, some ⟨4, [tb false, tb false, tb false, tb false], none⟩),
  (2643, some ⟨203, [.rsl 2627 0 4, .rsl 2632 0 4, .rsl 2637 0 4, .rsl 2641 0 4], none⟩),
  (2608, some ⟨3, [ti 2], none⟩),
  (1623, some ⟨3, [ti 1], none⟩),
  (859, some ⟨3, [ti 0], none⟩),
  (2624, some ⟨22, [tz, .rsl 859 0 1, .rsl 1623 0 1, .rsl 2608 0 1], none⟩),
  (2621, some ⟨36, [ti 1, ti 1, tu 2121501834213576595, ti 1, ti 2, tu 1178938091502474893, ti 1, ti 3, tu 1030493698523647063, ti 1, ti 4, tu 1114364670887373108], none⟩),
  (2308, some ⟨184, [tu 1030, tz, tu 1031, tz, tu 1032, tz], none⟩),
  (1801, some ⟨36, [ti 1, ti 3, tu 1030493698523647063], none⟩),
  (1323, some ⟨184, [tu 1020, tz, tu 1021, tz, tu 1022, tz], none⟩),
  (981, some ⟨36, [ti 1, ti 2, tu 1178938091502474893], none⟩),
  (575, some ⟨184, [tu 1010, tz, tu 1011, tz], none⟩),
  (380, some ⟨36, [ti 1, ti 1, tu 2121501834213576595], none⟩),
  (95, some ⟨184, [tu 1000, tz], none⟩),
  (2618, some ⟨88, [ti 1, ti 1, ti 1, ti 0, tz, ti 0, ti 0, ti 0, ti 0, .rsl 95 0 1, ti 0, ti 0, tu 0, ti 0, tz, tz, ti 0, ti 0, tu 0, tz, ti 0, ti 0, tz, tu 0, tz, tu 1695899507400157853, tu 644682306613698331, ti 1, ti 2, ti 2, ti 0, .rsl 380 0 1, ti 2, ti 0, ti 0, ti 3, .rsl 575 0 2, ti 0, ti 0, tu 0, ti 0, tz, tz, ti 0, ti 0, tu 0, tz, ti 0, ti 0, tz, tu 0, tz, tu 1479892474240941217, tu 404158722206669652, ti 1, ti 3, ti 2, ti 0, .rsl 981 0 1, ti 3, ti 0, ti 0, ti 3, .rsl 1323 0 3, ti 0, ti 0, tu 0, ti 0, tz, tz, ti 0, ti 0, tu 0, tz, ti 0, ti 0, tz, tu 0, tz, tu 1976084756027819395, tu 1216949111420244005, ti 1, ti 4, ti 2, ti 0, .rsl 1801 0 1, ti 4, ti 0, ti 0, ti 3, .rsl 2308 0 3, ti 0, ti 0, tu 0, ti 0, tz, tz, ti 0, ti 0, tu 0, tz, ti 0, ti 0, tz, tu 0, tz, tu 557930940679962174, tu 857061758059851171], none⟩),
  (14, some ⟨131, [ti 1, ti 1, tu 1858807316446646070, tu 2294458496254976924, tu 1058522930688824048, ti 2, ti 2, tu 1810974450540283748, tu 732551293757751401, tu 86482453431610406, ti 3, ti 3, tu 490180086995058983, tu 1441871927598236410, tu 1783630545573332436, ti 4, ti 1, tu 1953319703317080786, tu 881125215762738857, tu 1828901513722737251, ti 5, ti 2, tu 603255930034390424, tu 1128020181934541352, tu 1855458293155442097, ti 6, ti 3, tu 681465322610182208, tu 1458595129815633359, tu 1877287273825605593], none⟩)], 2660, [(ti 0, [(2826, some ⟨163, [ti 1, ti 1, ti 1, ti 0, tz, ti 0, ti 0, ti 0, ti 0, .rsl 2671 0 1, ti 0, ti 0, tu 0, ti 0, tz, tz, ti 0, ti 0, tu 0, tz, ti 0, ti 0, tz, tu 0, tz, tu 1695899507400157853, tu 644682306613698331, ti 1, ti 1, tu 2121501834213576595, tu 0, tu 0, tu 0, tu 0, ti 1], none⟩),
  (2825, some ⟨163, [ti 1, ti 1, ti 1, ti 0, tz, ti 0, ti 0, ti 0, ti 0, .rsl 2671 0 1, ti 0, ti 0, tu 0, ti 0, tz, tz, ti 0, ti 0, tu 0, tz, ti 0, ti 0, tz, tu 0, tz, tu 1695899507400157853, tu 644682306613698331, ti 1, ti 1, tu 2121501834213576595, tu 0, tu 0, tu 0, tu 0, ti 1], none⟩),
  (2824, some ⟨161, [tu 0, tu 0, tu 0, tu 0], none⟩),
  (2823, some ⟨161, [tu 0, tu 0, tu 0, tu 0], none⟩),
  (2822, some ⟨161, [tu 0, tu 0, tu 0, tu 0], none⟩),
  (2821, some ⟨161, [tu 0, tu 0, tu 0, tu 0], none⟩),
  (2745, some ⟨131, [ti 1, ti 1, tu 1858807316446646070, tu 2294458496254976924, tu 1058522930688824048], none⟩),
  (2671, some ⟨184, [tu 1000, tz], none⟩),
  (2667, some ⟨163, [ti 1, ti 1, ti 1, ti 0, tz, ti 0, ti 0, ti 0, ti 0, .rsl 2671 0 1, ti 0, ti 0, tu 0, ti 0, tz, tz, ti 0, ti 0, tu 0, tz, ti 0, ti 0, tz, tu 0, tz, tu 1695899507400157853, tu 644682306613698331, ti 1, ti 1, tu 2121501834213576595, tu 0, tu 0, tu 0, tu 0, ti 1], none⟩),
  (2660, some ⟨88, [ti 1, ti 1, ti 1, ti 0, tz, ti 0, ti 0, ti 0, ti 0, .rsl 95 0 1, ti 0, ti 0, tu 0, ti 0, tz, tz, ti 0, ti 0, tu 0, tz, ti 0, ti 0, tz, tu 0, tz, tu 1695899507400157853, tu 644682306613698331], none⟩),
  (2648, some ⟨156, [], some (.map [(.agg #[.int .i64 (1), .int .i64 (1), .int .u64 (2121501834213576595)], ti 0, 0)] 1)⟩),
  (2647, some ⟨131, [ti 1, ti 1, tu 1858807316446646070, tu 2294458496254976924, tu 1058522930688824048, ti 2, ti 2, tu 1810974450540283748, tu 732551293757751401, tu 86482453431610406, ti 3, ti 3, tu 490180086995058983, tu 1441871927598236410, tu 1783630545573332436, ti 4, ti 1, tu 1953319703317080786, tu 881125215762738857, tu 1828901513722737251, ti 5, ti 2, tu 603255930034390424, tu 1128020181934541352, tu 1855458293155442097, ti 6, ti 3, tu 681465322610182208, tu 1458595129815633359, tu 1877287273825605593], none⟩),
  (2649, some ⟨159, [.rsl 2647 0 6, .mref 2648, .rsl 2826 0 1], none⟩),
  (2645, some ⟨63, [.rsl 14 0 6, .rsl 2618 0 4, .rsl 2621 0 4, .rsl 2624 0 4, .rsl 2643 0 4], none⟩),
  (2641, some ⟨4, [tb true, tb true, tb true, tb false], none⟩),
  (2637, some ⟨4, [tb true, tb true, tb false, tb false], none⟩),
  (2632, some ⟨4, [tb true, tb false, tb false, tb false], none⟩),
  (2627, some ⟨4, [tb false, tb false, tb false, tb false], none⟩),
  (2643, some ⟨203, [.rsl 2627 0 4, .rsl 2632 0 4, .rsl 2637 0 4, .rsl 2641 0 4], none⟩),
  (2608, some ⟨3, [ti 2], none⟩),
  (1623, some ⟨3, [ti 1], none⟩),
  (859, some ⟨3, [ti 0], none⟩),
  (2624, some ⟨22, [tz, .rsl 859 0 1, .rsl 1623 0 1, .rsl 2608 0 1], none⟩),
  (2621, some ⟨36, [ti 1, ti 1, tu 2121501834213576595, ti 1, ti 2, tu 1178938091502474893, ti 1, ti 3, tu 1030493698523647063, ti 1, ti 4, tu 1114364670887373108], none⟩),
  (2308, some ⟨184, [tu 1030, tz, tu 1031, tz, tu 1032, tz], none⟩),
  (1801, some ⟨36, [ti 1, ti 3, tu 1030493698523647063], none⟩),
  (1323, some ⟨184, [tu 1020, tz, tu 1021, tz, tu 1022, tz], none⟩),
  (981, some ⟨36, [ti 1, ti 2, tu 1178938091502474893], none⟩),
  (575, some ⟨184, [tu 1010, tz, tu 1011, tz], none⟩),
  (380, some ⟨36, [ti 1, ti 1, tu 2121501834213576595], none⟩),
  (95, some ⟨184, [tu 1000, tz], none⟩),
  (2618, some ⟨88, [ti 1, ti 1, ti 1, ti 0, tz, ti 0, ti 0, ti 0, ti 0, .rsl 95 0 1, ti 0, ti 0, tu 0, ti 0, tz, tz, ti 0, ti 0, tu 0, tz, ti 0, ti 0, tz, tu 0, tz, tu 1695899507400157853, tu 644682306613698331, ti 1, ti 2, ti 2, ti 0, .rsl 380 0 1, ti 2, ti 0, ti 0, ti 3, .rsl 575 0 2, ti 0, ti 0, tu 0, ti 0, tz, tz, ti 0, ti 0, tu 0, tz, ti 0, ti 0, tz, tu 0, tz, tu 1479892474240941217, tu 404158722206669652, ti 1, ti 3, ti 2, ti 0, .rsl 981 0 1, ti 3, ti 0, ti 0, ti 3, .rsl 1323 0 3, ti 0, ti 0, tu 0, ti 0, tz, tz, ti 0, ti 0, tu 0, tz, ti 0, ti 0, tz, tu 0, tz, tu 1976084756027819395, tu 1216949111420244005, ti 1, ti 4, ti 2, ti 0, .rsl 1801 0 1, ti 4, ti 0, ti 0, ti 3, .rsl 2308 0 3, ti 0, ti 0, tu 0, ti 0, tz, tz, ti 0, ti 0, tu 0, tz, ti 0, ti 0, tz, tu 0, tz, tu 557930940679962174, tu 857061758059851171], none⟩),
  (14, some ⟨131, [ti 1, ti 1, tu 1858807316446646070, tu 2294458496254976924, tu 1058522930688824048, ti 2, ti 2, tu 1810974450540283748, tu 732551293757751401, tu 86482453431610406, ti 3, ti 3, tu 490180086995058983, tu 1441871927598236410, tu 1783630545573332436, ti 4, ti 1, tu 1953319703317080786, tu 881125215762738857, tu 1828901513722737251, ti 5, ti 2, tu 603255930034390424, tu 1128020181934541352, tu 1855458293155442097, ti 6, ti 3, tu 681465322610182208, tu 1458595129815633359, tu 1877287273825605593], none⟩)], 2827, 2648)]⟩
noncomputable def Ec15 : XEnv := { xenvK pfc tpc glc [c14, c13, c11, c10, c7, c5, c4, c3, c1] [c12, c9, c8, c6, c2, c0] with pc := pcT }
theorem Ec15_ok : KcOk Tryz.prog Ec15 := (xenvK_ok (by simp [c14_ok, c13_ok, c11_ok, c10_ok, c7_ok, c5_ok, c4_ok, c3_ok, c1_ok]) (by simp [c12_ok, c9_ok, c8_ok, c6_ok, c2_ok, c0_ok]) : KcOk Tryz.prog (xenvK pfc tpc glc [c14, c13, c11, c10, c7, c5, c4, c3, c1] [c12, c9, c8, c6, c2, c0]))
theorem c15_run : chkK Tryz.prog Ec15 glc 100000 c15 = true := by kernel_rfl
theorem c15_ok : KeOk Tryz.prog glc c15 := chkK_ok mixed tpc_ok Ec15_ok c15_run
end Go.Proofs.YtjbbgjbknfoddaaGreatDoor
