/- Calls in place, further. Printed by gencuts.py. -/
import Derived.Test.YtjbbgjbknfoddaaGreatDoorC34e
import Derived.KernelRfl
namespace Go.Proofs.YtjbbgjbknfoddaaGreatDoor
open Go.RowKit
set_option linter.unusedVariables false
set_option linter.unusedSimpArgs false
/-- A call of huddle/slots.After: 2326 operations. -/
def c20 : KE :=
  ⟨79, [.ref 2649 0, .agg [ti 1, ti 1, ti 1, ti 0, tz, ti 0, ti 0, ti 0, ti 0, .rsl 3753 0 1, ti 0, ti 0, tu 0, ti 0, tz, tz, ti 0, ti 0, tu 0, tz, ti 0, ti 0, tz, tu 0, tz, tu 1695899507400157853, tu 644682306613698331]], [(3753, some ⟨184, [tu 1000, tz], none⟩),
  (3747, some ⟨88, [ti 1, ti 1, ti 1, ti 0, tz, ti 0, ti 0, ti 0, ti 0, .rsl 3753 0 1, ti 0, ti 0, tu 0, ti 0, tz, tz, ti 0, ti 0, tu 0, tz, ti 0, ti 0, tz, tu 0, tz, tu 1695899507400157853, tu 644682306613698331], none⟩),
  (3746, some ⟨36, [ti 1, ti 1, tu 2121501834213576595], none⟩),
  (3745, some ⟨36, [ti 1, ti 1, tu 2121501834213576595], none⟩),
  (3744, some ⟨36, [ti 1, ti 1, tu 2121501834213576595], none⟩),
  (3587, some ⟨77, [.ref 2649 0, .rsl 3585 0 1, tz], none⟩),
  (3585, some ⟨36, [ti 1, ti 1, tu 2121501834213576595], none⟩),
  (3342, some ⟨184, [tu 1030, tz, tu 1031, tz, tu 1032, tz], none⟩),
  (3340, some ⟨36, [ti 1, ti 3, tu 1030493698523647063], none⟩),
  (3084, some ⟨184, [tu 1020, tz, tu 1021, tz, tu 1022, tz], none⟩),
  (3082, some ⟨36, [ti 1, ti 2, tu 1178938091502474893], none⟩),
  (2842, some ⟨184, [tu 1010, tz, tu 1011, tz], none⟩),
  (2840, some ⟨36, [ti 1, ti 1, tu 2121501834213576595], none⟩),
  (2671, some ⟨184, [tu 1000, tz], none⟩),
  (3582, some ⟨163, [ti 1, ti 1, ti 1, ti 0, tz, ti 0, ti 0, ti 0, ti 0, .rsl 2671 0 1, ti 0, ti 0, tu 0, ti 0, tz, tz, ti 0, ti 0, tu 0, tz, ti 0, ti 0, tz, tu 0, tz, tu 1695899507400157853, tu 644682306613698331, ti 1, ti 1, tu 2121501834213576595, tu 0, tu 0, tu 0, tu 0, ti 1, ti 1, ti 2, ti 2, ti 0, .rsl 2840 0 1, ti 2, ti 0, ti 0, ti 3, .rsl 2842 0 2, ti 0, ti 0, tu 0, ti 0, tz, tz, ti 0, ti 0, tu 0, tz, ti 0, ti 0, tz, tu 0, tz, tu 1479892474240941217, tu 404158722206669652, ti 1, ti 2, tu 1178938091502474893, tu 1, tu 0, tu 0, tu 0, ti 2, ti 1, ti 3, ti 2, ti 0, .rsl 3082 0 1, ti 3, ti 0, ti 0, ti 3, .rsl 3084 0 3, ti 0, ti 0, tu 0, ti 0, tz, tz, ti 0, ti 0, tu 0, tz, ti 0, ti 0, tz, tu 0, tz, tu 1976084756027819395, tu 1216949111420244005, ti 1, ti 3, tu 1030493698523647063, tu 3, tu 0, tu 0, tu 0, ti 3, ti 1, ti 4, ti 2, ti 0, .rsl 3340 0 1, ti 4, ti 0, ti 0, ti 3, .rsl 3342 0 3, ti 0, ti 0, tu 0, ti 0, tz, tz, ti 0, ti 0, tu 0, tz, ti 0, ti 0, tz, tu 0, tz, tu 557930940679962174, tu 857061758059851171, ti 1, ti 4, tu 1114364670887373108, tu 7, tu 0, tu 0, tu 0, ti 4], none⟩),
  (2648, some ⟨156, [], some (.map [(.agg #[.int .i64 (1), .int .i64 (1), .int .u64 (2121501834213576595)], ti 0, 0), (.agg #[.int .i64 (1), .int .i64 (2), .int .u64 (1178938091502474893)], ti 1, 1), (.agg #[.int .i64 (1), .int .i64 (3), .int .u64 (1030493698523647063)], ti 2, 2), (.agg #[.int .i64 (1), .int .i64 (4), .int .u64 (1114364670887373108)], ti 3, 3)] 4)⟩),
  (2647, some ⟨131, [ti 1, ti 1, tu 1858807316446646070, tu 2294458496254976924, tu 1058522930688824048, ti 2, ti 2, tu 1810974450540283748, tu 732551293757751401, tu 86482453431610406, ti 3, ti 3, tu 490180086995058983, tu 1441871927598236410, tu 1783630545573332436, ti 4, ti 1, tu 1953319703317080786, tu 881125215762738857, tu 1828901513722737251, ti 5, ti 2, tu 603255930034390424, tu 1128020181934541352, tu 1855458293155442097, ti 6, ti 3, tu 681465322610182208, tu 1458595129815633359, tu 1877287273825605593], none⟩),
  (2649, some ⟨159, [.rsl 2647 0 6, .mref 2648, .rsl 3582 0 4], none⟩)], 3754, [(.rsl 3881 0 1, [(3881, some ⟨3, [ti 1], none⟩),
  (3753, some ⟨184, [tu 1000, tz], none⟩),
  (3747, some ⟨88, [ti 1, ti 1, ti 1, ti 0, tz, ti 0, ti 0, ti 0, ti 0, .rsl 3753 0 1, ti 0, ti 0, tu 0, ti 0, tz, tz, ti 0, ti 0, tu 0, tz, ti 0, ti 0, tz, tu 0, tz, tu 1695899507400157853, tu 644682306613698331], none⟩),
  (3746, some ⟨36, [ti 1, ti 1, tu 2121501834213576595], none⟩),
  (3745, some ⟨36, [ti 1, ti 1, tu 2121501834213576595], none⟩),
  (3744, some ⟨36, [ti 1, ti 1, tu 2121501834213576595], none⟩),
  (3587, some ⟨77, [.ref 2649 0, .rsl 3585 0 1, tz], none⟩),
  (3585, some ⟨36, [ti 1, ti 1, tu 2121501834213576595], none⟩),
  (3342, some ⟨184, [tu 1030, tz, tu 1031, tz, tu 1032, tz], none⟩),
  (3340, some ⟨36, [ti 1, ti 3, tu 1030493698523647063], none⟩),
  (3084, some ⟨184, [tu 1020, tz, tu 1021, tz, tu 1022, tz], none⟩),
  (3082, some ⟨36, [ti 1, ti 2, tu 1178938091502474893], none⟩),
  (2842, some ⟨184, [tu 1010, tz, tu 1011, tz], none⟩),
  (2840, some ⟨36, [ti 1, ti 1, tu 2121501834213576595], none⟩),
  (2671, some ⟨184, [tu 1000, tz], none⟩),
  (3582, some ⟨163, [ti 1, ti 1, ti 1, ti 0, tz, ti 0, ti 0, ti 0, ti 0, .rsl 2671 0 1, ti 0, ti 0, tu 0, ti 0, tz, tz, ti 0, ti 0, tu 0, tz, ti 0, ti 0, tz, tu 0, tz, tu 1695899507400157853, tu 644682306613698331, ti 1, ti 1, tu 2121501834213576595, tu 0, tu 0, tu 0, tu 0, ti 1, ti 1, ti 2, ti 2, ti 0, .rsl 2840 0 1, ti 2, ti 0, ti 0, ti 3, .rsl 2842 0 2, ti 0, ti 0, tu 0, ti 0, tz, tz, ti 0, ti 0, tu 0, tz, ti 0, ti 0, tz, tu 0, tz, tu 1479892474240941217, tu 404158722206669652, ti 1, ti 2, tu 1178938091502474893, tu 1, tu 0, tu 0, tu 0, ti 2, ti 1, ti 3, ti 2, ti 0, .rsl 3082 0 1, ti 3, ti 0, ti 0, ti 3, .rsl 3084 0 3, ti 0, ti 0, tu 0, ti 0, tz, tz, ti 0, ti 0, tu 0, tz, ti 0, ti 0, tz, tu 0, tz, tu 1976084756027819395, tu 1216949111420244005, ti 1, ti 3, tu 1030493698523647063, tu 3, tu 0, tu 0, tu 0, ti 3, ti 1, ti 4, ti 2, ti 0, .rsl 3340 0 1, ti 4, ti 0, ti 0, ti 3, .rsl 3342 0 3, ti 0, ti 0, tu 0, ti 0, tz, tz, ti 0, ti 0, tu 0, tz, ti 0, ti 0, tz, tu 0, tz, tu 557930940679962174, tu 857061758059851171, ti 1, ti 4, tu 1114364670887373108, tu 7, tu 0, tu 0, tu 0, ti 4], none⟩),
  (2648, some ⟨156, [], some (.map [(.agg #[.int .i64 (1), .int .i64 (1), .int .u64 (2121501834213576595)], ti 0, 0), (.agg #[.int .i64 (1), .int .i64 (2), .int .u64 (1178938091502474893)], ti 1, 1), (.agg #[.int .i64 (1), .int .i64 (3), .int .u64 (1030493698523647063)], ti 2, 2), (.agg #[.int .i64 (1), .int .i64 (4), .int .u64 (1114364670887373108)], ti 3, 3)] 4)⟩),
  (2647, some ⟨131, [ti 1, ti 1, tu 1858807316446646070, tu 2294458496254976924, tu 1058522930688824048, ti 2, ti 2, tu 1810974450540283748, tu 732551293757751401, tu 86482453431610406, ti 3, ti 3, tu 490180086995058983, tu 1441871927598236410, tu 1783630545573332436, ti 4, ti 1, tu 1953319703317080786, tu 881125215762738857, tu 1828901513722737251, ti 5, ti 2, tu 603255930034390424, tu 1128020181934541352, tu 1855458293155442097, ti 6, ti 3, tu 681465322610182208, tu 1458595129815633359, tu 1877287273825605593], none⟩),
  (2649, some ⟨159, [.rsl 2647 0 6, .mref 2648, .rsl 3582 0 4], none⟩)], 3890, 3754)]⟩
noncomputable def Ec20 : XEnv := { xenvK pfc tpc glc [c18, c17, c16, c15, c14, c13, c11, c10, c7, c5, c4, c3, c1] [c19, c12, c9, c8, c6, c2, c0] with pc := pcT }
theorem Ec20_ok : KcOk Tryz.prog Ec20 := (xenvK_ok (by simp [c18_ok, c17_ok, c16_ok, c15_ok, c14_ok, c13_ok, c11_ok, c10_ok, c7_ok, c5_ok, c4_ok, c3_ok, c1_ok]) (by simp [c19_ok, c12_ok, c9_ok, c8_ok, c6_ok, c2_ok, c0_ok]) : KcOk Tryz.prog (xenvK pfc tpc glc [c18, c17, c16, c15, c14, c13, c11, c10, c7, c5, c4, c3, c1] [c19, c12, c9, c8, c6, c2, c0]))
theorem c20_run : chkK Tryz.prog Ec20 glc 100000 c20 = true := by kernel_rfl
theorem c20_ok : KeOk Tryz.prog glc c20 := chkK_ok mixed tpc_ok Ec20_ok c20_run
/-- A call of huddle/spy.Edges: 3771 operations. -/
def c21 : KF :=
  ⟨24, [.ref 2649 0, .rsl 3585 0 1], [3585, 3342, 3340, 3084, 3082, 2842, 2840, 2671, 3582, 2648, 2647, 2649], [(3585, some ⟨36, [ti 1, ti 1, tu 2121501834213576595], none⟩),
  (3342, some ⟨184, [tu 1030, tz, tu 1031, tz, tu 1032, tz], none⟩),
  (3340, some ⟨36, [ti 1, ti 3, tu 1030493698523647063], none⟩),
  (3084, some ⟨184, [tu 1020, tz, tu 1021, tz, tu 1022, tz], none⟩),
  (3082, some ⟨36, [ti 1, ti 2, tu 1178938091502474893], none⟩),
  (2842, some ⟨184, [tu 1010, tz, tu 1011, tz], none⟩),
  (2840, some ⟨36, [ti 1, ti 1, tu 2121501834213576595], none⟩),
  (2671, some ⟨184, [tu 1000, tz], none⟩),
  (3582, some ⟨163, [ti 1, ti 1, ti 1, ti 0, tz, ti 0, ti 0, ti 0, ti 0, .rsl 2671 0 1, ti 0, ti 0, tu 0, ti 0, tz, tz, ti 0, ti 0, tu 0, tz, ti 0, ti 0, tz, tu 0, tz, tu 1695899507400157853, tu 644682306613698331, ti 1, ti 1, tu 2121501834213576595, tu 0, tu 0, tu 0, tu 0, ti 1, ti 1, ti 2, ti 2, ti 0, .rsl 2840 0 1, ti 2, ti 0, ti 0, ti 3, .rsl 2842 0 2, ti 0, ti 0, tu 0, ti 0, tz, tz, ti 0, ti 0, tu 0, tz, ti 0, ti 0, tz, tu 0, tz, tu 1479892474240941217, tu 404158722206669652, ti 1, ti 2, tu 1178938091502474893, tu 1, tu 0, tu 0, tu 0, ti 2, ti 1, ti 3, ti 2, ti 0, .rsl 3082 0 1, ti 3, ti 0, ti 0, ti 3, .rsl 3084 0 3, ti 0, ti 0, tu 0, ti 0, tz, tz, ti 0, ti 0, tu 0, tz, ti 0, ti 0, tz, tu 0, tz, tu 1976084756027819395, tu 1216949111420244005, ti 1, ti 3, tu 1030493698523647063, tu 3, tu 0, tu 0, tu 0, ti 3, ti 1, ti 4, ti 2, ti 0, .rsl 3340 0 1, ti 4, ti 0, ti 0, ti 3, .rsl 3342 0 3, ti 0, ti 0, tu 0, ti 0, tz, tz, ti 0, ti 0, tu 0, tz, ti 0, ti 0, tz, tu 0, tz, tu 557930940679962174, tu 857061758059851171, ti 1, ti 4, tu 1114364670887373108, tu 7, tu 0, tu 0, tu 0, ti 4], none⟩),
  (2648, some ⟨156, [], some (.map [(.agg #[.int .i64 (1), .int .i64 (1), .int .u64 (2121501834213576595)], ti 0, 0), (.agg #[.int .i64 (1), .int .i64 (2), .int .u64 (1178938091502474893)], ti 1, 1), (.agg #[.int .i64 (1), .int .i64 (3), .int .u64 (1030493698523647063)], ti 2, 2), (.agg #[.int .i64 (1), .int .i64 (4), .int .u64 (1114364670887373108)], ti 3, 3)] 4)⟩),
  (2647, some ⟨131, [ti 1, ti 1, tu 1858807316446646070, tu 2294458496254976924, tu 1058522930688824048, ti 2, ti 2, tu 1810974450540283748, tu 732551293757751401, tu 86482453431610406, ti 3, ti 3, tu 490180086995058983, tu 1441871927598236410, tu 1783630545573332436, ti 4, ti 1, tu 1953319703317080786, tu 881125215762738857, tu 1828901513722737251, ti 5, ti 2, tu 603255930034390424, tu 1128020181934541352, tu 1855458293155442097, ti 6, ti 3, tu 681465322610182208, tu 1458595129815633359, tu 1877287273825605593], none⟩),
  (2649, some ⟨159, [.rsl 2647 0 6, .mref 2648, .rsl 3582 0 4], none⟩)], 3587, .rsl 3918 0 4, [(3909, some ⟨38, [ti 2, ti 1, ti 1, tu 2121501834213576595, ti 0, ti 0], none⟩),
  (3916, some ⟨38, [ti 4, ti 1, ti 1, tu 2121501834213576595, ti 0, ti 0], none⟩),
  (3903, some ⟨38, [ti 2, ti 1, ti 1, tu 2121501834213576595, ti 0, ti 0], none⟩),
  (3895, some ⟨38, [ti 2, ti 1, ti 1, tu 2121501834213576595, ti 0, ti 0], none⟩),
  (3918, some ⟨49, [.rsl 3895 0 1, ti 3, ti 1, ti 1, tu 2121501834213576595, ti 0, ti 0, .rsl 3903 0 1, ti 4, ti 1, ti 1, tu 2121501834213576595, ti 0, ti 0, .rsl 3916 0 1, ti 5, ti 1, ti 1, tu 2121501834213576595, ti 1, ti 0, .rsl 3909 0 1, ti 7, ti 1, ti 1, tu 2121501834213576595, ti 0, ti 0], none⟩)], 4062⟩
noncomputable def Ec21 : XEnv := { xenvK pfc tpc glc [c20, c18, c17, c16, c15, c14, c13, c11, c10, c7, c5, c4, c3, c1] [c19, c12, c9, c8, c6, c2, c0] with pc := pcT }
theorem Ec21_ok : KcOk Tryz.prog Ec21 := (xenvK_ok (by simp [c20_ok, c18_ok, c17_ok, c16_ok, c15_ok, c14_ok, c13_ok, c11_ok, c10_ok, c7_ok, c5_ok, c4_ok, c3_ok, c1_ok]) (by simp [c19_ok, c12_ok, c9_ok, c8_ok, c6_ok, c2_ok, c0_ok]) : KcOk Tryz.prog (xenvK pfc tpc glc [c20, c18, c17, c16, c15, c14, c13, c11, c10, c7, c5, c4, c3, c1] [c19, c12, c9, c8, c6, c2, c0]))
theorem c21_run : chkF Tryz.prog Ec21 glc 100000 c21 = true := by kernel_rfl
theorem c21_ok : KfOk Tryz.prog glc c21 := chkF_ok mixed tpc_ok Ec21_ok c21_run
end Go.Proofs.YtjbbgjbknfoddaaGreatDoor
