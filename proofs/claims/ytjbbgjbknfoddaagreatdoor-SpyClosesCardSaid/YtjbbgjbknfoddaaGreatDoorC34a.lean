/- Calls in place of the lives() of chapter 34, with what they leave: run by the kernel, one over those ahead of it. Printed by gencut.py. -/
import Derived.Test.YtjbbgjbknfoddaaGreatDoorT34
import Derived.Test.YtjbbgjbknfoddaaGreatDoorHG
import Derived.Test.YtjbbgjbknfoddaaGreatDoorHMr
import Derived.Test.YtjbbgjbknfoddaaGreatDoorGun
import Derived.KernelRfl
namespace Go.Proofs.YtjbbgjbknfoddaaGreatDoor
open Go.RowKit
set_option linter.unusedVariables false
set_option linter.unusedSimpArgs false
def pfc : FuncId → Bool := fun f => bif Nat.beq f 21 then true else pures.any (Nat.beq f)
noncomputable def tpc : XPure := tpCmp (tpM tp21)
theorem tpc_ok : PureOk Tryz.prog tpc := tpCmp_ok (tpM_ok tp21_ok)
/-- A call of huddle/huddleref11.Signed: 2212 operations. -/
def c0 : KF :=
  ⟨58, [.agg [ti 1, ti 1, ti 1, ti 0, tz, ti 0, ti 0, ti 0, ti 0, .rsl 95 0 1, ti 0, ti 0, tu 0, ti 0, tz, tz, ti 0, ti 0, tu 0, tz, ti 0, ti 0, tz, tu 0, tz, tu 0, tu 0]], [95], [(95, some ⟨184, [tu 1000, tz], none⟩)], 97, .agg [ti 1, ti 1, ti 1, ti 0, tz, ti 0, ti 0, ti 0, ti 0, .rsl 95 0 1, ti 0, ti 0, tu 0, ti 0, tz, tz, ti 0, ti 0, tu 0, tz, ti 0, ti 0, tz, tu 0, tz, tu 1695899507400157853, tu 644682306613698331], [], 196⟩
noncomputable def Ec0 : XEnv := { xenvK pfc tpc glc [] [] with pc := pcT }
theorem Ec0_ok : KcOk Tryz.prog Ec0 := (xenvK_ok (by simp) (by simp) : KcOk Tryz.prog (xenvK pfc tpc glc [] []))
theorem c0_run : chkF Tryz.prog Ec0 glc 100000 c0 = true := by kernel_rfl
theorem c0_ok : KfOk Tryz.prog glc c0 := chkF_ok mixed tpc_ok Ec0_ok c0_run
/-- A call of huddle/huddleref19.After: 2338 operations. -/
def c1 : KE :=
  ⟨213, [.agg [.rsl 14 0 6, .rsl 316 0 1, .rsl 319 0 1, .rsl 322 0 1, .rsl 326 0 1], .agg [ti 1, ti 2, ti 2, ti 0, .rsl 380 0 1, ti 2, ti 0, ti 0, ti 3, tz, ti 0, ti 0, tu 0, ti 0, tz, tz, ti 0, ti 0, tu 0, tz, ti 0, ti 0, tz, tu 0, tz, tu 0, tu 0]], [(389, some ⟨88, [ti 1, ti 2, ti 2, ti 0, .rsl 380 0 1, ti 2, ti 0, ti 0, ti 3, tz, ti 0, ti 0, tu 0, ti 0, tz, tz, ti 0, ti 0, tu 0, tz, ti 0, ti 0, tz, tu 0, tz, tu 0, tu 0], none⟩),
  (388, some ⟨63, [.rsl 14 0 6, .rsl 316 0 1, .rsl 319 0 1, .rsl 322 0 1, .rsl 326 0 1], none⟩),
  (387, some ⟨88, [ti 0, ti 0, ti 0, ti 0, tz, ti 0, ti 0, ti 0, ti 0, tz, ti 0, ti 0, tu 0, ti 0, tz, tz, ti 0, ti 0, tu 0, tz, ti 0, ti 0, tz, tu 0, tz, tu 0, tu 0], none⟩),
  (386, some ⟨88, [ti 1, ti 2, ti 2, ti 0, .rsl 380 0 1, ti 2, ti 0, ti 0, ti 3, tz, ti 0, ti 0, tu 0, ti 0, tz, tz, ti 0, ti 0, tu 0, tz, ti 0, ti 0, tz, tu 0, tz, tu 0, tu 0], none⟩),
  (385, some ⟨63, [.rsl 14 0 6, .rsl 316 0 1, .rsl 319 0 1, .rsl 322 0 1, .rsl 326 0 1], none⟩),
  (380, some ⟨36, [ti 1, ti 1, tu 2121501834213576595], none⟩),
  (324, some ⟨4, [tb false], none⟩),
  (326, some ⟨203, [.rsl 324 0 1], none⟩),
  (322, some ⟨22, [tz], none⟩),
  (319, some ⟨36, [ti 1, ti 1, tu 2121501834213576595], none⟩),
  (95, some ⟨184, [tu 1000, tz], none⟩),
  (316, some ⟨88, [ti 1, ti 1, ti 1, ti 0, tz, ti 0, ti 0, ti 0, ti 0, .rsl 95 0 1, ti 0, ti 0, tu 0, ti 0, tz, tz, ti 0, ti 0, tu 0, tz, ti 0, ti 0, tz, tu 0, tz, tu 1695899507400157853, tu 644682306613698331], none⟩),
  (14, some ⟨131, [ti 1, ti 1, tu 1858807316446646070, tu 2294458496254976924, tu 1058522930688824048, ti 2, ti 2, tu 1810974450540283748, tu 732551293757751401, tu 86482453431610406, ti 3, ti 3, tu 490180086995058983, tu 1441871927598236410, tu 1783630545573332436, ti 4, ti 1, tu 1953319703317080786, tu 881125215762738857, tu 1828901513722737251, ti 5, ti 2, tu 603255930034390424, tu 1128020181934541352, tu 1855458293155442097, ti 6, ti 3, tu 681465322610182208, tu 1458595129815633359, tu 1877287273825605593], none⟩)], 390, [(.rsl 562 0 2, [(562, some ⟨3, [ti 1, ti 2], none⟩),
  (389, some ⟨88, [ti 1, ti 2, ti 2, ti 0, .rsl 380 0 1, ti 2, ti 0, ti 0, ti 3, tz, ti 0, ti 0, tu 0, ti 0, tz, tz, ti 0, ti 0, tu 0, tz, ti 0, ti 0, tz, tu 0, tz, tu 0, tu 0], none⟩),
  (388, some ⟨63, [.rsl 14 0 6, .rsl 316 0 1, .rsl 319 0 1, .rsl 322 0 1, .rsl 326 0 1], none⟩),
  (387, some ⟨88, [ti 0, ti 0, ti 0, ti 0, tz, ti 0, ti 0, ti 0, ti 0, tz, ti 0, ti 0, tu 0, ti 0, tz, tz, ti 0, ti 0, tu 0, tz, ti 0, ti 0, tz, tu 0, tz, tu 0, tu 0], none⟩),
  (386, some ⟨88, [ti 1, ti 2, ti 2, ti 0, .rsl 380 0 1, ti 2, ti 0, ti 0, ti 3, tz, ti 0, ti 0, tu 0, ti 0, tz, tz, ti 0, ti 0, tu 0, tz, ti 0, ti 0, tz, tu 0, tz, tu 0, tu 0], none⟩),
  (385, some ⟨63, [.rsl 14 0 6, .rsl 316 0 1, .rsl 319 0 1, .rsl 322 0 1, .rsl 326 0 1], none⟩),
  (380, some ⟨36, [ti 1, ti 1, tu 2121501834213576595], none⟩),
  (324, some ⟨4, [tb false], none⟩),
  (326, some ⟨203, [.rsl 324 0 1], none⟩),
  (322, some ⟨22, [tz], none⟩),
  (319, some ⟨36, [ti 1, ti 1, tu 2121501834213576595], none⟩),
  (95, some ⟨184, [tu 1000, tz], none⟩),
  (316, some ⟨88, [ti 1, ti 1, ti 1, ti 0, tz, ti 0, ti 0, ti 0, ti 0, .rsl 95 0 1, ti 0, ti 0, tu 0, ti 0, tz, tz, ti 0, ti 0, tu 0, tz, ti 0, ti 0, tz, tu 0, tz, tu 1695899507400157853, tu 644682306613698331], none⟩),
  (14, some ⟨131, [ti 1, ti 1, tu 1858807316446646070, tu 2294458496254976924, tu 1058522930688824048, ti 2, ti 2, tu 1810974450540283748, tu 732551293757751401, tu 86482453431610406, ti 3, ti 3, tu 490180086995058983, tu 1441871927598236410, tu 1783630545573332436, ti 4, ti 1, tu 1953319703317080786, tu 881125215762738857, tu 1828901513722737251, ti 5, ti 2, tu 603255930034390424, tu 1128020181934541352, tu 1855458293155442097, ti 6, ti 3, tu 681465322610182208, tu 1458595129815633359, tu 1877287273825605593], none⟩)], 563, 390)]⟩
noncomputable def Ec1 : XEnv := { xenvK pfc tpc glc [] [c0] with pc := pcT }
theorem Ec1_ok : KcOk Tryz.prog Ec1 := (xenvK_ok (by simp) (by simp [c0_ok]) : KcOk Tryz.prog (xenvK pfc tpc glc [] [c0]))
theorem c1_run : chkK Tryz.prog Ec1 glc 100000 c1 = true := by kernel_rfl
theorem c1_ok : KeOk Tryz.prog glc c1 := chkK_ok mixed tpc_ok Ec1_ok c1_run
/-- A call of huddle/huddleref11.Signed: 2476 operations. -/
def c2 : KF :=
  ⟨58, [.agg [ti 1, ti 2, ti 2, ti 0, .rsl 380 0 1, ti 2, ti 0, ti 0, ti 3, .rsl 575 0 2, ti 0, ti 0, tu 0, ti 0, tz, tz, ti 0, ti 0, tu 0, tz, ti 0, ti 0, tz, tu 0, tz, tu 0, tu 0]], [575, 380], [(575, some ⟨184, [tu 1010, tz, tu 1011, tz], none⟩),
  (380, some ⟨36, [ti 1, ti 1, tu 2121501834213576595], none⟩)], 577, .agg [ti 1, ti 2, ti 2, ti 0, .rsl 380 0 1, ti 2, ti 0, ti 0, ti 3, .rsl 575 0 2, ti 0, ti 0, tu 0, ti 0, tz, tz, ti 0, ti 0, tu 0, tz, ti 0, ti 0, tz, tu 0, tz, tu 1479892474240941217, tu 404158722206669652], [], 710⟩
noncomputable def Ec2 : XEnv := { xenvK pfc tpc glc [c1] [c0] with pc := pcT }
theorem Ec2_ok : KcOk Tryz.prog Ec2 := (xenvK_ok (by simp [c1_ok]) (by simp [c0_ok]) : KcOk Tryz.prog (xenvK pfc tpc glc [c1] [c0]))
theorem c2_run : chkF Tryz.prog Ec2 glc 100000 c2 = true := by kernel_rfl
theorem c2_ok : KfOk Tryz.prog glc c2 := chkF_ok mixed tpc_ok Ec2_ok c2_run
/-- A call of huddle/huddleref12.Wrong: 2177 operations. -/
def c3 : KE :=
  ⟨127, [.agg [.rsl 14 0 6, .rsl 316 0 1, .rsl 319 0 1, .rsl 322 0 1, .rsl 326 0 1], .agg [ti 1, ti 2, ti 2, ti 0, .rsl 380 0 1, ti 2, ti 0, ti 0, ti 3, .rsl 575 0 2, ti 0, ti 0, tu 0, ti 0, tz, tz, ti 0, ti 0, tu 0, tz, ti 0, ti 0, tz, tu 0, tz, tu 1479892474240941217, tu 404158722206669652]], [(712, some ⟨63, [tz, tz, tz, tz, tz], none⟩),
  (711, some ⟨88, [ti 1, ti 2, ti 2, ti 0, .rsl 380 0 1, ti 2, ti 0, ti 0, ti 3, .rsl 575 0 2, ti 0, ti 0, tu 0, ti 0, tz, tz, ti 0, ti 0, tu 0, tz, ti 0, ti 0, tz, tu 0, tz, tu 1479892474240941217, tu 404158722206669652], none⟩),
  (710, some ⟨63, [.rsl 14 0 6, .rsl 316 0 1, .rsl 319 0 1, .rsl 322 0 1, .rsl 326 0 1], none⟩),
  (575, some ⟨184, [tu 1010, tz, tu 1011, tz], none⟩),
  (380, some ⟨36, [ti 1, ti 1, tu 2121501834213576595], none⟩),
  (324, some ⟨4, [tb false], none⟩),
  (326, some ⟨203, [.rsl 324 0 1], none⟩),
  (322, some ⟨22, [tz], none⟩),
  (319, some ⟨36, [ti 1, ti 1, tu 2121501834213576595], none⟩),
  (95, some ⟨184, [tu 1000, tz], none⟩),
  (316, some ⟨88, [ti 1, ti 1, ti 1, ti 0, tz, ti 0, ti 0, ti 0, ti 0, .rsl 95 0 1, ti 0, ti 0, tu 0, ti 0, tz, tz, ti 0, ti 0, tu 0, tz, ti 0, ti 0, tz, tu 0, tz, tu 1695899507400157853, tu 644682306613698331], none⟩),
  (14, some ⟨131, [ti 1, ti 1, tu 1858807316446646070, tu 2294458496254976924, tu 1058522930688824048, ti 2, ti 2, tu 1810974450540283748, tu 732551293757751401, tu 86482453431610406, ti 3, ti 3, tu 490180086995058983, tu 1441871927598236410, tu 1783630545573332436, ti 4, ti 1, tu 1953319703317080786, tu 881125215762738857, tu 1828901513722737251, ti 5, ti 2, tu 603255930034390424, tu 1128020181934541352, tu 1855458293155442097, ti 6, ti 3, tu 681465322610182208, tu 1458595129815633359, tu 1877287273825605593], none⟩)], 713, [(.tup [ti 0, .rsl 859 0 1], [(859, some ⟨3, [ti 0], none⟩),
  (712, some ⟨63, [tz, tz, tz, tz, tz], none⟩),
  (711, some ⟨88, [ti 1, ti 2, ti 2, ti 0, .rsl 380 0 1, ti 2, ti 0, ti 0, ti 3, .rsl 575 0 2, ti 0, ti 0, tu 0, ti 0, tz, tz, ti 0, ti 0, tu 0, tz, ti 0, ti 0, tz, tu 0, tz, tu 1479892474240941217, tu 404158722206669652], none⟩),
  (710, some ⟨63, [.rsl 14 0 6, .rsl 316 0 1, .rsl 319 0 1, .rsl 322 0 1, .rsl 326 0 1], none⟩),
  (575, some ⟨184, [tu 1010, tz, tu 1011, tz], none⟩),
  (380, some ⟨36, [ti 1, ti 1, tu 2121501834213576595], none⟩),
  (324, some ⟨4, [tb false], none⟩),
  (326, some ⟨203, [.rsl 324 0 1], none⟩),
  (322, some ⟨22, [tz], none⟩),
  (319, some ⟨36, [ti 1, ti 1, tu 2121501834213576595], none⟩),
  (95, some ⟨184, [tu 1000, tz], none⟩),
  (316, some ⟨88, [ti 1, ti 1, ti 1, ti 0, tz, ti 0, ti 0, ti 0, ti 0, .rsl 95 0 1, ti 0, ti 0, tu 0, ti 0, tz, tz, ti 0, ti 0, tu 0, tz, ti 0, ti 0, tz, tu 0, tz, tu 1695899507400157853, tu 644682306613698331], none⟩),
  (14, some ⟨131, [ti 1, ti 1, tu 1858807316446646070, tu 2294458496254976924, tu 1058522930688824048, ti 2, ti 2, tu 1810974450540283748, tu 732551293757751401, tu 86482453431610406, ti 3, ti 3, tu 490180086995058983, tu 1441871927598236410, tu 1783630545573332436, ti 4, ti 1, tu 1953319703317080786, tu 881125215762738857, tu 1828901513722737251, ti 5, ti 2, tu 603255930034390424, tu 1128020181934541352, tu 1855458293155442097, ti 6, ti 3, tu 681465322610182208, tu 1458595129815633359, tu 1877287273825605593], none⟩)], 864, 713)]⟩
noncomputable def Ec3 : XEnv := { xenvK pfc tpc glc [c1] [c2, c0] with pc := pcT }
theorem Ec3_ok : KcOk Tryz.prog Ec3 := (xenvK_ok (by simp [c1_ok]) (by simp [c2_ok, c0_ok]) : KcOk Tryz.prog (xenvK pfc tpc glc [c1] [c2, c0]))
theorem c3_run : chkK Tryz.prog Ec3 glc 100000 c3 = true := by kernel_rfl
theorem c3_ok : KeOk Tryz.prog glc c3 := chkK_ok mixed tpc_ok Ec3_ok c3_run
/-- A call of huddle/huddleref16.Roll: 2854 operations. -/
def c4 : KE :=
  ⟨124, [.agg [.rsl 14 0 6, .rsl 869 0 2, .rsl 872 0 2, .rsl 875 0 2, .rsl 884 0 2], .rsl 1021 0 2], [(1021, some ⟨36, [ti 1, ti 1, tu 2121501834213576595, ti 1, ti 2, tu 1178938091502474893], none⟩),
  (994, some ⟨88, [ti 1, ti 3, ti 2, ti 0, .rsl 981 0 1, ti 3, ti 0, ti 0, ti 3, tz, ti 0, ti 0, tu 0, ti 0, tz, tz, ti 0, ti 0, tu 0, tz, ti 0, ti 0, tz, tu 0, tz, tu 0, tu 0], none⟩),
  (993, some ⟨63, [.rsl 14 0 6, .rsl 869 0 2, .rsl 872 0 2, .rsl 875 0 2, .rsl 884 0 2], none⟩),
  (992, some ⟨88, [ti 1, ti 3, ti 2, ti 0, .rsl 981 0 1, ti 3, ti 0, ti 0, ti 3, tz, ti 0, ti 0, tu 0, ti 0, tz, tz, ti 0, ti 0, tu 0, tz, ti 0, ti 0, tz, tu 0, tz, tu 0, tu 0], none⟩),
  (991, some ⟨63, [.rsl 14 0 6, .rsl 869 0 2, .rsl 872 0 2, .rsl 875 0 2, .rsl 884 0 2], none⟩),
  (990, some ⟨88, [ti 0, ti 0, ti 0, ti 0, tz, ti 0, ti 0, ti 0, ti 0, tz, ti 0, ti 0, tu 0, ti 0, tz, tz, ti 0, ti 0, tu 0, tz, ti 0, ti 0, tz, tu 0, tz, tu 0, tu 0], none⟩),
  (989, some ⟨88, [ti 1, ti 3, ti 2, ti 0, .rsl 981 0 1, ti 3, ti 0, ti 0, ti 3, tz, ti 0, ti 0, tu 0, ti 0, tz, tz, ti 0, ti 0, tu 0, tz, ti 0, ti 0, tz, tu 0, tz, tu 0, tu 0], none⟩),
  (988, some ⟨63, [.rsl 14 0 6, .rsl 869 0 2, .rsl 872 0 2, .rsl 875 0 2, .rsl 884 0 2], none⟩),
  (981, some ⟨36, [ti 1, ti 2, tu 1178938091502474893], none⟩),
  (882, some ⟨4, [tb true, tb false], none⟩),
  (878, some ⟨4, [tb false, tb false], none⟩),
  (884, some ⟨203, [.rsl 878 0 2, .rsl 882 0 2], none⟩),
  (859, some ⟨3, [ti 0], none⟩),
  (875, some ⟨22, [tz, .rsl 859 0 1], none⟩),
  (872, some ⟨36, [ti 1, ti 1, tu 2121501834213576595, ti 1, ti 2, tu 1178938091502474893], none⟩),
  (575, some ⟨184, [tu 1010, tz, tu 1011, tz], none⟩),
  (380, some ⟨36, [ti 1, ti 1, tu 2121501834213576595], none⟩),
  (95, some ⟨184, [tu 1000, tz], none⟩),
  (869, some ⟨88, [ti 1, ti 1, ti 1, ti 0, tz, ti 0, ti 0, ti 0, ti 0, .rsl 95 0 1, ti 0, ti 0, tu 0, ti 0, tz, tz, ti 0, ti 0, tu 0, tz, ti 0, ti 0, tz, tu 0, tz, tu 1695899507400157853, tu 644682306613698331, ti 1, ti 2, ti 2, ti 0, .rsl 380 0 1, ti 2, ti 0, ti 0, ti 3, .rsl 575 0 2, ti 0, ti 0, tu 0, ti 0, tz, tz, ti 0, ti 0, tu 0, tz, ti 0, ti 0, tz, tu 0, tz, tu 1479892474240941217, tu 404158722206669652], none⟩),
  (14, some ⟨131, [ti 1, ti 1, tu 1858807316446646070, tu 2294458496254976924, tu 1058522930688824048, ti 2, ti 2, tu 1810974450540283748, tu 732551293757751401, tu 86482453431610406, ti 3, ti 3, tu 490180086995058983, tu 1441871927598236410, tu 1783630545573332436, ti 4, ti 1, tu 1953319703317080786, tu 881125215762738857, tu 1828901513722737251, ti 5, ti 2, tu 603255930034390424, tu 1128020181934541352, tu 1855458293155442097, ti 6, ti 3, tu 681465322610182208, tu 1458595129815633359, tu 1877287273825605593], none⟩)], 1022, [(.agg [.rsl 14 0 6, .rsl 1203 0 2, tz, .rsl 1209 0 2, ti 0, tz], [(1209, some ⟨378, [ti 1, ti 3, tb false, ti 0, ti 0, tu 0, tz, ti 0, ti 0, tb false, ti 0, ti 2, ti 3, tb false, ti 0, ti 0, tu 0, tz, ti 0, ti 0, tb false, ti 0], none⟩),
  (1203, some ⟨3, [ti 1, ti 2], none⟩),
  (1021, some ⟨36, [ti 1, ti 1, tu 2121501834213576595, ti 1, ti 2, tu 1178938091502474893], none⟩),
  (994, some ⟨88, [ti 1, ti 3, ti 2, ti 0, .rsl 981 0 1, ti 3, ti 0, ti 0, ti 3, tz, ti 0, ti 0, tu 0, ti 0, tz, tz, ti 0, ti 0, tu 0, tz, ti 0, ti 0, tz, tu 0, tz, tu 0, tu 0], none⟩),
  (993, some ⟨63, [.rsl 14 0 6, .rsl 869 0 2, .rsl 872 0 2, .rsl 875 0 2, .rsl 884 0 2], none⟩),
  (992, some ⟨88, [ti 1, ti 3, ti 2, ti 0, .rsl 981 0 1, ti 3, ti 0, ti 0, ti 3, tz, ti 0, ti 0, tu 0, ti 0, tz, tz, ti 0, ti 0, tu 0, tz, ti 0, ti 0, tz, tu 0, tz, tu 0, tu 0], none⟩),
  (991, some ⟨63, [.rsl 14 0 6, .rsl 869 0 2, .rsl 872 0 2, .rsl 875 0 2, .rsl 884 0 2], none⟩),
  (990, some ⟨88, [ti 0, ti 0, ti 0, ti 0, tz, ti 0, ti 0, ti 0, ti 0, tz, ti 0, ti 0, tu 0, ti 0, tz, tz, ti 0, ti 0, tu 0, tz, ti 0, ti 0, tz, tu 0, tz, tu 0, tu 0], none⟩),
  (989, some ⟨88, [ti 1, ti 3, ti 2, ti 0, .rsl 981 0 1, ti 3, ti 0, ti 0, ti 3, tz, ti 0, ti 0, tu 0, ti 0, tz, tz, ti 0, ti 0, tu 0, tz, ti 0, ti 0, tz, tu 0, tz, tu 0, tu 0], none⟩),
  (988, some ⟨63, [.rsl 14 0 6, .rsl 869 0 2, .rsl 872 0 2, .rsl 875 0 2, .rsl 884 0 2], none⟩),
  (981, some ⟨36, [ti 1, ti 2, tu 1178938091502474893], none⟩),
  (882, some ⟨4, [tb true, tb false], none⟩),
  (878, some ⟨4, [tb false, tb false], none⟩),
  (884, some ⟨203, [.rsl 878 0 2, .rsl 882 0 2], none⟩),
  (859, some ⟨3, [ti 0], none⟩),
  (875, some ⟨22, [tz, .rsl 859 0 1], none⟩),
  (872, some ⟨36, [ti 1, ti 1, tu 2121501834213576595, ti 1, ti 2, tu 1178938091502474893], none⟩),
  (575, some ⟨184, [tu 1010, tz, tu 1011, tz], none⟩),
  (380, some ⟨36, [ti 1, ti 1, tu 2121501834213576595], none⟩),
  (95, some ⟨184, [tu 1000, tz], none⟩),
  (869, some ⟨88, [ti 1, ti 1, ti 1, ti 0, tz, ti 0, ti 0, ti 0, ti 0, .rsl 95 0 1, ti 0, ti 0, tu 0, ti 0, tz, tz, ti 0, ti 0, tu 0, tz, ti 0, ti 0, tz, tu 0, tz, tu 1695899507400157853, tu 644682306613698331, ti 1, ti 2, ti 2, ti 0, .rsl 380 0 1, ti 2, ti 0, ti 0, ti 3, .rsl 575 0 2, ti 0, ti 0, tu 0, ti 0, tz, tz, ti 0, ti 0, tu 0, tz, ti 0, ti 0, tz, tu 0, tz, tu 1479892474240941217, tu 404158722206669652], none⟩),
  (14, some ⟨131, [ti 1, ti 1, tu 1858807316446646070, tu 2294458496254976924, tu 1058522930688824048, ti 2, ti 2, tu 1810974450540283748, tu 732551293757751401, tu 86482453431610406, ti 3, ti 3, tu 490180086995058983, tu 1441871927598236410, tu 1783630545573332436, ti 4, ti 1, tu 1953319703317080786, tu 881125215762738857, tu 1828901513722737251, ti 5, ti 2, tu 603255930034390424, tu 1128020181934541352, tu 1855458293155442097, ti 6, ti 3, tu 681465322610182208, tu 1458595129815633359, tu 1877287273825605593], none⟩)], 1210, 1022)]⟩
noncomputable def Ec4 : XEnv := { xenvK pfc tpc glc [c3, c1] [c2, c0] with pc := pcT }
theorem Ec4_ok : KcOk Tryz.prog Ec4 := (xenvK_ok (by simp [c3_ok, c1_ok]) (by simp [c2_ok, c0_ok]) : KcOk Tryz.prog (xenvK pfc tpc glc [c3, c1] [c2, c0]))
theorem c4_run : chkK Tryz.prog Ec4 glc 100000 c4 = true := by kernel_rfl
theorem c4_ok : KeOk Tryz.prog glc c4 := chkK_ok mixed tpc_ok Ec4_ok c4_run
end Go.Proofs.YtjbbgjbknfoddaaGreatDoor
