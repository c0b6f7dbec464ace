/- Calls in place of the lives() of chapter 20, with what they leave: run by the kernel, one over those ahead of it. Printed by gencut.py. -/
import Derived.Test.YtfnglmepfjaimaaGreatDoorT21
import Derived.Test.YtfnglmepfjaimaaGreatDoorHMr
import Derived.Test.YtfnglmepfjaimaaGreatDoorGl
import Derived.KernelRfl
namespace Go.Proofs.YtfnglmepfjaimaaGreatDoor
open Go.RowKit
set_option linter.unusedVariables false
set_option linter.unusedSimpArgs false
def pfc : FuncId → Bool := fun f => pures.any (Nat.beq f)
noncomputable def tpc : XPure := tpM tp21
theorem tpc_ok : PureOk Tryz.prog tpc := tpM_ok tp21_ok
/-- A call of huddle/huddleref20.Put: 6738 operations. -/
def c0 : KF :=
  ⟨36, [.agg [.rsl 13 0 6, tz, tz, tz, tz], .agg [ti 1, ti 1, ti 1, ti 0, tz, ti 0, ti 0, ti 0, ti 0, tz, ti 0, ti 0, tu 0, ti 0, tz, tz, ti 0, ti 0, tu 0, tz, ti 0, ti 0, tz, tu 0, tz, tu 0, tu 0]], [13], [(13, some ⟨137, [ti 1, ti 1, tu 1858807316446646070, tu 2294458496254976924, tu 1058522930688824048, ti 2, ti 2, tu 1810974450540283748, tu 732551293757751401, tu 86482453431610406, ti 3, ti 3, tu 490180086995058983, tu 1441871927598236410, tu 1783630545573332436, ti 4, ti 1, tu 1953319703317080786, tu 881125215762738857, tu 1828901513722737251, ti 5, ti 2, tu 603255930034390424, tu 1128020181934541352, tu 1855458293155442097, ti 6, ti 3, tu 681465322610182208, tu 1458595129815633359, tu 1877287273825605593], none⟩)], 20, .agg [.rsl 13 0 6, .rsl 486 0 1, .rsl 489 0 1, .rsl 492 0 1, .rsl 496 0 1], [(494, some ⟨4, [tb false], none⟩),
  (496, some ⟨231, [.rsl 494 0 1], none⟩),
  (492, some ⟨60, [tz], none⟩),
  (489, some ⟨31, [ti 1, ti 1, tu 862241763743803610], none⟩),
  (163, some ⟨107, [tu 2154745651092665763, tz], none⟩),
  (486, some ⟨66, [ti 1, ti 1, ti 1, ti 0, tz, ti 0, ti 0, ti 0, ti 0, .rsl 163 0 1, ti 0, ti 0, tu 0, ti 0, tz, tz, ti 0, ti 0, tu 0, tz, ti 0, ti 0, tz, tu 0, tz, tu 1223440080342624114, tu 42199551586101612], none⟩)], 497⟩
noncomputable def Ec0 : XEnv := xenvK pfc tpc glc [] []
theorem Ec0_ok : KcOk Tryz.prog Ec0 := xenvK_ok (by simp) (by simp)
theorem c0_run : chkF Tryz.prog Ec0 glc 100000 c0 = true := by kernel_rfl
theorem c0_ok : KfOk Tryz.prog glc c0 := chkF_ok mixed tpc_ok Ec0_ok c0_run
/-- A call of huddle/huddleref20.Covers: 4172 operations. -/
def c1 : KE :=
  ⟨161, [.agg [.rsl 13 0 6, .rsl 486 0 1, .rsl 489 0 1, .rsl 492 0 1, .rsl 496 0 1], .agg [ti 1, ti 2, ti 2, ti 0, .rsl 549 0 1, ti 2, ti 0, ti 0, ti 3, tz, ti 0, ti 0, tu 0, ti 0, tz, tz, ti 0, ti 0, tu 0, tz, ti 0, ti 0, tz, tu 0, tz, tu 0, tu 0]], [(924, some ⟨107, [tu 599580122152146373, tz], none⟩),
  (922, some ⟨22, [tu 112549989845472439, tu 596252773501635330], none⟩),
  (906, some ⟨3, [ti 1, ti 2], none⟩),
  (915, some ⟨60, [.rsl 906 0 1, .rsl 906 0 2], none⟩),
  (731, some ⟨3, [ti 1, ti 2], none⟩),
  (558, some ⟨66, [ti 1, ti 2, ti 2, ti 0, .rsl 549 0 1, ti 2, ti 0, ti 0, ti 3, tz, ti 0, ti 0, tu 0, ti 0, tz, tz, ti 0, ti 0, tu 0, tz, ti 0, ti 0, tz, tu 0, tz, tu 0, tu 0], none⟩),
  (557, some ⟨45, [.rsl 13 0 6, .rsl 486 0 1, .rsl 489 0 1, .rsl 492 0 1, .rsl 496 0 1], none⟩),
  (549, some ⟨31, [ti 1, ti 1, tu 862241763743803610], none⟩),
  (494, some ⟨4, [tb false], none⟩),
  (496, some ⟨231, [.rsl 494 0 1], none⟩),
  (492, some ⟨60, [tz], none⟩),
  (489, some ⟨31, [ti 1, ti 1, tu 862241763743803610], none⟩),
  (163, some ⟨107, [tu 2154745651092665763, tz], none⟩),
  (486, some ⟨66, [ti 1, ti 1, ti 1, ti 0, tz, ti 0, ti 0, ti 0, ti 0, .rsl 163 0 1, ti 0, ti 0, tu 0, ti 0, tz, tz, ti 0, ti 0, tu 0, tz, ti 0, ti 0, tz, tu 0, tz, tu 1223440080342624114, tu 42199551586101612], none⟩),
  (13, some ⟨137, [ti 1, ti 1, tu 1858807316446646070, tu 2294458496254976924, tu 1058522930688824048, ti 2, ti 2, tu 1810974450540283748, tu 732551293757751401, tu 86482453431610406, ti 3, ti 3, tu 490180086995058983, tu 1441871927598236410, tu 1783630545573332436, ti 4, ti 1, tu 1953319703317080786, tu 881125215762738857, tu 1828901513722737251, ti 5, ti 2, tu 603255930034390424, tu 1128020181934541352, tu 1855458293155442097, ti 6, ti 3, tu 681465322610182208, tu 1458595129815633359, tu 1877287273825605593], none⟩)], 925, [(.rsl 1229 0 1, [(1217, some ⟨3, [ti 2], none⟩),
  (1227, some ⟨99, [.rsl 1217 0 1, tu 1810974450540283748, ti 0, ti 0, tu 0, ti 0], none⟩),
  (1229, some ⟨94, [.rsl 1227 0 1], none⟩),
  (924, some ⟨107, [tu 599580122152146373, tz], none⟩),
  (922, some ⟨22, [tu 112549989845472439, tu 596252773501635330], none⟩),
  (906, some ⟨3, [ti 1, ti 2], none⟩),
  (915, some ⟨60, [.rsl 906 0 1, .rsl 906 0 2], none⟩),
  (731, some ⟨3, [ti 1, ti 2], none⟩),
  (558, some ⟨66, [ti 1, ti 2, ti 2, ti 0, .rsl 549 0 1, ti 2, ti 0, ti 0, ti 3, tz, ti 0, ti 0, tu 0, ti 0, tz, tz, ti 0, ti 0, tu 0, tz, ti 0, ti 0, tz, tu 0, tz, tu 0, tu 0], none⟩),
  (557, some ⟨45, [.rsl 13 0 6, .rsl 486 0 1, .rsl 489 0 1, .rsl 492 0 1, .rsl 496 0 1], none⟩),
  (549, some ⟨31, [ti 1, ti 1, tu 862241763743803610], none⟩),
  (494, some ⟨4, [tb false], none⟩),
  (496, some ⟨231, [.rsl 494 0 1], none⟩),
  (492, some ⟨60, [tz], none⟩),
  (489, some ⟨31, [ti 1, ti 1, tu 862241763743803610], none⟩),
  (163, some ⟨107, [tu 2154745651092665763, tz], none⟩),
  (486, some ⟨66, [ti 1, ti 1, ti 1, ti 0, tz, ti 0, ti 0, ti 0, ti 0, .rsl 163 0 1, ti 0, ti 0, tu 0, ti 0, tz, tz, ti 0, ti 0, tu 0, tz, ti 0, ti 0, tz, tu 0, tz, tu 1223440080342624114, tu 42199551586101612], none⟩),
  (13, some ⟨137, [ti 1, ti 1, tu 1858807316446646070, tu 2294458496254976924, tu 1058522930688824048, ti 2, ti 2, tu 1810974450540283748, tu 732551293757751401, tu 86482453431610406, ti 3, ti 3, tu 490180086995058983, tu 1441871927598236410, tu 1783630545573332436, ti 4, ti 1, tu 1953319703317080786, tu 881125215762738857, tu 1828901513722737251, ti 5, ti 2, tu 603255930034390424, tu 1128020181934541352, tu 1855458293155442097, ti 6, ti 3, tu 681465322610182208, tu 1458595129815633359, tu 1877287273825605593], none⟩)], 1230, 925)]⟩
noncomputable def Ec1 : XEnv := xenvK pfc tpc glc [] [c0]
theorem Ec1_ok : KcOk Tryz.prog Ec1 := xenvK_ok (by simp) (by simp [c0_ok])
theorem c1_run : chkK Tryz.prog Ec1 glc 100000 c1 = true := by kernel_rfl
theorem c1_ok : KeOk Tryz.prog glc c1 := chkK_ok mixed tpc_ok Ec1_ok c1_run
/-- A call of huddle/huddleref20.Make: 5171 operations. -/
def c2 : KF :=
  ⟨81, [.agg [.rsl 13 0 6, .rsl 486 0 1, .rsl 489 0 1, .rsl 492 0 1, .rsl 496 0 1], .agg [ti 1, ti 2, ti 2, ti 0, .rsl 549 0 1, ti 2, ti 0, ti 0, ti 3, tz, ti 0, ti 0, tu 0, ti 0, tz, tz, ti 0, ti 0, tu 0, tz, ti 0, ti 0, tz, tu 0, tz, tu 0, tu 0], tu 1001, tz], [549, 494, 496, 492, 489, 163, 486, 13], [(549, some ⟨31, [ti 1, ti 1, tu 862241763743803610], none⟩),
  (494, some ⟨4, [tb false], none⟩),
  (496, some ⟨231, [.rsl 494 0 1], none⟩),
  (492, some ⟨60, [tz], none⟩),
  (489, some ⟨31, [ti 1, ti 1, tu 862241763743803610], none⟩),
  (163, some ⟨107, [tu 2154745651092665763, tz], none⟩),
  (486, some ⟨66, [ti 1, ti 1, ti 1, ti 0, tz, ti 0, ti 0, ti 0, ti 0, .rsl 163 0 1, ti 0, ti 0, tu 0, ti 0, tz, tz, ti 0, ti 0, tu 0, tz, ti 0, ti 0, tz, tu 0, tz, tu 1223440080342624114, tu 42199551586101612], none⟩),
  (13, some ⟨137, [ti 1, ti 1, tu 1858807316446646070, tu 2294458496254976924, tu 1058522930688824048, ti 2, ti 2, tu 1810974450540283748, tu 732551293757751401, tu 86482453431610406, ti 3, ti 3, tu 490180086995058983, tu 1441871927598236410, tu 1783630545573332436, ti 4, ti 1, tu 1953319703317080786, tu 881125215762738857, tu 1828901513722737251, ti 5, ti 2, tu 603255930034390424, tu 1128020181934541352, tu 1855458293155442097, ti 6, ti 3, tu 681465322610182208, tu 1458595129815633359, tu 1877287273825605593], none⟩)], 557, .tup [.rsl 1240 0 2, .rsl 922 0 2, ti 2, ti 0], [(922, some ⟨22, [tu 112549989845472439, tu 596252773501635330], none⟩),
  (1233, some ⟨105, [tu 1810974450540283748, tu 1071716249815512381, tu 387344594201418440, tu 1560087748378453177], none⟩),
  (1240, some ⟨107, [tu 599580122152146373, tz, tu 604420494067096305, .rsl 1233 0 1], none⟩)], 1241⟩
noncomputable def Ec2 : XEnv := xenvK pfc tpc glc [c1] [c0]
theorem Ec2_ok : KcOk Tryz.prog Ec2 := xenvK_ok (by simp [c1_ok]) (by simp [c0_ok])
theorem c2_run : chkF Tryz.prog Ec2 glc 100000 c2 = true := by kernel_rfl
theorem c2_ok : KfOk Tryz.prog glc c2 := chkF_ok mixed tpc_ok Ec2_ok c2_run
/-- A call of huddle/huddleref11.Signed: 3215 operations. -/
def c3 : KF :=
  ⟨83, [.agg [ti 1, ti 2, ti 2, ti 0, .rsl 549 0 1, ti 2, ti 0, ti 0, ti 3, .rsl 1240 0 2, ti 0, ti 0, tu 0, ti 0, tz, tz, ti 0, ti 0, tu 0, tz, ti 0, ti 0, tz, tu 0, tz, tu 0, tu 0]], [1233, 1240, 549], [(1233, some ⟨105, [tu 1810974450540283748, tu 1071716249815512381, tu 387344594201418440, tu 1560087748378453177], none⟩),
  (1240, some ⟨107, [tu 599580122152146373, tz, tu 604420494067096305, .rsl 1233 0 1], none⟩),
  (549, some ⟨31, [ti 1, ti 1, tu 862241763743803610], none⟩)], 1242, .agg [ti 1, ti 2, ti 2, ti 0, .rsl 549 0 1, ti 2, ti 0, ti 0, ti 3, .rsl 1240 0 2, ti 0, ti 0, tu 0, ti 0, tz, tz, ti 0, ti 0, tu 0, tz, ti 0, ti 0, tz, tu 0, tz, tu 2055127771027203467, tu 1878427299014042908], [], 1481⟩
noncomputable def Ec3 : XEnv := xenvK pfc tpc glc [c1] [c2, c0]
theorem Ec3_ok : KcOk Tryz.prog Ec3 := xenvK_ok (by simp [c1_ok]) (by simp [c2_ok, c0_ok])
theorem c3_run : chkF Tryz.prog Ec3 glc 100000 c3 = true := by kernel_rfl
theorem c3_ok : KfOk Tryz.prog glc c3 := chkF_ok mixed tpc_ok Ec3_ok c3_run
/-- A call of huddle/huddleref12.Add: 3133 operations. -/
def c4 : KF :=
  ⟨82, [.agg [.rsl 13 0 6, .rsl 486 0 1, .rsl 489 0 1, .rsl 492 0 1, .rsl 496 0 1], .agg [ti 1, ti 2, ti 2, ti 0, .rsl 549 0 1, ti 2, ti 0, ti 0, ti 3, .rsl 1240 0 2, ti 0, ti 0, tu 0, ti 0, tz, tz, ti 0, ti 0, tu 0, tz, ti 0, ti 0, tz, tu 0, tz, tu 2055127771027203467, tu 1878427299014042908]], [1233, 1240, 549, 494, 496, 492, 489, 163, 486, 13], [(1233, some ⟨105, [tu 1810974450540283748, tu 1071716249815512381, tu 387344594201418440, tu 1560087748378453177], none⟩),
  (1240, some ⟨107, [tu 599580122152146373, tz, tu 604420494067096305, .rsl 1233 0 1], none⟩),
  (549, some ⟨31, [ti 1, ti 1, tu 862241763743803610], none⟩),
  (494, some ⟨4, [tb false], none⟩),
  (496, some ⟨231, [.rsl 494 0 1], none⟩),
  (492, some ⟨60, [tz], none⟩),
  (489, some ⟨31, [ti 1, ti 1, tu 862241763743803610], none⟩),
  (163, some ⟨107, [tu 2154745651092665763, tz], none⟩),
  (486, some ⟨66, [ti 1, ti 1, ti 1, ti 0, tz, ti 0, ti 0, ti 0, ti 0, .rsl 163 0 1, ti 0, ti 0, tu 0, ti 0, tz, tz, ti 0, ti 0, tu 0, tz, ti 0, ti 0, tz, tu 0, tz, tu 1223440080342624114, tu 42199551586101612], none⟩),
  (13, some ⟨137, [ti 1, ti 1, tu 1858807316446646070, tu 2294458496254976924, tu 1058522930688824048, ti 2, ti 2, tu 1810974450540283748, tu 732551293757751401, tu 86482453431610406, ti 3, ti 3, tu 490180086995058983, tu 1441871927598236410, tu 1783630545573332436, ti 4, ti 1, tu 1953319703317080786, tu 881125215762738857, tu 1828901513722737251, ti 5, ti 2, tu 603255930034390424, tu 1128020181934541352, tu 1855458293155442097, ti 6, ti 3, tu 681465322610182208, tu 1458595129815633359, tu 1877287273825605593], none⟩)], 1481, .tup [.agg [.rsl 13 0 6, .rsl 1746 0 2, .rsl 1749 0 2, .rsl 1752 0 2, .rsl 1761 0 2], ti 0], [(1759, some ⟨4, [tb true, tb false], none⟩),
  (1755, some ⟨4, [tb false, tb false], none⟩),
  (1761, some ⟨231, [.rsl 1755 0 2, .rsl 1759 0 2], none⟩),
  (1736, some ⟨3, [ti 0], none⟩),
  (1752, some ⟨60, [tz, .rsl 1736 0 1], none⟩),
  (1749, some ⟨31, [ti 1, ti 1, tu 862241763743803610, ti 1, ti 2, tu 684650584379270763], none⟩),
  (1746, some ⟨66, [ti 1, ti 1, ti 1, ti 0, tz, ti 0, ti 0, ti 0, ti 0, .rsl 163 0 1, ti 0, ti 0, tu 0, ti 0, tz, tz, ti 0, ti 0, tu 0, tz, ti 0, ti 0, tz, tu 0, tz, tu 1223440080342624114, tu 42199551586101612, ti 1, ti 2, ti 2, ti 0, .rsl 549 0 1, ti 2, ti 0, ti 0, ti 3, .rsl 1240 0 2, ti 0, ti 0, tu 0, ti 0, tz, tz, ti 0, ti 0, tu 0, tz, ti 0, ti 0, tz, tu 0, tz, tu 2055127771027203467, tu 1878427299014042908], none⟩)], 1762⟩
noncomputable def Ec4 : XEnv := xenvK pfc tpc glc [c1] [c3, c2, c0]
theorem Ec4_ok : KcOk Tryz.prog Ec4 := xenvK_ok (by simp [c1_ok]) (by simp [c3_ok, c2_ok, c0_ok])
theorem c4_run : chkF Tryz.prog Ec4 glc 100000 c4 = true := by kernel_rfl
theorem c4_ok : KfOk Tryz.prog glc c4 := chkF_ok mixed tpc_ok Ec4_ok c4_run
/-- A call of (*huddle/graph.Graph).Add: 5562 operations. -/
def c5 : KE :=
  ⟨39, [.ref 1767 0, .agg [ti 1, ti 2, ti 2, ti 0, .rsl 549 0 1, ti 2, ti 0, ti 0, ti 3, .rsl 1240 0 2, ti 0, ti 0, tu 0, ti 0, tz, tz, ti 0, ti 0, tu 0, tz, ti 0, ti 0, tz, tu 0, tz, tu 2055127771027203467, tu 1878427299014042908]], [(1972, some ⟨164, [ti 1, ti 1, ti 1, ti 0, tz, ti 0, ti 0, ti 0, ti 0, .rsl 1789 0 1, ti 0, ti 0, tu 0, ti 0, tz, tz, ti 0, ti 0, tu 0, tz, ti 0, ti 0, tz, tu 0, tz, tu 1223440080342624114, tu 42199551586101612, ti 1, ti 1, tu 862241763743803610, tu 0, tu 0, tu 0, tu 0, ti 1], none⟩),
  (1971, some ⟨164, [ti 1, ti 1, ti 1, ti 0, tz, ti 0, ti 0, ti 0, ti 0, .rsl 1789 0 1, ti 0, ti 0, tu 0, ti 0, tz, tz, ti 0, ti 0, tu 0, tz, ti 0, ti 0, tz, tu 0, tz, tu 1223440080342624114, tu 42199551586101612, ti 1, ti 1, tu 862241763743803610, tu 0, tu 0, tu 0, tu 0, ti 1], none⟩),
  (1970, some ⟨162, [tu 0, tu 0, tu 0, tu 0], none⟩),
  (1969, some ⟨162, [tu 0, tu 0, tu 0, tu 0], none⟩),
  (1968, some ⟨162, [tu 0, tu 0, tu 0, tu 0], none⟩),
  (1967, some ⟨162, [tu 0, tu 0, tu 0, tu 0], none⟩),
  (1877, some ⟨137, [ti 1, ti 1, tu 1858807316446646070, tu 2294458496254976924, tu 1058522930688824048], none⟩),
  (1789, some ⟨107, [tu 2154745651092665763, tz], none⟩),
  (1785, some ⟨164, [ti 1, ti 1, ti 1, ti 0, tz, ti 0, ti 0, ti 0, ti 0, .rsl 1789 0 1, ti 0, ti 0, tu 0, ti 0, tz, tz, ti 0, ti 0, tu 0, tz, ti 0, ti 0, tz, tu 0, tz, tu 1223440080342624114, tu 42199551586101612, ti 1, ti 1, tu 862241763743803610, tu 0, tu 0, tu 0, tu 0, ti 1], none⟩),
  (1778, some ⟨66, [ti 1, ti 1, ti 1, ti 0, tz, ti 0, ti 0, ti 0, ti 0, .rsl 163 0 1, ti 0, ti 0, tu 0, ti 0, tz, tz, ti 0, ti 0, tu 0, tz, ti 0, ti 0, tz, tu 0, tz, tu 1223440080342624114, tu 42199551586101612], none⟩),
  (1766, some ⟨154, [], some (.map [(.agg #[.int .i64 (1), .int .i64 (1), .int .u64 (862241763743803610)], ti 0, 0)] 1)⟩),
  (1765, some ⟨137, [ti 1, ti 1, tu 1858807316446646070, tu 2294458496254976924, tu 1058522930688824048, ti 2, ti 2, tu 1810974450540283748, tu 732551293757751401, tu 86482453431610406, ti 3, ti 3, tu 490180086995058983, tu 1441871927598236410, tu 1783630545573332436, ti 4, ti 1, tu 1953319703317080786, tu 881125215762738857, tu 1828901513722737251, ti 5, ti 2, tu 603255930034390424, tu 1128020181934541352, tu 1855458293155442097, ti 6, ti 3, tu 681465322610182208, tu 1458595129815633359, tu 1877287273825605593], none⟩),
  (1767, some ⟨157, [.rsl 1765 0 6, .mref 1766, .rsl 1972 0 1], none⟩),
  (1763, some ⟨45, [.rsl 13 0 6, .rsl 1746 0 2, .rsl 1749 0 2, .rsl 1752 0 2, .rsl 1761 0 2], none⟩),
  (1762, some ⟨45, [.rsl 13 0 6, .rsl 1746 0 2, .rsl 1749 0 2, .rsl 1752 0 2, .rsl 1761 0 2], none⟩),
  (1759, some ⟨4, [tb true, tb false], none⟩),
  (1755, some ⟨4, [tb false, tb false], none⟩),
  (1761, some ⟨231, [.rsl 1755 0 2, .rsl 1759 0 2], none⟩),
  (1736, some ⟨3, [ti 0], none⟩),
  (1752, some ⟨60, [tz, .rsl 1736 0 1], none⟩),
  (1749, some ⟨31, [ti 1, ti 1, tu 862241763743803610, ti 1, ti 2, tu 684650584379270763], none⟩),
  (1233, some ⟨105, [tu 1810974450540283748, tu 1071716249815512381, tu 387344594201418440, tu 1560087748378453177], none⟩),
  (1240, some ⟨107, [tu 599580122152146373, tz, tu 604420494067096305, .rsl 1233 0 1], none⟩),
  (549, some ⟨31, [ti 1, ti 1, tu 862241763743803610], none⟩),
  (163, some ⟨107, [tu 2154745651092665763, tz], none⟩),
  (1746, some ⟨66, [ti 1, ti 1, ti 1, ti 0, tz, ti 0, ti 0, ti 0, ti 0, .rsl 163 0 1, ti 0, ti 0, tu 0, ti 0, tz, tz, ti 0, ti 0, tu 0, tz, ti 0, ti 0, tz, tu 0, tz, tu 1223440080342624114, tu 42199551586101612, ti 1, ti 2, ti 2, ti 0, .rsl 549 0 1, ti 2, ti 0, ti 0, ti 3, .rsl 1240 0 2, ti 0, ti 0, tu 0, ti 0, tz, tz, ti 0, ti 0, tu 0, tz, ti 0, ti 0, tz, tu 0, tz, tu 2055127771027203467, tu 1878427299014042908], none⟩),
  (13, some ⟨137, [ti 1, ti 1, tu 1858807316446646070, tu 2294458496254976924, tu 1058522930688824048, ti 2, ti 2, tu 1810974450540283748, tu 732551293757751401, tu 86482453431610406, ti 3, ti 3, tu 490180086995058983, tu 1441871927598236410, tu 1783630545573332436, ti 4, ti 1, tu 1953319703317080786, tu 881125215762738857, tu 1828901513722737251, ti 5, ti 2, tu 603255930034390424, tu 1128020181934541352, tu 1855458293155442097, ti 6, ti 3, tu 681465322610182208, tu 1458595129815633359, tu 1877287273825605593], none⟩)], 1973, [(ti 0, [(2420, some ⟨164, [ti 1, ti 1, ti 1, ti 0, tz, ti 0, ti 0, ti 0, ti 0, .rsl 1789 0 1, ti 0, ti 0, tu 0, ti 0, tz, tz, ti 0, ti 0, tu 0, tz, ti 0, ti 0, tz, tu 0, tz, tu 1223440080342624114, tu 42199551586101612, ti 1, ti 1, tu 862241763743803610, tu 0, tu 0, tu 0, tu 0, ti 1, ti 1, ti 2, ti 2, ti 0, .rsl 1986 0 1, ti 2, ti 0, ti 0, ti 3, .rsl 1988 0 2, ti 0, ti 0, tu 0, ti 0, tz, tz, ti 0, ti 0, tu 0, tz, ti 0, ti 0, tz, tu 0, tz, tu 2055127771027203467, tu 1878427299014042908, ti 1, ti 2, tu 684650584379270763, tu 1, tu 0, tu 0, tu 0, ti 2], none⟩),
  (2419, some ⟨164, [ti 1, ti 2, ti 2, ti 0, .rsl 1986 0 1, ti 2, ti 0, ti 0, ti 3, .rsl 1988 0 2, ti 0, ti 0, tu 0, ti 0, tz, tz, ti 0, ti 0, tu 0, tz, ti 0, ti 0, tz, tu 0, tz, tu 2055127771027203467, tu 1878427299014042908, ti 1, ti 2, tu 684650584379270763, tu 1, tu 0, tu 0, tu 0, ti 2], none⟩),
  (2418, some ⟨162, [tu 1, tu 0, tu 0, tu 0], none⟩),
  (2417, some ⟨162, [tu 0, tu 0, tu 0, tu 0], none⟩),
  (2416, some ⟨162, [tu 0, tu 0, tu 0, tu 0], none⟩),
  (2415, some ⟨31, [ti 1, ti 1, tu 862241763743803610], none⟩),
  (2414, some ⟨162, [tu 0, tu 0, tu 0, tu 0], none⟩),
  (2413, some ⟨162, [tu 1, tu 0, tu 0, tu 0], none⟩),
  (2411, some ⟨31, [ti 0, ti 0, tu 0], none⟩),
  (2199, some ⟨137, [ti 1, ti 1, tu 1858807316446646070, tu 2294458496254976924, tu 1058522930688824048], none⟩),
  (1990, some ⟨105, [tu 1810974450540283748, tu 1071716249815512381, tu 387344594201418440, tu 1560087748378453177], none⟩),
  (1988, some ⟨107, [tu 599580122152146373, tz, tu 604420494067096305, .rsl 1990 0 1], none⟩),
  (1986, some ⟨31, [ti 1, ti 1, tu 862241763743803610], none⟩),
  (1982, some ⟨164, [ti 1, ti 2, ti 2, ti 0, .rsl 1986 0 1, ti 2, ti 0, ti 0, ti 3, .rsl 1988 0 2, ti 0, ti 0, tu 0, ti 0, tz, tz, ti 0, ti 0, tu 0, tz, ti 0, ti 0, tz, tu 0, tz, tu 2055127771027203467, tu 1878427299014042908, ti 1, ti 2, tu 684650584379270763, tu 1, tu 0, tu 0, tu 0, ti 2], none⟩),
  (1973, some ⟨66, [ti 1, ti 2, ti 2, ti 0, .rsl 549 0 1, ti 2, ti 0, ti 0, ti 3, .rsl 1240 0 2, ti 0, ti 0, tu 0, ti 0, tz, tz, ti 0, ti 0, tu 0, tz, ti 0, ti 0, tz, tu 0, tz, tu 2055127771027203467, tu 1878427299014042908], none⟩),
  (1972, none),
  (1971, some ⟨164, [ti 1, ti 1, ti 1, ti 0, tz, ti 0, ti 0, ti 0, ti 0, .rsl 1789 0 1, ti 0, ti 0, tu 0, ti 0, tz, tz, ti 0, ti 0, tu 0, tz, ti 0, ti 0, tz, tu 0, tz, tu 1223440080342624114, tu 42199551586101612, ti 1, ti 1, tu 862241763743803610, tu 0, tu 0, tu 0, tu 0, ti 1], none⟩),
  (1970, some ⟨162, [tu 0, tu 0, tu 0, tu 0], none⟩),
  (1969, some ⟨162, [tu 0, tu 0, tu 0, tu 0], none⟩),
  (1968, some ⟨162, [tu 0, tu 0, tu 0, tu 0], none⟩),
  (1967, some ⟨162, [tu 0, tu 0, tu 0, tu 0], none⟩),
  (1877, some ⟨137, [ti 1, ti 1, tu 1858807316446646070, tu 2294458496254976924, tu 1058522930688824048], none⟩),
  (1789, some ⟨107, [tu 2154745651092665763, tz], none⟩),
  (1785, some ⟨164, [ti 1, ti 1, ti 1, ti 0, tz, ti 0, ti 0, ti 0, ti 0, .rsl 1789 0 1, ti 0, ti 0, tu 0, ti 0, tz, tz, ti 0, ti 0, tu 0, tz, ti 0, ti 0, tz, tu 0, tz, tu 1223440080342624114, tu 42199551586101612, ti 1, ti 1, tu 862241763743803610, tu 0, tu 0, tu 0, tu 0, ti 1], none⟩),
  (1778, some ⟨66, [ti 1, ti 1, ti 1, ti 0, tz, ti 0, ti 0, ti 0, ti 0, .rsl 163 0 1, ti 0, ti 0, tu 0, ti 0, tz, tz, ti 0, ti 0, tu 0, tz, ti 0, ti 0, tz, tu 0, tz, tu 1223440080342624114, tu 42199551586101612], none⟩),
  (1766, some ⟨154, [], some (.map [(.agg #[.int .i64 (1), .int .i64 (1), .int .u64 (862241763743803610)], ti 0, 0), (.agg #[.int .i64 (1), .int .i64 (2), .int .u64 (684650584379270763)], ti 1, 1)] 2)⟩),
  (1765, some ⟨137, [ti 1, ti 1, tu 1858807316446646070, tu 2294458496254976924, tu 1058522930688824048, ti 2, ti 2, tu 1810974450540283748, tu 732551293757751401, tu 86482453431610406, ti 3, ti 3, tu 490180086995058983, tu 1441871927598236410, tu 1783630545573332436, ti 4, ti 1, tu 1953319703317080786, tu 881125215762738857, tu 1828901513722737251, ti 5, ti 2, tu 603255930034390424, tu 1128020181934541352, tu 1855458293155442097, ti 6, ti 3, tu 681465322610182208, tu 1458595129815633359, tu 1877287273825605593], none⟩),
  (1767, some ⟨157, [.rsl 1765 0 6, .mref 1766, .rsl 2420 0 2], none⟩),
  (1763, some ⟨45, [.rsl 13 0 6, .rsl 1746 0 2, .rsl 1749 0 2, .rsl 1752 0 2, .rsl 1761 0 2], none⟩),
  (1762, some ⟨45, [.rsl 13 0 6, .rsl 1746 0 2, .rsl 1749 0 2, .rsl 1752 0 2, .rsl 1761 0 2], none⟩),
  (1759, some ⟨4, [tb true, tb false], none⟩),
  (1755, some ⟨4, [tb false, tb false], none⟩),
  (1761, some ⟨231, [.rsl 1755 0 2, .rsl 1759 0 2], none⟩),
  (1736, some ⟨3, [ti 0], none⟩),
  (1752, some ⟨60, [tz, .rsl 1736 0 1], none⟩),
  (1749, some ⟨31, [ti 1, ti 1, tu 862241763743803610, ti 1, ti 2, tu 684650584379270763], none⟩),
  (1233, some ⟨105, [tu 1810974450540283748, tu 1071716249815512381, tu 387344594201418440, tu 1560087748378453177], none⟩),
  (1240, some ⟨107, [tu 599580122152146373, tz, tu 604420494067096305, .rsl 1233 0 1], none⟩),
  (549, some ⟨31, [ti 1, ti 1, tu 862241763743803610], none⟩),
  (163, some ⟨107, [tu 2154745651092665763, tz], none⟩),
  (1746, some ⟨66, [ti 1, ti 1, ti 1, ti 0, tz, ti 0, ti 0, ti 0, ti 0, .rsl 163 0 1, ti 0, ti 0, tu 0, ti 0, tz, tz, ti 0, ti 0, tu 0, tz, ti 0, ti 0, tz, tu 0, tz, tu 1223440080342624114, tu 42199551586101612, ti 1, ti 2, ti 2, ti 0, .rsl 549 0 1, ti 2, ti 0, ti 0, ti 3, .rsl 1240 0 2, ti 0, ti 0, tu 0, ti 0, tz, tz, ti 0, ti 0, tu 0, tz, ti 0, ti 0, tz, tu 0, tz, tu 2055127771027203467, tu 1878427299014042908], none⟩),
  (13, some ⟨137, [ti 1, ti 1, tu 1858807316446646070, tu 2294458496254976924, tu 1058522930688824048, ti 2, ti 2, tu 1810974450540283748, tu 732551293757751401, tu 86482453431610406, ti 3, ti 3, tu 490180086995058983, tu 1441871927598236410, tu 1783630545573332436, ti 4, ti 1, tu 1953319703317080786, tu 881125215762738857, tu 1828901513722737251, ti 5, ti 2, tu 603255930034390424, tu 1128020181934541352, tu 1855458293155442097, ti 6, ti 3, tu 681465322610182208, tu 1458595129815633359, tu 1877287273825605593], none⟩)], 2421, 1766)]⟩
noncomputable def Ec5 : XEnv := xenvK pfc tpc glc [c1] [c4, c3, c2, c0]
theorem Ec5_ok : KcOk Tryz.prog Ec5 := xenvK_ok (by simp [c1_ok]) (by simp [c4_ok, c3_ok, c2_ok, c0_ok])
theorem c5_run : chkK Tryz.prog Ec5 glc 100000 c5 = true := by kernel_rfl
theorem c5_ok : KeOk Tryz.prog glc c5 := chkK_ok mixed tpc_ok Ec5_ok c5_run
/-- A call of huddle/huddlelaw20.built: 3285 operations. -/
def c6 : KE :=
  ⟨19, [.agg [.rsl 13 0 6, .rsl 1746 0 2, .rsl 1749 0 2, .rsl 1752 0 2, .rsl 1761 0 2]], [(1762, some ⟨45, [.rsl 13 0 6, .rsl 1746 0 2, .rsl 1749 0 2, .rsl 1752 0 2, .rsl 1761 0 2], none⟩),
  (1759, some ⟨4, [tb true, tb false], none⟩),
  (1755, some ⟨4, [tb false, tb false], none⟩),
  (1761, some ⟨231, [.rsl 1755 0 2, .rsl 1759 0 2], none⟩),
  (1736, some ⟨3, [ti 0], none⟩),
  (1752, some ⟨60, [tz, .rsl 1736 0 1], none⟩),
  (1749, some ⟨31, [ti 1, ti 1, tu 862241763743803610, ti 1, ti 2, tu 684650584379270763], none⟩),
  (1233, some ⟨105, [tu 1810974450540283748, tu 1071716249815512381, tu 387344594201418440, tu 1560087748378453177], none⟩),
  (1240, some ⟨107, [tu 599580122152146373, tz, tu 604420494067096305, .rsl 1233 0 1], none⟩),
  (549, some ⟨31, [ti 1, ti 1, tu 862241763743803610], none⟩),
  (163, some ⟨107, [tu 2154745651092665763, tz], none⟩),
  (1746, some ⟨66, [ti 1, ti 1, ti 1, ti 0, tz, ti 0, ti 0, ti 0, ti 0, .rsl 163 0 1, ti 0, ti 0, tu 0, ti 0, tz, tz, ti 0, ti 0, tu 0, tz, ti 0, ti 0, tz, tu 0, tz, tu 1223440080342624114, tu 42199551586101612, ti 1, ti 2, ti 2, ti 0, .rsl 549 0 1, ti 2, ti 0, ti 0, ti 3, .rsl 1240 0 2, ti 0, ti 0, tu 0, ti 0, tz, tz, ti 0, ti 0, tu 0, tz, ti 0, ti 0, tz, tu 0, tz, tu 2055127771027203467, tu 1878427299014042908], none⟩),
  (13, some ⟨137, [ti 1, ti 1, tu 1858807316446646070, tu 2294458496254976924, tu 1058522930688824048, ti 2, ti 2, tu 1810974450540283748, tu 732551293757751401, tu 86482453431610406, ti 3, ti 3, tu 490180086995058983, tu 1441871927598236410, tu 1783630545573332436, ti 4, ti 1, tu 1953319703317080786, tu 881125215762738857, tu 1828901513722737251, ti 5, ti 2, tu 603255930034390424, tu 1128020181934541352, tu 1855458293155442097, ti 6, ti 3, tu 681465322610182208, tu 1458595129815633359, tu 1877287273825605593], none⟩)], 1763, [(.ref 1767 0, [(1990, some ⟨105, [tu 1810974450540283748, tu 1071716249815512381, tu 387344594201418440, tu 1560087748378453177], none⟩),
  (1988, some ⟨107, [tu 599580122152146373, tz, tu 604420494067096305, .rsl 1990 0 1], none⟩),
  (1986, some ⟨31, [ti 1, ti 1, tu 862241763743803610], none⟩),
  (1789, some ⟨107, [tu 2154745651092665763, tz], none⟩),
  (2420, some ⟨164, [ti 1, ti 1, ti 1, ti 0, tz, ti 0, ti 0, ti 0, ti 0, .rsl 1789 0 1, ti 0, ti 0, tu 0, ti 0, tz, tz, ti 0, ti 0, tu 0, tz, ti 0, ti 0, tz, tu 0, tz, tu 1223440080342624114, tu 42199551586101612, ti 1, ti 1, tu 862241763743803610, tu 0, tu 0, tu 0, tu 0, ti 1, ti 1, ti 2, ti 2, ti 0, .rsl 1986 0 1, ti 2, ti 0, ti 0, ti 3, .rsl 1988 0 2, ti 0, ti 0, tu 0, ti 0, tz, tz, ti 0, ti 0, tu 0, tz, ti 0, ti 0, tz, tu 0, tz, tu 2055127771027203467, tu 1878427299014042908, ti 1, ti 2, tu 684650584379270763, tu 1, tu 0, tu 0, tu 0, ti 2], none⟩),
  (1766, some ⟨154, [], some (.map [(.agg #[.int .i64 (1), .int .i64 (1), .int .u64 (862241763743803610)], ti 0, 0), (.agg #[.int .i64 (1), .int .i64 (2), .int .u64 (684650584379270763)], ti 1, 1)] 2)⟩),
  (1765, some ⟨137, [ti 1, ti 1, tu 1858807316446646070, tu 2294458496254976924, tu 1058522930688824048, ti 2, ti 2, tu 1810974450540283748, tu 732551293757751401, tu 86482453431610406, ti 3, ti 3, tu 490180086995058983, tu 1441871927598236410, tu 1783630545573332436, ti 4, ti 1, tu 1953319703317080786, tu 881125215762738857, tu 1828901513722737251, ti 5, ti 2, tu 603255930034390424, tu 1128020181934541352, tu 1855458293155442097, ti 6, ti 3, tu 681465322610182208, tu 1458595129815633359, tu 1877287273825605593], none⟩),
  (1767, some ⟨157, [.rsl 1765 0 6, .mref 1766, .rsl 2420 0 2], none⟩),
  (1762, some ⟨45, [.rsl 13 0 6, .rsl 1746 0 2, .rsl 1749 0 2, .rsl 1752 0 2, .rsl 1761 0 2], none⟩),
  (1759, some ⟨4, [tb true, tb false], none⟩),
  (1755, some ⟨4, [tb false, tb false], none⟩),
  (1761, some ⟨231, [.rsl 1755 0 2, .rsl 1759 0 2], none⟩),
  (1736, some ⟨3, [ti 0], none⟩),
  (1752, some ⟨60, [tz, .rsl 1736 0 1], none⟩),
  (1749, some ⟨31, [ti 1, ti 1, tu 862241763743803610, ti 1, ti 2, tu 684650584379270763], none⟩),
  (1233, some ⟨105, [tu 1810974450540283748, tu 1071716249815512381, tu 387344594201418440, tu 1560087748378453177], none⟩),
  (1240, some ⟨107, [tu 599580122152146373, tz, tu 604420494067096305, .rsl 1233 0 1], none⟩),
  (549, some ⟨31, [ti 1, ti 1, tu 862241763743803610], none⟩),
  (163, some ⟨107, [tu 2154745651092665763, tz], none⟩),
  (1746, some ⟨66, [ti 1, ti 1, ti 1, ti 0, tz, ti 0, ti 0, ti 0, ti 0, .rsl 163 0 1, ti 0, ti 0, tu 0, ti 0, tz, tz, ti 0, ti 0, tu 0, tz, ti 0, ti 0, tz, tu 0, tz, tu 1223440080342624114, tu 42199551586101612, ti 1, ti 2, ti 2, ti 0, .rsl 549 0 1, ti 2, ti 0, ti 0, ti 3, .rsl 1240 0 2, ti 0, ti 0, tu 0, ti 0, tz, tz, ti 0, ti 0, tu 0, tz, ti 0, ti 0, tz, tu 0, tz, tu 2055127771027203467, tu 1878427299014042908], none⟩),
  (13, some ⟨137, [ti 1, ti 1, tu 1858807316446646070, tu 2294458496254976924, tu 1058522930688824048, ti 2, ti 2, tu 1810974450540283748, tu 732551293757751401, tu 86482453431610406, ti 3, ti 3, tu 490180086995058983, tu 1441871927598236410, tu 1783630545573332436, ti 4, ti 1, tu 1953319703317080786, tu 881125215762738857, tu 1828901513722737251, ti 5, ti 2, tu 603255930034390424, tu 1128020181934541352, tu 1855458293155442097, ti 6, ti 3, tu 681465322610182208, tu 1458595129815633359, tu 1877287273825605593], none⟩)], 2421, 1763)]⟩
noncomputable def Ec6 : XEnv := xenvK pfc tpc glc [c5, c1] [c4, c3, c2, c0]
theorem Ec6_ok : KcOk Tryz.prog Ec6 := xenvK_ok (by simp [c5_ok, c1_ok]) (by simp [c4_ok, c3_ok, c2_ok, c0_ok])
theorem c6_run : chkK Tryz.prog Ec6 glc 100000 c6 = true := by kernel_rfl
theorem c6_ok : KeOk Tryz.prog glc c6 := chkK_ok mixed tpc_ok Ec6_ok c6_run
/-- A call of huddle/slots.After: 5278 operations. -/
def c7 : KF :=
  ⟨107, [.ref 1767 0, .agg [ti 1, ti 2, ti 2, ti 0, .rsl 2439 0 1, ti 2, ti 0, ti 0, ti 3, .rsl 2441 0 2, ti 0, ti 0, tu 0, ti 0, tz, tz, ti 0, ti 0, tu 0, tz, ti 0, ti 0, tz, tu 0, tz, tu 2055127771027203467, tu 1878427299014042908]], [2443, 2441, 2439, 1990, 1988, 1986, 1789, 2420, 1766, 1765, 1767], [(2443, some ⟨105, [tu 1810974450540283748, tu 1071716249815512381, tu 387344594201418440, tu 1560087748378453177], none⟩),
  (2441, some ⟨107, [tu 599580122152146373, tz, tu 604420494067096305, .rsl 2443 0 1], none⟩),
  (2439, some ⟨31, [ti 1, ti 1, tu 862241763743803610], none⟩),
  (1990, some ⟨105, [tu 1810974450540283748, tu 1071716249815512381, tu 387344594201418440, tu 1560087748378453177], none⟩),
  (1988, some ⟨107, [tu 599580122152146373, tz, tu 604420494067096305, .rsl 1990 0 1], none⟩),
  (1986, some ⟨31, [ti 1, ti 1, tu 862241763743803610], none⟩),
  (1789, some ⟨107, [tu 2154745651092665763, tz], none⟩),
  (2420, some ⟨164, [ti 1, ti 1, ti 1, ti 0, tz, ti 0, ti 0, ti 0, ti 0, .rsl 1789 0 1, ti 0, ti 0, tu 0, ti 0, tz, tz, ti 0, ti 0, tu 0, tz, ti 0, ti 0, tz, tu 0, tz, tu 1223440080342624114, tu 42199551586101612, ti 1, ti 1, tu 862241763743803610, tu 0, tu 0, tu 0, tu 0, ti 1, ti 1, ti 2, ti 2, ti 0, .rsl 1986 0 1, ti 2, ti 0, ti 0, ti 3, .rsl 1988 0 2, ti 0, ti 0, tu 0, ti 0, tz, tz, ti 0, ti 0, tu 0, tz, ti 0, ti 0, tz, tu 0, tz, tu 2055127771027203467, tu 1878427299014042908, ti 1, ti 2, tu 684650584379270763, tu 1, tu 0, tu 0, tu 0, ti 2], none⟩),
  (1766, some ⟨154, [], some (.map [(.agg #[.int .i64 (1), .int .i64 (1), .int .u64 (862241763743803610)], ti 0, 0), (.agg #[.int .i64 (1), .int .i64 (2), .int .u64 (684650584379270763)], ti 1, 1)] 2)⟩),
  (1765, some ⟨137, [ti 1, ti 1, tu 1858807316446646070, tu 2294458496254976924, tu 1058522930688824048, ti 2, ti 2, tu 1810974450540283748, tu 732551293757751401, tu 86482453431610406, ti 3, ti 3, tu 490180086995058983, tu 1441871927598236410, tu 1783630545573332436, ti 4, ti 1, tu 1953319703317080786, tu 881125215762738857, tu 1828901513722737251, ti 5, ti 2, tu 603255930034390424, tu 1128020181934541352, tu 1855458293155442097, ti 6, ti 3, tu 681465322610182208, tu 1458595129815633359, tu 1877287273825605593], none⟩),
  (1767, some ⟨157, [.rsl 1765 0 6, .mref 1766, .rsl 2420 0 2], none⟩)], 2469, .rsl 2817 0 2, [(2817, some ⟨3, [ti 1, ti 2], none⟩)], 2828⟩
noncomputable def Ec7 : XEnv := xenvK pfc tpc glc [c6, c5, c1] [c4, c3, c2, c0]
theorem Ec7_ok : KcOk Tryz.prog Ec7 := xenvK_ok (by simp [c6_ok, c5_ok, c1_ok]) (by simp [c4_ok, c3_ok, c2_ok, c0_ok])
theorem c7_run : chkF Tryz.prog Ec7 glc 100000 c7 = true := by kernel_rfl
theorem c7_ok : KfOk Tryz.prog glc c7 := chkF_ok mixed tpc_ok Ec7_ok c7_run
/-- A call of (huddle/path.commit).covers: 3163 operations. -/
def c8 : KE :=
  ⟨49, [.agg [.ref 1767 0, ti 1, ti 2, ti 2, ti 0, .rsl 2439 0 1, ti 2, ti 0, ti 0, ti 3, .rsl 2441 0 2, ti 0, ti 0, tu 0, ti 0, tz, tz, ti 0, ti 0, tu 0, tz, ti 0, ti 0, tz, tu 0, tz, tu 2055127771027203467, tu 1878427299014042908, .rsl 2817 0 2, .rsl 2468 0 1]], [(2832, some ⟨3, [ti 1, ti 2], none⟩),
  (2842, some ⟨3, [ti 1], none⟩),
  (2846, some ⟨60, [.rsl 2842 0 1, .rsl 2832 0 2], none⟩),
  (2828, some ⟨88, [.ref 1767 0, ti 1, ti 2, ti 2, ti 0, .rsl 2439 0 1, ti 2, ti 0, ti 0, ti 3, .rsl 2441 0 2, ti 0, ti 0, tu 0, ti 0, tz, tz, ti 0, ti 0, tu 0, tz, ti 0, ti 0, tz, tu 0, tz, tu 2055127771027203467, tu 1878427299014042908, .rsl 2817 0 2, .rsl 2468 0 1], none⟩),
  (2468, some ⟨31, [ti 1, ti 1, tu 862241763743803610], none⟩),
  (2817, some ⟨3, [ti 1, ti 2], none⟩),
  (2444, some ⟨66, [ti 1, ti 2, ti 2, ti 0, .rsl 2439 0 1, ti 2, ti 0, ti 0, ti 3, .rsl 2441 0 2, ti 0, ti 0, tu 0, ti 0, tz, tz, ti 0, ti 0, tu 0, tz, ti 0, ti 0, tz, tu 0, tz, tu 2055127771027203467, tu 1878427299014042908], none⟩),
  (2443, some ⟨105, [tu 1810974450540283748, tu 1071716249815512381, tu 387344594201418440, tu 1560087748378453177], none⟩),
  (2441, some ⟨107, [tu 599580122152146373, tz, tu 604420494067096305, .rsl 2443 0 1], none⟩),
  (2439, some ⟨31, [ti 1, ti 1, tu 862241763743803610], none⟩),
  (2433, some ⟨31, [ti 1, ti 2, tu 684650584379270763], none⟩),
  (2432, some ⟨3, [ti 2], none⟩),
  (2431, some ⟨31, [ti 1, ti 2, tu 684650584379270763], none⟩),
  (2430, some ⟨53, [.rsl 2429 0 1], none⟩),
  (2429, some ⟨22, [tu 2291886921610748822], none⟩),
  (2428, some ⟨22, [tu 112549989845472439, tu 596252773501635330], none⟩),
  (1990, some ⟨105, [tu 1810974450540283748, tu 1071716249815512381, tu 387344594201418440, tu 1560087748378453177], none⟩),
  (1988, some ⟨107, [tu 599580122152146373, tz, tu 604420494067096305, .rsl 1990 0 1], none⟩),
  (1986, some ⟨31, [ti 1, ti 1, tu 862241763743803610], none⟩),
  (1789, some ⟨107, [tu 2154745651092665763, tz], none⟩),
  (2420, some ⟨164, [ti 1, ti 1, ti 1, ti 0, tz, ti 0, ti 0, ti 0, ti 0, .rsl 1789 0 1, ti 0, ti 0, tu 0, ti 0, tz, tz, ti 0, ti 0, tu 0, tz, ti 0, ti 0, tz, tu 0, tz, tu 1223440080342624114, tu 42199551586101612, ti 1, ti 1, tu 862241763743803610, tu 0, tu 0, tu 0, tu 0, ti 1, ti 1, ti 2, ti 2, ti 0, .rsl 1986 0 1, ti 2, ti 0, ti 0, ti 3, .rsl 1988 0 2, ti 0, ti 0, tu 0, ti 0, tz, tz, ti 0, ti 0, tu 0, tz, ti 0, ti 0, tz, tu 0, tz, tu 2055127771027203467, tu 1878427299014042908, ti 1, ti 2, tu 684650584379270763, tu 1, tu 0, tu 0, tu 0, ti 2], none⟩),
  (1766, some ⟨154, [], some (.map [(.agg #[.int .i64 (1), .int .i64 (1), .int .u64 (862241763743803610)], ti 0, 0), (.agg #[.int .i64 (1), .int .i64 (2), .int .u64 (684650584379270763)], ti 1, 1)] 2)⟩),
  (1765, some ⟨137, [ti 1, ti 1, tu 1858807316446646070, tu 2294458496254976924, tu 1058522930688824048, ti 2, ti 2, tu 1810974450540283748, tu 732551293757751401, tu 86482453431610406, ti 3, ti 3, tu 490180086995058983, tu 1441871927598236410, tu 1783630545573332436, ti 4, ti 1, tu 1953319703317080786, tu 881125215762738857, tu 1828901513722737251, ti 5, ti 2, tu 603255930034390424, tu 1128020181934541352, tu 1855458293155442097, ti 6, ti 3, tu 681465322610182208, tu 1458595129815633359, tu 1877287273825605593], none⟩),
  (1767, some ⟨157, [.rsl 1765 0 6, .mref 1766, .rsl 2420 0 2], none⟩),
  (1762, some ⟨45, [.rsl 13 0 6, .rsl 1746 0 2, .rsl 1749 0 2, .rsl 1752 0 2, .rsl 1761 0 2], none⟩),
  (1759, some ⟨4, [tb true, tb false], none⟩),
  (1755, some ⟨4, [tb false, tb false], none⟩),
  (1761, some ⟨231, [.rsl 1755 0 2, .rsl 1759 0 2], none⟩),
  (1736, some ⟨3, [ti 0], none⟩),
  (1752, some ⟨60, [tz, .rsl 1736 0 1], none⟩),
  (1749, some ⟨31, [ti 1, ti 1, tu 862241763743803610, ti 1, ti 2, tu 684650584379270763], none⟩),
  (1233, some ⟨105, [tu 1810974450540283748, tu 1071716249815512381, tu 387344594201418440, tu 1560087748378453177], none⟩),
  (1240, some ⟨107, [tu 599580122152146373, tz, tu 604420494067096305, .rsl 1233 0 1], none⟩),
  (549, some ⟨31, [ti 1, ti 1, tu 862241763743803610], none⟩),
  (163, some ⟨107, [tu 2154745651092665763, tz], none⟩),
  (1746, some ⟨66, [ti 1, ti 1, ti 1, ti 0, tz, ti 0, ti 0, ti 0, ti 0, .rsl 163 0 1, ti 0, ti 0, tu 0, ti 0, tz, tz, ti 0, ti 0, tu 0, tz, ti 0, ti 0, tz, tu 0, tz, tu 1223440080342624114, tu 42199551586101612, ti 1, ti 2, ti 2, ti 0, .rsl 549 0 1, ti 2, ti 0, ti 0, ti 3, .rsl 1240 0 2, ti 0, ti 0, tu 0, ti 0, tz, tz, ti 0, ti 0, tu 0, tz, ti 0, ti 0, tz, tu 0, tz, tu 2055127771027203467, tu 1878427299014042908], none⟩),
  (13, some ⟨137, [ti 1, ti 1, tu 1858807316446646070, tu 2294458496254976924, tu 1058522930688824048, ti 2, ti 2, tu 1810974450540283748, tu 732551293757751401, tu 86482453431610406, ti 3, ti 3, tu 490180086995058983, tu 1441871927598236410, tu 1783630545573332436, ti 4, ti 1, tu 1953319703317080786, tu 881125215762738857, tu 1828901513722737251, ti 5, ti 2, tu 603255930034390424, tu 1128020181934541352, tu 1855458293155442097, ti 6, ti 3, tu 681465322610182208, tu 1458595129815633359, tu 1877287273825605593], none⟩)], 2848, [(.rsl 3053 0 1, [(3048, some ⟨3, [ti 2], none⟩),
  (3051, some ⟨99, [.rsl 3048 0 1, tu 1810974450540283748, ti 0, ti 0, tu 0, ti 0], none⟩),
  (3053, some ⟨94, [.rsl 3051 0 1], none⟩),
  (2832, some ⟨3, [ti 1, ti 2], none⟩),
  (2842, some ⟨3, [ti 1], none⟩),
  (2846, some ⟨60, [.rsl 2842 0 1, .rsl 2832 0 2], none⟩),
  (2828, some ⟨88, [.ref 1767 0, ti 1, ti 2, ti 2, ti 0, .rsl 2439 0 1, ti 2, ti 0, ti 0, ti 3, .rsl 2441 0 2, ti 0, ti 0, tu 0, ti 0, tz, tz, ti 0, ti 0, tu 0, tz, ti 0, ti 0, tz, tu 0, tz, tu 2055127771027203467, tu 1878427299014042908, .rsl 2817 0 2, .rsl 2468 0 1], none⟩),
  (2468, some ⟨31, [ti 1, ti 1, tu 862241763743803610], none⟩),
  (2817, some ⟨3, [ti 1, ti 2], none⟩),
  (2444, some ⟨66, [ti 1, ti 2, ti 2, ti 0, .rsl 2439 0 1, ti 2, ti 0, ti 0, ti 3, .rsl 2441 0 2, ti 0, ti 0, tu 0, ti 0, tz, tz, ti 0, ti 0, tu 0, tz, ti 0, ti 0, tz, tu 0, tz, tu 2055127771027203467, tu 1878427299014042908], none⟩),
  (2443, some ⟨105, [tu 1810974450540283748, tu 1071716249815512381, tu 387344594201418440, tu 1560087748378453177], none⟩),
  (2441, some ⟨107, [tu 599580122152146373, tz, tu 604420494067096305, .rsl 2443 0 1], none⟩),
  (2439, some ⟨31, [ti 1, ti 1, tu 862241763743803610], none⟩),
  (2433, some ⟨31, [ti 1, ti 2, tu 684650584379270763], none⟩),
  (2432, some ⟨3, [ti 2], none⟩),
  (2431, some ⟨31, [ti 1, ti 2, tu 684650584379270763], none⟩),
  (2430, some ⟨53, [.rsl 2429 0 1], none⟩),
  (2429, some ⟨22, [tu 2291886921610748822], none⟩),
  (2428, some ⟨22, [tu 112549989845472439, tu 596252773501635330], none⟩),
  (1990, some ⟨105, [tu 1810974450540283748, tu 1071716249815512381, tu 387344594201418440, tu 1560087748378453177], none⟩),
  (1988, some ⟨107, [tu 599580122152146373, tz, tu 604420494067096305, .rsl 1990 0 1], none⟩),
  (1986, some ⟨31, [ti 1, ti 1, tu 862241763743803610], none⟩),
  (1789, some ⟨107, [tu 2154745651092665763, tz], none⟩),
  (2420, some ⟨164, [ti 1, ti 1, ti 1, ti 0, tz, ti 0, ti 0, ti 0, ti 0, .rsl 1789 0 1, ti 0, ti 0, tu 0, ti 0, tz, tz, ti 0, ti 0, tu 0, tz, ti 0, ti 0, tz, tu 0, tz, tu 1223440080342624114, tu 42199551586101612, ti 1, ti 1, tu 862241763743803610, tu 0, tu 0, tu 0, tu 0, ti 1, ti 1, ti 2, ti 2, ti 0, .rsl 1986 0 1, ti 2, ti 0, ti 0, ti 3, .rsl 1988 0 2, ti 0, ti 0, tu 0, ti 0, tz, tz, ti 0, ti 0, tu 0, tz, ti 0, ti 0, tz, tu 0, tz, tu 2055127771027203467, tu 1878427299014042908, ti 1, ti 2, tu 684650584379270763, tu 1, tu 0, tu 0, tu 0, ti 2], none⟩),
  (1766, some ⟨154, [], some (.map [(.agg #[.int .i64 (1), .int .i64 (1), .int .u64 (862241763743803610)], ti 0, 0), (.agg #[.int .i64 (1), .int .i64 (2), .int .u64 (684650584379270763)], ti 1, 1)] 2)⟩),
  (1765, some ⟨137, [ti 1, ti 1, tu 1858807316446646070, tu 2294458496254976924, tu 1058522930688824048, ti 2, ti 2, tu 1810974450540283748, tu 732551293757751401, tu 86482453431610406, ti 3, ti 3, tu 490180086995058983, tu 1441871927598236410, tu 1783630545573332436, ti 4, ti 1, tu 1953319703317080786, tu 881125215762738857, tu 1828901513722737251, ti 5, ti 2, tu 603255930034390424, tu 1128020181934541352, tu 1855458293155442097, ti 6, ti 3, tu 681465322610182208, tu 1458595129815633359, tu 1877287273825605593], none⟩),
  (1767, some ⟨157, [.rsl 1765 0 6, .mref 1766, .rsl 2420 0 2], none⟩),
  (1762, some ⟨45, [.rsl 13 0 6, .rsl 1746 0 2, .rsl 1749 0 2, .rsl 1752 0 2, .rsl 1761 0 2], none⟩),
  (1759, some ⟨4, [tb true, tb false], none⟩),
  (1755, some ⟨4, [tb false, tb false], none⟩),
  (1761, some ⟨231, [.rsl 1755 0 2, .rsl 1759 0 2], none⟩),
  (1736, some ⟨3, [ti 0], none⟩),
  (1752, some ⟨60, [tz, .rsl 1736 0 1], none⟩),
  (1749, some ⟨31, [ti 1, ti 1, tu 862241763743803610, ti 1, ti 2, tu 684650584379270763], none⟩),
  (1233, some ⟨105, [tu 1810974450540283748, tu 1071716249815512381, tu 387344594201418440, tu 1560087748378453177], none⟩),
  (1240, some ⟨107, [tu 599580122152146373, tz, tu 604420494067096305, .rsl 1233 0 1], none⟩),
  (549, some ⟨31, [ti 1, ti 1, tu 862241763743803610], none⟩),
  (163, some ⟨107, [tu 2154745651092665763, tz], none⟩),
  (1746, some ⟨66, [ti 1, ti 1, ti 1, ti 0, tz, ti 0, ti 0, ti 0, ti 0, .rsl 163 0 1, ti 0, ti 0, tu 0, ti 0, tz, tz, ti 0, ti 0, tu 0, tz, ti 0, ti 0, tz, tu 0, tz, tu 1223440080342624114, tu 42199551586101612, ti 1, ti 2, ti 2, ti 0, .rsl 549 0 1, ti 2, ti 0, ti 0, ti 3, .rsl 1240 0 2, ti 0, ti 0, tu 0, ti 0, tz, tz, ti 0, ti 0, tu 0, tz, ti 0, ti 0, tz, tu 0, tz, tu 2055127771027203467, tu 1878427299014042908], none⟩),
  (13, some ⟨137, [ti 1, ti 1, tu 1858807316446646070, tu 2294458496254976924, tu 1058522930688824048, ti 2, ti 2, tu 1810974450540283748, tu 732551293757751401, tu 86482453431610406, ti 3, ti 3, tu 490180086995058983, tu 1441871927598236410, tu 1783630545573332436, ti 4, ti 1, tu 1953319703317080786, tu 881125215762738857, tu 1828901513722737251, ti 5, ti 2, tu 603255930034390424, tu 1128020181934541352, tu 1855458293155442097, ti 6, ti 3, tu 681465322610182208, tu 1458595129815633359, tu 1877287273825605593], none⟩)], 3054, 2848)]⟩
noncomputable def Ec8 : XEnv := xenvK pfc tpc glc [c6, c5, c1] [c7, c4, c3, c2, c0]
theorem Ec8_ok : KcOk Tryz.prog Ec8 := xenvK_ok (by simp [c6_ok, c5_ok, c1_ok]) (by simp [c7_ok, c4_ok, c3_ok, c2_ok, c0_ok])
theorem c8_run : chkK Tryz.prog Ec8 glc 100000 c8 = true := by kernel_rfl
theorem c8_ok : KeOk Tryz.prog glc c8 := chkK_ok mixed tpc_ok Ec8_ok c8_run
/-- A call of huddle/slots.After: 5278 operations. -/
def c9 : KF :=
  ⟨107, [.ref 1767 0, .agg [ti 1, ti 2, ti 2, ti 0, .rsl 3064 0 1, ti 2, ti 0, ti 0, ti 3, .rsl 3066 0 2, ti 0, ti 0, tu 0, ti 0, tz, tz, ti 0, ti 0, tu 0, tz, ti 0, ti 0, tz, tu 0, tz, tu 2055127771027203467, tu 1878427299014042908]], [3068, 3066, 3064, 1990, 1988, 1986, 1789, 2420, 1766, 1765, 1767], [(3068, some ⟨105, [tu 1810974450540283748, tu 1071716249815512381, tu 387344594201418440, tu 1560087748378453177], none⟩),
  (3066, some ⟨107, [tu 599580122152146373, tz, tu 604420494067096305, .rsl 3068 0 1], none⟩),
  (3064, some ⟨31, [ti 1, ti 1, tu 862241763743803610], none⟩),
  (1990, some ⟨105, [tu 1810974450540283748, tu 1071716249815512381, tu 387344594201418440, tu 1560087748378453177], none⟩),
  (1988, some ⟨107, [tu 599580122152146373, tz, tu 604420494067096305, .rsl 1990 0 1], none⟩),
  (1986, some ⟨31, [ti 1, ti 1, tu 862241763743803610], none⟩),
  (1789, some ⟨107, [tu 2154745651092665763, tz], none⟩),
  (2420, some ⟨164, [ti 1, ti 1, ti 1, ti 0, tz, ti 0, ti 0, ti 0, ti 0, .rsl 1789 0 1, ti 0, ti 0, tu 0, ti 0, tz, tz, ti 0, ti 0, tu 0, tz, ti 0, ti 0, tz, tu 0, tz, tu 1223440080342624114, tu 42199551586101612, ti 1, ti 1, tu 862241763743803610, tu 0, tu 0, tu 0, tu 0, ti 1, ti 1, ti 2, ti 2, ti 0, .rsl 1986 0 1, ti 2, ti 0, ti 0, ti 3, .rsl 1988 0 2, ti 0, ti 0, tu 0, ti 0, tz, tz, ti 0, ti 0, tu 0, tz, ti 0, ti 0, tz, tu 0, tz, tu 2055127771027203467, tu 1878427299014042908, ti 1, ti 2, tu 684650584379270763, tu 1, tu 0, tu 0, tu 0, ti 2], none⟩),
  (1766, some ⟨154, [], some (.map [(.agg #[.int .i64 (1), .int .i64 (1), .int .u64 (862241763743803610)], ti 0, 0), (.agg #[.int .i64 (1), .int .i64 (2), .int .u64 (684650584379270763)], ti 1, 1)] 2)⟩),
  (1765, some ⟨137, [ti 1, ti 1, tu 1858807316446646070, tu 2294458496254976924, tu 1058522930688824048, ti 2, ti 2, tu 1810974450540283748, tu 732551293757751401, tu 86482453431610406, ti 3, ti 3, tu 490180086995058983, tu 1441871927598236410, tu 1783630545573332436, ti 4, ti 1, tu 1953319703317080786, tu 881125215762738857, tu 1828901513722737251, ti 5, ti 2, tu 603255930034390424, tu 1128020181934541352, tu 1855458293155442097, ti 6, ti 3, tu 681465322610182208, tu 1458595129815633359, tu 1877287273825605593], none⟩),
  (1767, some ⟨157, [.rsl 1765 0 6, .mref 1766, .rsl 2420 0 2], none⟩)], 3094, .rsl 3442 0 2, [(3442, some ⟨3, [ti 1, ti 2], none⟩)], 3453⟩
noncomputable def Ec9 : XEnv := xenvK pfc tpc glc [c8, c6, c5, c1] [c7, c4, c3, c2, c0]
theorem Ec9_ok : KcOk Tryz.prog Ec9 := xenvK_ok (by simp [c8_ok, c6_ok, c5_ok, c1_ok]) (by simp [c7_ok, c4_ok, c3_ok, c2_ok, c0_ok])
theorem c9_run : chkF Tryz.prog Ec9 glc 100000 c9 = true := by kernel_rfl
theorem c9_ok : KfOk Tryz.prog glc c9 := chkF_ok mixed tpc_ok Ec9_ok c9_run
/-- A call of (huddle/path.commit).covers: 3163 operations. -/
def c10 : KE :=
  ⟨49, [.agg [.ref 1767 0, ti 1, ti 2, ti 2, ti 0, .rsl 3064 0 1, ti 2, ti 0, ti 0, ti 3, .rsl 3066 0 2, ti 0, ti 0, tu 0, ti 0, tz, tz, ti 0, ti 0, tu 0, tz, ti 0, ti 0, tz, tu 0, tz, tu 2055127771027203467, tu 1878427299014042908, .rsl 3442 0 2, .rsl 3093 0 1]], [(3458, some ⟨3, [ti 1, ti 2], none⟩),
  (3468, some ⟨3, [ti 1], none⟩),
  (3472, some ⟨60, [.rsl 3468 0 1, .rsl 3458 0 2], none⟩),
  (3453, some ⟨88, [.ref 1767 0, ti 1, ti 2, ti 2, ti 0, .rsl 3064 0 1, ti 2, ti 0, ti 0, ti 3, .rsl 3066 0 2, ti 0, ti 0, tu 0, ti 0, tz, tz, ti 0, ti 0, tu 0, tz, ti 0, ti 0, tz, tu 0, tz, tu 2055127771027203467, tu 1878427299014042908, .rsl 3442 0 2, .rsl 3093 0 1], none⟩),
  (3093, some ⟨31, [ti 1, ti 1, tu 862241763743803610], none⟩),
  (3442, some ⟨3, [ti 1, ti 2], none⟩),
  (3069, some ⟨66, [ti 1, ti 2, ti 2, ti 0, .rsl 3064 0 1, ti 2, ti 0, ti 0, ti 3, .rsl 3066 0 2, ti 0, ti 0, tu 0, ti 0, tz, tz, ti 0, ti 0, tu 0, tz, ti 0, ti 0, tz, tu 0, tz, tu 2055127771027203467, tu 1878427299014042908], none⟩),
  (3068, some ⟨105, [tu 1810974450540283748, tu 1071716249815512381, tu 387344594201418440, tu 1560087748378453177], none⟩),
  (3066, some ⟨107, [tu 599580122152146373, tz, tu 604420494067096305, .rsl 3068 0 1], none⟩),
  (3064, some ⟨31, [ti 1, ti 1, tu 862241763743803610], none⟩),
  (2432, some ⟨3, [ti 2], none⟩),
  (2431, some ⟨31, [ti 1, ti 2, tu 684650584379270763], none⟩),
  (2430, some ⟨53, [.rsl 2429 0 1], none⟩),
  (2429, some ⟨22, [tu 2291886921610748822], none⟩),
  (2428, some ⟨22, [tu 112549989845472439, tu 596252773501635330], none⟩),
  (1990, some ⟨105, [tu 1810974450540283748, tu 1071716249815512381, tu 387344594201418440, tu 1560087748378453177], none⟩),
  (1988, some ⟨107, [tu 599580122152146373, tz, tu 604420494067096305, .rsl 1990 0 1], none⟩),
  (1986, some ⟨31, [ti 1, ti 1, tu 862241763743803610], none⟩),
  (1789, some ⟨107, [tu 2154745651092665763, tz], none⟩),
  (2420, some ⟨164, [ti 1, ti 1, ti 1, ti 0, tz, ti 0, ti 0, ti 0, ti 0, .rsl 1789 0 1, ti 0, ti 0, tu 0, ti 0, tz, tz, ti 0, ti 0, tu 0, tz, ti 0, ti 0, tz, tu 0, tz, tu 1223440080342624114, tu 42199551586101612, ti 1, ti 1, tu 862241763743803610, tu 0, tu 0, tu 0, tu 0, ti 1, ti 1, ti 2, ti 2, ti 0, .rsl 1986 0 1, ti 2, ti 0, ti 0, ti 3, .rsl 1988 0 2, ti 0, ti 0, tu 0, ti 0, tz, tz, ti 0, ti 0, tu 0, tz, ti 0, ti 0, tz, tu 0, tz, tu 2055127771027203467, tu 1878427299014042908, ti 1, ti 2, tu 684650584379270763, tu 1, tu 0, tu 0, tu 0, ti 2], none⟩),
  (1766, some ⟨154, [], some (.map [(.agg #[.int .i64 (1), .int .i64 (1), .int .u64 (862241763743803610)], ti 0, 0), (.agg #[.int .i64 (1), .int .i64 (2), .int .u64 (684650584379270763)], ti 1, 1)] 2)⟩),
  (1765, some ⟨137, [ti 1, ti 1, tu 1858807316446646070, tu 2294458496254976924, tu 1058522930688824048, ti 2, ti 2, tu 1810974450540283748, tu 732551293757751401, tu 86482453431610406, ti 3, ti 3, tu 490180086995058983, tu 1441871927598236410, tu 1783630545573332436, ti 4, ti 1, tu 1953319703317080786, tu 881125215762738857, tu 1828901513722737251, ti 5, ti 2, tu 603255930034390424, tu 1128020181934541352, tu 1855458293155442097, ti 6, ti 3, tu 681465322610182208, tu 1458595129815633359, tu 1877287273825605593], none⟩),
  (1767, some ⟨157, [.rsl 1765 0 6, .mref 1766, .rsl 2420 0 2], none⟩),
  (1762, some ⟨45, [.rsl 13 0 6, .rsl 1746 0 2, .rsl 1749 0 2, .rsl 1752 0 2, .rsl 1761 0 2], none⟩),
  (1759, some ⟨4, [tb true, tb false], none⟩),
  (1755, some ⟨4, [tb false, tb false], none⟩),
  (1761, some ⟨231, [.rsl 1755 0 2, .rsl 1759 0 2], none⟩),
  (1736, some ⟨3, [ti 0], none⟩),
  (1752, some ⟨60, [tz, .rsl 1736 0 1], none⟩),
  (1749, some ⟨31, [ti 1, ti 1, tu 862241763743803610, ti 1, ti 2, tu 684650584379270763], none⟩),
  (1233, some ⟨105, [tu 1810974450540283748, tu 1071716249815512381, tu 387344594201418440, tu 1560087748378453177], none⟩),
  (1240, some ⟨107, [tu 599580122152146373, tz, tu 604420494067096305, .rsl 1233 0 1], none⟩),
  (549, some ⟨31, [ti 1, ti 1, tu 862241763743803610], none⟩),
  (163, some ⟨107, [tu 2154745651092665763, tz], none⟩),
  (1746, some ⟨66, [ti 1, ti 1, ti 1, ti 0, tz, ti 0, ti 0, ti 0, ti 0, .rsl 163 0 1, ti 0, ti 0, tu 0, ti 0, tz, tz, ti 0, ti 0, tu 0, tz, ti 0, ti 0, tz, tu 0, tz, tu 1223440080342624114, tu 42199551586101612, ti 1, ti 2, ti 2, ti 0, .rsl 549 0 1, ti 2, ti 0, ti 0, ti 3, .rsl 1240 0 2, ti 0, ti 0, tu 0, ti 0, tz, tz, ti 0, ti 0, tu 0, tz, ti 0, ti 0, tz, tu 0, tz, tu 2055127771027203467, tu 1878427299014042908], none⟩),
  (13, some ⟨137, [ti 1, ti 1, tu 1858807316446646070, tu 2294458496254976924, tu 1058522930688824048, ti 2, ti 2, tu 1810974450540283748, tu 732551293757751401, tu 86482453431610406, ti 3, ti 3, tu 490180086995058983, tu 1441871927598236410, tu 1783630545573332436, ti 4, ti 1, tu 1953319703317080786, tu 881125215762738857, tu 1828901513722737251, ti 5, ti 2, tu 603255930034390424, tu 1128020181934541352, tu 1855458293155442097, ti 6, ti 3, tu 681465322610182208, tu 1458595129815633359, tu 1877287273825605593], none⟩)], 3473, [(.rsl 3678 0 1, [(3673, some ⟨3, [ti 2], none⟩),
  (3676, some ⟨99, [.rsl 3673 0 1, tu 1810974450540283748, ti 0, ti 0, tu 0, ti 0], none⟩),
  (3678, some ⟨94, [.rsl 3676 0 1], none⟩),
  (3458, some ⟨3, [ti 1, ti 2], none⟩),
  (3468, some ⟨3, [ti 1], none⟩),
  (3472, some ⟨60, [.rsl 3468 0 1, .rsl 3458 0 2], none⟩),
  (3453, some ⟨88, [.ref 1767 0, ti 1, ti 2, ti 2, ti 0, .rsl 3064 0 1, ti 2, ti 0, ti 0, ti 3, .rsl 3066 0 2, ti 0, ti 0, tu 0, ti 0, tz, tz, ti 0, ti 0, tu 0, tz, ti 0, ti 0, tz, tu 0, tz, tu 2055127771027203467, tu 1878427299014042908, .rsl 3442 0 2, .rsl 3093 0 1], none⟩),
  (3093, some ⟨31, [ti 1, ti 1, tu 862241763743803610], none⟩),
  (3442, some ⟨3, [ti 1, ti 2], none⟩),
  (3069, some ⟨66, [ti 1, ti 2, ti 2, ti 0, .rsl 3064 0 1, ti 2, ti 0, ti 0, ti 3, .rsl 3066 0 2, ti 0, ti 0, tu 0, ti 0, tz, tz, ti 0, ti 0, tu 0, tz, ti 0, ti 0, tz, tu 0, tz, tu 2055127771027203467, tu 1878427299014042908], none⟩),
  (3068, some ⟨105, [tu 1810974450540283748, tu 1071716249815512381, tu 387344594201418440, tu 1560087748378453177], none⟩),
  (3066, some ⟨107, [tu 599580122152146373, tz, tu 604420494067096305, .rsl 3068 0 1], none⟩),
  (3064, some ⟨31, [ti 1, ti 1, tu 862241763743803610], none⟩),
  (2432, some ⟨3, [ti 2], none⟩),
  (2431, some ⟨31, [ti 1, ti 2, tu 684650584379270763], none⟩),
  (2430, some ⟨53, [.rsl 2429 0 1], none⟩),
  (2429, some ⟨22, [tu 2291886921610748822], none⟩),
  (2428, some ⟨22, [tu 112549989845472439, tu 596252773501635330], none⟩),
  (1990, some ⟨105, [tu 1810974450540283748, tu 1071716249815512381, tu 387344594201418440, tu 1560087748378453177], none⟩),
  (1988, some ⟨107, [tu 599580122152146373, tz, tu 604420494067096305, .rsl 1990 0 1], none⟩),
  (1986, some ⟨31, [ti 1, ti 1, tu 862241763743803610], none⟩),
  (1789, some ⟨107, [tu 2154745651092665763, tz], none⟩),
  (2420, some ⟨164, [ti 1, ti 1, ti 1, ti 0, tz, ti 0, ti 0, ti 0, ti 0, .rsl 1789 0 1, ti 0, ti 0, tu 0, ti 0, tz, tz, ti 0, ti 0, tu 0, tz, ti 0, ti 0, tz, tu 0, tz, tu 1223440080342624114, tu 42199551586101612, ti 1, ti 1, tu 862241763743803610, tu 0, tu 0, tu 0, tu 0, ti 1, ti 1, ti 2, ti 2, ti 0, .rsl 1986 0 1, ti 2, ti 0, ti 0, ti 3, .rsl 1988 0 2, ti 0, ti 0, tu 0, ti 0, tz, tz, ti 0, ti 0, tu 0, tz, ti 0, ti 0, tz, tu 0, tz, tu 2055127771027203467, tu 1878427299014042908, ti 1, ti 2, tu 684650584379270763, tu 1, tu 0, tu 0, tu 0, ti 2], none⟩),
  (1766, some ⟨154, [], some (.map [(.agg #[.int .i64 (1), .int .i64 (1), .int .u64 (862241763743803610)], ti 0, 0), (.agg #[.int .i64 (1), .int .i64 (2), .int .u64 (684650584379270763)], ti 1, 1)] 2)⟩),
  (1765, some ⟨137, [ti 1, ti 1, tu 1858807316446646070, tu 2294458496254976924, tu 1058522930688824048, ti 2, ti 2, tu 1810974450540283748, tu 732551293757751401, tu 86482453431610406, ti 3, ti 3, tu 490180086995058983, tu 1441871927598236410, tu 1783630545573332436, ti 4, ti 1, tu 1953319703317080786, tu 881125215762738857, tu 1828901513722737251, ti 5, ti 2, tu 603255930034390424, tu 1128020181934541352, tu 1855458293155442097, ti 6, ti 3, tu 681465322610182208, tu 1458595129815633359, tu 1877287273825605593], none⟩),
  (1767, some ⟨157, [.rsl 1765 0 6, .mref 1766, .rsl 2420 0 2], none⟩),
  (1762, some ⟨45, [.rsl 13 0 6, .rsl 1746 0 2, .rsl 1749 0 2, .rsl 1752 0 2, .rsl 1761 0 2], none⟩),
  (1759, some ⟨4, [tb true, tb false], none⟩),
  (1755, some ⟨4, [tb false, tb false], none⟩),
  (1761, some ⟨231, [.rsl 1755 0 2, .rsl 1759 0 2], none⟩),
  (1736, some ⟨3, [ti 0], none⟩),
  (1752, some ⟨60, [tz, .rsl 1736 0 1], none⟩),
  (1749, some ⟨31, [ti 1, ti 1, tu 862241763743803610, ti 1, ti 2, tu 684650584379270763], none⟩),
  (1233, some ⟨105, [tu 1810974450540283748, tu 1071716249815512381, tu 387344594201418440, tu 1560087748378453177], none⟩),
  (1240, some ⟨107, [tu 599580122152146373, tz, tu 604420494067096305, .rsl 1233 0 1], none⟩),
  (549, some ⟨31, [ti 1, ti 1, tu 862241763743803610], none⟩),
  (163, some ⟨107, [tu 2154745651092665763, tz], none⟩),
  (1746, some ⟨66, [ti 1, ti 1, ti 1, ti 0, tz, ti 0, ti 0, ti 0, ti 0, .rsl 163 0 1, ti 0, ti 0, tu 0, ti 0, tz, tz, ti 0, ti 0, tu 0, tz, ti 0, ti 0, tz, tu 0, tz, tu 1223440080342624114, tu 42199551586101612, ti 1, ti 2, ti 2, ti 0, .rsl 549 0 1, ti 2, ti 0, ti 0, ti 3, .rsl 1240 0 2, ti 0, ti 0, tu 0, ti 0, tz, tz, ti 0, ti 0, tu 0, tz, ti 0, ti 0, tz, tu 0, tz, tu 2055127771027203467, tu 1878427299014042908], none⟩),
  (13, some ⟨137, [ti 1, ti 1, tu 1858807316446646070, tu 2294458496254976924, tu 1058522930688824048, ti 2, ti 2, tu 1810974450540283748, tu 732551293757751401, tu 86482453431610406, ti 3, ti 3, tu 490180086995058983, tu 1441871927598236410, tu 1783630545573332436, ti 4, ti 1, tu 1953319703317080786, tu 881125215762738857, tu 1828901513722737251, ti 5, ti 2, tu 603255930034390424, tu 1128020181934541352, tu 1855458293155442097, ti 6, ti 3, tu 681465322610182208, tu 1458595129815633359, tu 1877287273825605593], none⟩)], 3679, 3473)]⟩
noncomputable def Ec10 : XEnv := xenvK pfc tpc glc [c8, c6, c5, c1] [c9, c7, c4, c3, c2, c0]
theorem Ec10_ok : KcOk Tryz.prog Ec10 := xenvK_ok (by simp [c8_ok, c6_ok, c5_ok, c1_ok]) (by simp [c9_ok, c7_ok, c4_ok, c3_ok, c2_ok, c0_ok])
theorem c10_run : chkK Tryz.prog Ec10 glc 100000 c10 = true := by kernel_rfl
theorem c10_ok : KeOk Tryz.prog glc c10 := chkK_ok mixed tpc_ok Ec10_ok c10_run
/-- A call of huddle/slots.After: 5278 operations. -/
def c11 : KF :=
  ⟨107, [.ref 1767 0, .agg [ti 1, ti 2, ti 2, ti 0, .rsl 3695 0 1, ti 2, ti 0, ti 0, ti 3, .rsl 3697 0 2, ti 0, ti 0, tu 0, ti 0, tz, tz, ti 0, ti 0, tu 0, tz, ti 0, ti 0, tz, tu 0, tz, tu 2055127771027203467, tu 1878427299014042908]], [3699, 3697, 3695, 1990, 1988, 1986, 1789, 2420, 1766, 1765, 1767], [(3699, some ⟨105, [tu 1810974450540283748, tu 1071716249815512381, tu 387344594201418440, tu 1560087748378453177], none⟩),
  (3697, some ⟨107, [tu 599580122152146373, tz, tu 604420494067096305, .rsl 3699 0 1], none⟩),
  (3695, some ⟨31, [ti 1, ti 1, tu 862241763743803610], none⟩),
  (1990, some ⟨105, [tu 1810974450540283748, tu 1071716249815512381, tu 387344594201418440, tu 1560087748378453177], none⟩),
  (1988, some ⟨107, [tu 599580122152146373, tz, tu 604420494067096305, .rsl 1990 0 1], none⟩),
  (1986, some ⟨31, [ti 1, ti 1, tu 862241763743803610], none⟩),
  (1789, some ⟨107, [tu 2154745651092665763, tz], none⟩),
  (2420, some ⟨164, [ti 1, ti 1, ti 1, ti 0, tz, ti 0, ti 0, ti 0, ti 0, .rsl 1789 0 1, ti 0, ti 0, tu 0, ti 0, tz, tz, ti 0, ti 0, tu 0, tz, ti 0, ti 0, tz, tu 0, tz, tu 1223440080342624114, tu 42199551586101612, ti 1, ti 1, tu 862241763743803610, tu 0, tu 0, tu 0, tu 0, ti 1, ti 1, ti 2, ti 2, ti 0, .rsl 1986 0 1, ti 2, ti 0, ti 0, ti 3, .rsl 1988 0 2, ti 0, ti 0, tu 0, ti 0, tz, tz, ti 0, ti 0, tu 0, tz, ti 0, ti 0, tz, tu 0, tz, tu 2055127771027203467, tu 1878427299014042908, ti 1, ti 2, tu 684650584379270763, tu 1, tu 0, tu 0, tu 0, ti 2], none⟩),
  (1766, some ⟨154, [], some (.map [(.agg #[.int .i64 (1), .int .i64 (1), .int .u64 (862241763743803610)], ti 0, 0), (.agg #[.int .i64 (1), .int .i64 (2), .int .u64 (684650584379270763)], ti 1, 1)] 2)⟩),
  (1765, some ⟨137, [ti 1, ti 1, tu 1858807316446646070, tu 2294458496254976924, tu 1058522930688824048, ti 2, ti 2, tu 1810974450540283748, tu 732551293757751401, tu 86482453431610406, ti 3, ti 3, tu 490180086995058983, tu 1441871927598236410, tu 1783630545573332436, ti 4, ti 1, tu 1953319703317080786, tu 881125215762738857, tu 1828901513722737251, ti 5, ti 2, tu 603255930034390424, tu 1128020181934541352, tu 1855458293155442097, ti 6, ti 3, tu 681465322610182208, tu 1458595129815633359, tu 1877287273825605593], none⟩),
  (1767, some ⟨157, [.rsl 1765 0 6, .mref 1766, .rsl 2420 0 2], none⟩)], 3725, .rsl 4073 0 2, [(4073, some ⟨3, [ti 1, ti 2], none⟩)], 4084⟩
noncomputable def Ec11 : XEnv := xenvK pfc tpc glc [c10, c8, c6, c5, c1] [c9, c7, c4, c3, c2, c0]
theorem Ec11_ok : KcOk Tryz.prog Ec11 := xenvK_ok (by simp [c10_ok, c8_ok, c6_ok, c5_ok, c1_ok]) (by simp [c9_ok, c7_ok, c4_ok, c3_ok, c2_ok, c0_ok])
theorem c11_run : chkF Tryz.prog Ec11 glc 100000 c11 = true := by kernel_rfl
theorem c11_ok : KfOk Tryz.prog glc c11 := chkF_ok mixed tpc_ok Ec11_ok c11_run
/-- A call of (huddle/path.commit).covers: 3163 operations. -/
def c12 : KE :=
  ⟨49, [.agg [.ref 1767 0, ti 1, ti 2, ti 2, ti 0, .rsl 3695 0 1, ti 2, ti 0, ti 0, ti 3, .rsl 3697 0 2, ti 0, ti 0, tu 0, ti 0, tz, tz, ti 0, ti 0, tu 0, tz, ti 0, ti 0, tz, tu 0, tz, tu 2055127771027203467, tu 1878427299014042908, .rsl 4073 0 2, .rsl 3724 0 1]], [(4088, some ⟨3, [ti 1, ti 2], none⟩),
  (4098, some ⟨3, [ti 1], none⟩),
  (4102, some ⟨60, [.rsl 4098 0 1, .rsl 4088 0 2], none⟩),
  (4084, some ⟨88, [.ref 1767 0, ti 1, ti 2, ti 2, ti 0, .rsl 3695 0 1, ti 2, ti 0, ti 0, ti 3, .rsl 3697 0 2, ti 0, ti 0, tu 0, ti 0, tz, tz, ti 0, ti 0, tu 0, tz, ti 0, ti 0, tz, tu 0, tz, tu 2055127771027203467, tu 1878427299014042908, .rsl 4073 0 2, .rsl 3724 0 1], none⟩),
  (3724, some ⟨31, [ti 1, ti 1, tu 862241763743803610], none⟩),
  (4073, some ⟨3, [ti 1, ti 2], none⟩),
  (3700, some ⟨66, [ti 1, ti 2, ti 2, ti 0, .rsl 3695 0 1, ti 2, ti 0, ti 0, ti 3, .rsl 3697 0 2, ti 0, ti 0, tu 0, ti 0, tz, tz, ti 0, ti 0, tu 0, tz, ti 0, ti 0, tz, tu 0, tz, tu 2055127771027203467, tu 1878427299014042908], none⟩),
  (3699, some ⟨105, [tu 1810974450540283748, tu 1071716249815512381, tu 387344594201418440, tu 1560087748378453177], none⟩),
  (3697, some ⟨107, [tu 599580122152146373, tz, tu 604420494067096305, .rsl 3699 0 1], none⟩),
  (3695, some ⟨31, [ti 1, ti 1, tu 862241763743803610], none⟩),
  (3689, some ⟨31, [ti 1, ti 2, tu 684650584379270763], none⟩),
  (3688, some ⟨22, [tu 596252773501635330], none⟩),
  (2430, some ⟨53, [.rsl 2429 0 1], none⟩),
  (2429, some ⟨22, [tu 2291886921610748822], none⟩),
  (2428, some ⟨22, [tu 112549989845472439, tu 596252773501635330], none⟩),
  (1990, some ⟨105, [tu 1810974450540283748, tu 1071716249815512381, tu 387344594201418440, tu 1560087748378453177], none⟩),
  (1988, some ⟨107, [tu 599580122152146373, tz, tu 604420494067096305, .rsl 1990 0 1], none⟩),
  (1986, some ⟨31, [ti 1, ti 1, tu 862241763743803610], none⟩),
  (1789, some ⟨107, [tu 2154745651092665763, tz], none⟩),
  (2420, some ⟨164, [ti 1, ti 1, ti 1, ti 0, tz, ti 0, ti 0, ti 0, ti 0, .rsl 1789 0 1, ti 0, ti 0, tu 0, ti 0, tz, tz, ti 0, ti 0, tu 0, tz, ti 0, ti 0, tz, tu 0, tz, tu 1223440080342624114, tu 42199551586101612, ti 1, ti 1, tu 862241763743803610, tu 0, tu 0, tu 0, tu 0, ti 1, ti 1, ti 2, ti 2, ti 0, .rsl 1986 0 1, ti 2, ti 0, ti 0, ti 3, .rsl 1988 0 2, ti 0, ti 0, tu 0, ti 0, tz, tz, ti 0, ti 0, tu 0, tz, ti 0, ti 0, tz, tu 0, tz, tu 2055127771027203467, tu 1878427299014042908, ti 1, ti 2, tu 684650584379270763, tu 1, tu 0, tu 0, tu 0, ti 2], none⟩),
  (1766, some ⟨154, [], some (.map [(.agg #[.int .i64 (1), .int .i64 (1), .int .u64 (862241763743803610)], ti 0, 0), (.agg #[.int .i64 (1), .int .i64 (2), .int .u64 (684650584379270763)], ti 1, 1)] 2)⟩),
  (1765, some ⟨137, [ti 1, ti 1, tu 1858807316446646070, tu 2294458496254976924, tu 1058522930688824048, ti 2, ti 2, tu 1810974450540283748, tu 732551293757751401, tu 86482453431610406, ti 3, ti 3, tu 490180086995058983, tu 1441871927598236410, tu 1783630545573332436, ti 4, ti 1, tu 1953319703317080786, tu 881125215762738857, tu 1828901513722737251, ti 5, ti 2, tu 603255930034390424, tu 1128020181934541352, tu 1855458293155442097, ti 6, ti 3, tu 681465322610182208, tu 1458595129815633359, tu 1877287273825605593], none⟩),
  (1767, some ⟨157, [.rsl 1765 0 6, .mref 1766, .rsl 2420 0 2], none⟩),
  (1762, some ⟨45, [.rsl 13 0 6, .rsl 1746 0 2, .rsl 1749 0 2, .rsl 1752 0 2, .rsl 1761 0 2], none⟩),
  (1759, some ⟨4, [tb true, tb false], none⟩),
  (1755, some ⟨4, [tb false, tb false], none⟩),
  (1761, some ⟨231, [.rsl 1755 0 2, .rsl 1759 0 2], none⟩),
  (1736, some ⟨3, [ti 0], none⟩),
  (1752, some ⟨60, [tz, .rsl 1736 0 1], none⟩),
  (1749, some ⟨31, [ti 1, ti 1, tu 862241763743803610, ti 1, ti 2, tu 684650584379270763], none⟩),
  (1233, some ⟨105, [tu 1810974450540283748, tu 1071716249815512381, tu 387344594201418440, tu 1560087748378453177], none⟩),
  (1240, some ⟨107, [tu 599580122152146373, tz, tu 604420494067096305, .rsl 1233 0 1], none⟩),
  (549, some ⟨31, [ti 1, ti 1, tu 862241763743803610], none⟩),
  (163, some ⟨107, [tu 2154745651092665763, tz], none⟩),
  (1746, some ⟨66, [ti 1, ti 1, ti 1, ti 0, tz, ti 0, ti 0, ti 0, ti 0, .rsl 163 0 1, ti 0, ti 0, tu 0, ti 0, tz, tz, ti 0, ti 0, tu 0, tz, ti 0, ti 0, tz, tu 0, tz, tu 1223440080342624114, tu 42199551586101612, ti 1, ti 2, ti 2, ti 0, .rsl 549 0 1, ti 2, ti 0, ti 0, ti 3, .rsl 1240 0 2, ti 0, ti 0, tu 0, ti 0, tz, tz, ti 0, ti 0, tu 0, tz, ti 0, ti 0, tz, tu 0, tz, tu 2055127771027203467, tu 1878427299014042908], none⟩),
  (13, some ⟨137, [ti 1, ti 1, tu 1858807316446646070, tu 2294458496254976924, tu 1058522930688824048, ti 2, ti 2, tu 1810974450540283748, tu 732551293757751401, tu 86482453431610406, ti 3, ti 3, tu 490180086995058983, tu 1441871927598236410, tu 1783630545573332436, ti 4, ti 1, tu 1953319703317080786, tu 881125215762738857, tu 1828901513722737251, ti 5, ti 2, tu 603255930034390424, tu 1128020181934541352, tu 1855458293155442097, ti 6, ti 3, tu 681465322610182208, tu 1458595129815633359, tu 1877287273825605593], none⟩)], 4104, [(.rsl 4309 0 1, [(4304, some ⟨3, [ti 2], none⟩),
  (4307, some ⟨99, [.rsl 4304 0 1, tu 1810974450540283748, ti 0, ti 0, tu 0, ti 0], none⟩),
  (4309, some ⟨94, [.rsl 4307 0 1], none⟩),
  (4088, some ⟨3, [ti 1, ti 2], none⟩),
  (4098, some ⟨3, [ti 1], none⟩),
  (4102, some ⟨60, [.rsl 4098 0 1, .rsl 4088 0 2], none⟩),
  (4084, some ⟨88, [.ref 1767 0, ti 1, ti 2, ti 2, ti 0, .rsl 3695 0 1, ti 2, ti 0, ti 0, ti 3, .rsl 3697 0 2, ti 0, ti 0, tu 0, ti 0, tz, tz, ti 0, ti 0, tu 0, tz, ti 0, ti 0, tz, tu 0, tz, tu 2055127771027203467, tu 1878427299014042908, .rsl 4073 0 2, .rsl 3724 0 1], none⟩),
  (3724, some ⟨31, [ti 1, ti 1, tu 862241763743803610], none⟩),
  (4073, some ⟨3, [ti 1, ti 2], none⟩),
  (3700, some ⟨66, [ti 1, ti 2, ti 2, ti 0, .rsl 3695 0 1, ti 2, ti 0, ti 0, ti 3, .rsl 3697 0 2, ti 0, ti 0, tu 0, ti 0, tz, tz, ti 0, ti 0, tu 0, tz, ti 0, ti 0, tz, tu 0, tz, tu 2055127771027203467, tu 1878427299014042908], none⟩),
  (3699, some ⟨105, [tu 1810974450540283748, tu 1071716249815512381, tu 387344594201418440, tu 1560087748378453177], none⟩),
  (3697, some ⟨107, [tu 599580122152146373, tz, tu 604420494067096305, .rsl 3699 0 1], none⟩),
  (3695, some ⟨31, [ti 1, ti 1, tu 862241763743803610], none⟩),
  (3689, some ⟨31, [ti 1, ti 2, tu 684650584379270763], none⟩),
  (3688, some ⟨22, [tu 596252773501635330], none⟩),
  (2430, some ⟨53, [.rsl 2429 0 1], none⟩),
  (2429, some ⟨22, [tu 2291886921610748822], none⟩),
  (2428, some ⟨22, [tu 112549989845472439, tu 596252773501635330], none⟩),
  (1990, some ⟨105, [tu 1810974450540283748, tu 1071716249815512381, tu 387344594201418440, tu 1560087748378453177], none⟩),
  (1988, some ⟨107, [tu 599580122152146373, tz, tu 604420494067096305, .rsl 1990 0 1], none⟩),
  (1986, some ⟨31, [ti 1, ti 1, tu 862241763743803610], none⟩),
  (1789, some ⟨107, [tu 2154745651092665763, tz], none⟩),
  (2420, some ⟨164, [ti 1, ti 1, ti 1, ti 0, tz, ti 0, ti 0, ti 0, ti 0, .rsl 1789 0 1, ti 0, ti 0, tu 0, ti 0, tz, tz, ti 0, ti 0, tu 0, tz, ti 0, ti 0, tz, tu 0, tz, tu 1223440080342624114, tu 42199551586101612, ti 1, ti 1, tu 862241763743803610, tu 0, tu 0, tu 0, tu 0, ti 1, ti 1, ti 2, ti 2, ti 0, .rsl 1986 0 1, ti 2, ti 0, ti 0, ti 3, .rsl 1988 0 2, ti 0, ti 0, tu 0, ti 0, tz, tz, ti 0, ti 0, tu 0, tz, ti 0, ti 0, tz, tu 0, tz, tu 2055127771027203467, tu 1878427299014042908, ti 1, ti 2, tu 684650584379270763, tu 1, tu 0, tu 0, tu 0, ti 2], none⟩),
  (1766, some ⟨154, [], some (.map [(.agg #[.int .i64 (1), .int .i64 (1), .int .u64 (862241763743803610)], ti 0, 0), (.agg #[.int .i64 (1), .int .i64 (2), .int .u64 (684650584379270763)], ti 1, 1)] 2)⟩),
  (1765, some ⟨137, [ti 1, ti 1, tu 1858807316446646070, tu 2294458496254976924, tu 1058522930688824048, ti 2, ti 2, tu 1810974450540283748, tu 732551293757751401, tu 86482453431610406, ti 3, ti 3, tu 490180086995058983, tu 1441871927598236410, tu 1783630545573332436, ti 4, ti 1, tu 1953319703317080786, tu 881125215762738857, tu 1828901513722737251, ti 5, ti 2, tu 603255930034390424, tu 1128020181934541352, tu 1855458293155442097, ti 6, ti 3, tu 681465322610182208, tu 1458595129815633359, tu 1877287273825605593], none⟩),
  (1767, some ⟨157, [.rsl 1765 0 6, .mref 1766, .rsl 2420 0 2], none⟩),
  (1762, some ⟨45, [.rsl 13 0 6, .rsl 1746 0 2, .rsl 1749 0 2, .rsl 1752 0 2, .rsl 1761 0 2], none⟩),
  (1759, some ⟨4, [tb true, tb false], none⟩),
  (1755, some ⟨4, [tb false, tb false], none⟩),
  (1761, some ⟨231, [.rsl 1755 0 2, .rsl 1759 0 2], none⟩),
  (1736, some ⟨3, [ti 0], none⟩),
  (1752, some ⟨60, [tz, .rsl 1736 0 1], none⟩),
  (1749, some ⟨31, [ti 1, ti 1, tu 862241763743803610, ti 1, ti 2, tu 684650584379270763], none⟩),
  (1233, some ⟨105, [tu 1810974450540283748, tu 1071716249815512381, tu 387344594201418440, tu 1560087748378453177], none⟩),
  (1240, some ⟨107, [tu 599580122152146373, tz, tu 604420494067096305, .rsl 1233 0 1], none⟩),
  (549, some ⟨31, [ti 1, ti 1, tu 862241763743803610], none⟩),
  (163, some ⟨107, [tu 2154745651092665763, tz], none⟩),
  (1746, some ⟨66, [ti 1, ti 1, ti 1, ti 0, tz, ti 0, ti 0, ti 0, ti 0, .rsl 163 0 1, ti 0, ti 0, tu 0, ti 0, tz, tz, ti 0, ti 0, tu 0, tz, ti 0, ti 0, tz, tu 0, tz, tu 1223440080342624114, tu 42199551586101612, ti 1, ti 2, ti 2, ti 0, .rsl 549 0 1, ti 2, ti 0, ti 0, ti 3, .rsl 1240 0 2, ti 0, ti 0, tu 0, ti 0, tz, tz, ti 0, ti 0, tu 0, tz, ti 0, ti 0, tz, tu 0, tz, tu 2055127771027203467, tu 1878427299014042908], none⟩),
  (13, some ⟨137, [ti 1, ti 1, tu 1858807316446646070, tu 2294458496254976924, tu 1058522930688824048, ti 2, ti 2, tu 1810974450540283748, tu 732551293757751401, tu 86482453431610406, ti 3, ti 3, tu 490180086995058983, tu 1441871927598236410, tu 1783630545573332436, ti 4, ti 1, tu 1953319703317080786, tu 881125215762738857, tu 1828901513722737251, ti 5, ti 2, tu 603255930034390424, tu 1128020181934541352, tu 1855458293155442097, ti 6, ti 3, tu 681465322610182208, tu 1458595129815633359, tu 1877287273825605593], none⟩)], 4310, 4104)]⟩
noncomputable def Ec12 : XEnv := xenvK pfc tpc glc [c10, c8, c6, c5, c1] [c11, c9, c7, c4, c3, c2, c0]
theorem Ec12_ok : KcOk Tryz.prog Ec12 := xenvK_ok (by simp [c10_ok, c8_ok, c6_ok, c5_ok, c1_ok]) (by simp [c11_ok, c9_ok, c7_ok, c4_ok, c3_ok, c2_ok, c0_ok])
theorem c12_run : chkK Tryz.prog Ec12 glc 100000 c12 = true := by kernel_rfl
theorem c12_ok : KeOk Tryz.prog glc c12 := chkK_ok mixed tpc_ok Ec12_ok c12_run
noncomputable def Ec : XEnv := xenvK pfc tpc glc [c12, c10, c8, c6, c5, c1] [c11, c9, c7, c4, c3, c2, c0]
theorem Ec_ok : KcOk Tryz.prog Ec := xenvK_ok (by simp [c12_ok, c10_ok, c8_ok, c6_ok, c5_ok, c1_ok]) (by simp [c11_ok, c9_ok, c7_ok, c4_ok, c3_ok, c2_ok, c0_ok])
def isT (r : Option G) : Bool := match r with
  | some (.lit (.bool true)) => true
  | _ => false
theorem isT_spec {r : Option G} (h : isT r = true) : r = some (.lit (.bool true)) := by
  unfold isT at h
  split at h
  · rfl
  · cases h
theorem lives_run : isT (xpureR Tryz.prog Ec (xcode Tryz.prog Ec 100000) 12 [] glc) = true := by kernel_rfl
/-- The document's example lives. -/
theorem lives_fn : Fn' Tryz.prog glc 12 [] (.lit (.bool true)) := (xpureR_ok (xcode_ok mixed tpc_ok Ec_ok 100000).toRunOk tpc_ok _ _ _ _ (isT_spec lives_run)).1
end Go.Proofs.YtfnglmepfjaimaaGreatDoor
