/- What the types of the translation are: facts that the kernel reckons. -/
import Derived.Test.YtpmpmhcckbaoaaaGreatDoorGP
import Derived.Test.YtpmpmhcckbaoaaaGreatDoorRows
namespace Go.Proofs.YtpmpmhcckbaoaaaGreatDoor
set_option linter.unusedVariables false
@[simp] theorem ty_s3 : tsize Tryz.prog 3 = some 1 := by kernel_rfl
@[simp] theorem ty_a3 : tagg Tryz.prog 3 = some false := by kernel_rfl
@[simp] theorem ty_z3 : tzero Tryz.prog 3 = some [.int .i64 0] := by kernel_rfl
@[simp] theorem ty_b3 : (Tryz.prog.info? 3).map (·.bytes) = some 8 := by kernel_rfl
@[simp] theorem ty_zz3 : (Tryz.prog.info? 3).bind (·.zero) = some (.int .i64 0) := by kernel_rfl
@[simp] theorem ty_i3 : tint Tryz.prog 3 = some .i64 := by kernel_rfl
@[simp] theorem ty_e3 : telem Tryz.prog 3 = none := by kernel_rfl
@[simp] theorem ty_s4 : tsize Tryz.prog 4 = some 1 := by kernel_rfl
@[simp] theorem ty_a4 : tagg Tryz.prog 4 = some false := by kernel_rfl
@[simp] theorem ty_z4 : tzero Tryz.prog 4 = some [.bool false] := by kernel_rfl
@[simp] theorem ty_b4 : (Tryz.prog.info? 4).map (·.bytes) = some 1 := by kernel_rfl
@[simp] theorem ty_e4 : telem Tryz.prog 4 = none := by kernel_rfl
@[simp] theorem ty_s5 : tsize Tryz.prog 5 = some 1 := by kernel_rfl
@[simp] theorem ty_a5 : tagg Tryz.prog 5 = some false := by kernel_rfl
@[simp] theorem ty_z5 : tzero Tryz.prog 5 = some [.int .u8 0] := by kernel_rfl
@[simp] theorem ty_b5 : (Tryz.prog.info? 5).map (·.bytes) = some 1 := by kernel_rfl
@[simp] theorem ty_zz5 : (Tryz.prog.info? 5).bind (·.zero) = some (.int .u8 0) := by kernel_rfl
@[simp] theorem ty_i5 : tint Tryz.prog 5 = some .u8 := by kernel_rfl
@[simp] theorem ty_e5 : telem Tryz.prog 5 = none := by kernel_rfl
@[simp] theorem ty_s9 : tsize Tryz.prog 9 = some 1 := by kernel_rfl
@[simp] theorem ty_a9 : tagg Tryz.prog 9 = some false := by kernel_rfl
@[simp] theorem ty_z9 : tzero Tryz.prog 9 = some [.string ⟨#[]⟩] := by kernel_rfl
@[simp] theorem ty_b9 : (Tryz.prog.info? 9).map (·.bytes) = some 16 := by kernel_rfl
@[simp] theorem ty_t9 : tstr Tryz.prog 9 = true := by kernel_rfl
@[simp] theorem ty_e9 : telem Tryz.prog 9 = none := by kernel_rfl
@[simp] theorem ty_s22 : tsize Tryz.prog 22 = some 1 := by kernel_rfl
@[simp] theorem ty_a22 : tagg Tryz.prog 22 = some false := by kernel_rfl
@[simp] theorem ty_z22 : tzero Tryz.prog 22 = some [.int .u64 0] := by kernel_rfl
@[simp] theorem ty_b22 : (Tryz.prog.info? 22).map (·.bytes) = some 8 := by kernel_rfl
@[simp] theorem ty_zz22 : (Tryz.prog.info? 22).bind (·.zero) = some (.int .u64 0) := by kernel_rfl
@[simp] theorem ty_i22 : tint Tryz.prog 22 = some .u64 := by kernel_rfl
@[simp] theorem ty_e22 : telem Tryz.prog 22 = none := by kernel_rfl
@[simp] theorem ty_s23 : tsize Tryz.prog 23 = some 3 := by kernel_rfl
@[simp] theorem ty_a23 : tagg Tryz.prog 23 = some true := by kernel_rfl
@[simp] theorem ty_z23 : tzero Tryz.prog 23 = some [.int .i64 0, .int .i64 0, .int .u64 0] := by kernel_rfl
@[simp] theorem ty_b23 : (Tryz.prog.info? 23).map (·.bytes) = some 24 := by kernel_rfl
@[simp] theorem ty_e23 : telem Tryz.prog 23 = none := by kernel_rfl
@[simp] theorem ty_p23 : tplaces Tryz.prog 23 = some [(0, 1), (1, 1), (2, 1)] := by kernel_rfl
@[simp] theorem ty_f23_0 : tfield Tryz.prog 23 0 = some (0, 3) := by kernel_rfl
@[simp] theorem ty_f23_1 : tfield Tryz.prog 23 1 = some (1, 3) := by kernel_rfl
@[simp] theorem ty_f23_2 : tfield Tryz.prog 23 2 = some (2, 22) := by kernel_rfl
@[simp] theorem ty_s24 : tsize Tryz.prog 24 = some 3 := by kernel_rfl
@[simp] theorem ty_a24 : tagg Tryz.prog 24 = some true := by kernel_rfl
@[simp] theorem ty_z24 : tzero Tryz.prog 24 = some [.int .i64 0, .int .i64 0, .int .u64 0] := by kernel_rfl
@[simp] theorem ty_b24 : (Tryz.prog.info? 24).map (·.bytes) = some 24 := by kernel_rfl
@[simp] theorem ty_e24 : telem Tryz.prog 24 = none := by kernel_rfl
@[simp] theorem ty_p24 : tplaces Tryz.prog 24 = some [(0, 1), (1, 1), (2, 1)] := by kernel_rfl
@[simp] theorem ty_f24_0 : tfield Tryz.prog 24 0 = some (0, 3) := by kernel_rfl
@[simp] theorem ty_f24_1 : tfield Tryz.prog 24 1 = some (1, 3) := by kernel_rfl
@[simp] theorem ty_f24_2 : tfield Tryz.prog 24 2 = some (2, 22) := by kernel_rfl
@[simp] theorem ty_s28 : tsize Tryz.prog 28 = some 1 := by kernel_rfl
@[simp] theorem ty_a28 : tagg Tryz.prog 28 = some false := by kernel_rfl
@[simp] theorem ty_z28 : tzero Tryz.prog 28 = some [.slice none 0 0] := by kernel_rfl
@[simp] theorem ty_b28 : (Tryz.prog.info? 28).map (·.bytes) = some 24 := by kernel_rfl
@[simp] theorem ty_e28 : telem Tryz.prog 28 = some 22 := by kernel_rfl
@[simp] theorem ty_s32 : tsize Tryz.prog 32 = some 1 := by kernel_rfl
@[simp] theorem ty_a32 : tagg Tryz.prog 32 = some false := by kernel_rfl
@[simp] theorem ty_z32 : tzero Tryz.prog 32 = some [.pointer none] := by kernel_rfl
@[simp] theorem ty_b32 : (Tryz.prog.info? 32).map (·.bytes) = some 8 := by kernel_rfl
@[simp] theorem ty_e32 : telem Tryz.prog 32 = none := by kernel_rfl
@[simp] theorem ty_s33 : tsize Tryz.prog 33 = some 1 := by kernel_rfl
@[simp] theorem ty_a33 : tagg Tryz.prog 33 = some false := by kernel_rfl
@[simp] theorem ty_z33 : tzero Tryz.prog 33 = some [.slice none 0 0] := by kernel_rfl
@[simp] theorem ty_b33 : (Tryz.prog.info? 33).map (·.bytes) = some 24 := by kernel_rfl
@[simp] theorem ty_e33 : telem Tryz.prog 33 = some 135 := by kernel_rfl
@[simp] theorem ty_s34 : tsize Tryz.prog 34 = some 1 := by kernel_rfl
@[simp] theorem ty_a34 : tagg Tryz.prog 34 = some false := by kernel_rfl
@[simp] theorem ty_z34 : tzero Tryz.prog 34 = some [.slice none 0 0] := by kernel_rfl
@[simp] theorem ty_b34 : (Tryz.prog.info? 34).map (·.bytes) = some 24 := by kernel_rfl
@[simp] theorem ty_e34 : telem Tryz.prog 34 = some 66 := by kernel_rfl
@[simp] theorem ty_s35 : tsize Tryz.prog 35 = some 1 := by kernel_rfl
@[simp] theorem ty_a35 : tagg Tryz.prog 35 = some false := by kernel_rfl
@[simp] theorem ty_z35 : tzero Tryz.prog 35 = some [.slice none 0 0] := by kernel_rfl
@[simp] theorem ty_b35 : (Tryz.prog.info? 35).map (·.bytes) = some 24 := by kernel_rfl
@[simp] theorem ty_e35 : telem Tryz.prog 35 = some 24 := by kernel_rfl
@[simp] theorem ty_s36 : tsize Tryz.prog 36 = some 1 := by kernel_rfl
@[simp] theorem ty_a36 : tagg Tryz.prog 36 = some false := by kernel_rfl
@[simp] theorem ty_z36 : tzero Tryz.prog 36 = some [.slice none 0 0] := by kernel_rfl
@[simp] theorem ty_b36 : (Tryz.prog.info? 36).map (·.bytes) = some 24 := by kernel_rfl
@[simp] theorem ty_e36 : telem Tryz.prog 36 = some 45 := by kernel_rfl
@[simp] theorem ty_s37 : tsize Tryz.prog 37 = some 1 := by kernel_rfl
@[simp] theorem ty_a37 : tagg Tryz.prog 37 = some false := by kernel_rfl
@[simp] theorem ty_z37 : tzero Tryz.prog 37 = some [.slice none 0 0] := by kernel_rfl
@[simp] theorem ty_b37 : (Tryz.prog.info? 37).map (·.bytes) = some 24 := by kernel_rfl
@[simp] theorem ty_e37 : telem Tryz.prog 37 = some 158 := by kernel_rfl
@[simp] theorem ty_s38 : tsize Tryz.prog 38 = some 5 := by kernel_rfl
@[simp] theorem ty_a38 : tagg Tryz.prog 38 = some true := by kernel_rfl
@[simp] theorem ty_z38 : tzero Tryz.prog 38 = some [.slice none 0 0, .slice none 0 0, .slice none 0 0, .slice none 0 0, .slice none 0 0] := by kernel_rfl
@[simp] theorem ty_b38 : (Tryz.prog.info? 38).map (·.bytes) = some 120 := by kernel_rfl
@[simp] theorem ty_e38 : telem Tryz.prog 38 = none := by kernel_rfl
@[simp] theorem ty_p38 : tplaces Tryz.prog 38 = some [(0, 1), (1, 1), (2, 1), (3, 1), (4, 1)] := by kernel_rfl
@[simp] theorem ty_f38_0 : tfield Tryz.prog 38 0 = some (0, 33) := by kernel_rfl
@[simp] theorem ty_f38_1 : tfield Tryz.prog 38 1 = some (1, 34) := by kernel_rfl
@[simp] theorem ty_f38_2 : tfield Tryz.prog 38 2 = some (2, 35) := by kernel_rfl
@[simp] theorem ty_f38_3 : tfield Tryz.prog 38 3 = some (3, 36) := by kernel_rfl
@[simp] theorem ty_f38_4 : tfield Tryz.prog 38 4 = some (4, 37) := by kernel_rfl
@[simp] theorem ty_s39 : tsize Tryz.prog 39 = some 5 := by kernel_rfl
@[simp] theorem ty_a39 : tagg Tryz.prog 39 = some true := by kernel_rfl
@[simp] theorem ty_z39 : tzero Tryz.prog 39 = some [.slice none 0 0, .slice none 0 0, .slice none 0 0, .slice none 0 0, .slice none 0 0] := by kernel_rfl
@[simp] theorem ty_b39 : (Tryz.prog.info? 39).map (·.bytes) = some 120 := by kernel_rfl
@[simp] theorem ty_e39 : telem Tryz.prog 39 = none := by kernel_rfl
@[simp] theorem ty_p39 : tplaces Tryz.prog 39 = some [(0, 1), (1, 1), (2, 1), (3, 1), (4, 1)] := by kernel_rfl
@[simp] theorem ty_f39_0 : tfield Tryz.prog 39 0 = some (0, 33) := by kernel_rfl
@[simp] theorem ty_f39_1 : tfield Tryz.prog 39 1 = some (1, 34) := by kernel_rfl
@[simp] theorem ty_f39_2 : tfield Tryz.prog 39 2 = some (2, 35) := by kernel_rfl
@[simp] theorem ty_f39_3 : tfield Tryz.prog 39 3 = some (3, 36) := by kernel_rfl
@[simp] theorem ty_f39_4 : tfield Tryz.prog 39 4 = some (4, 37) := by kernel_rfl
@[simp] theorem ty_s45 : tsize Tryz.prog 45 = some 1 := by kernel_rfl
@[simp] theorem ty_a45 : tagg Tryz.prog 45 = some false := by kernel_rfl
@[simp] theorem ty_z45 : tzero Tryz.prog 45 = some [.slice none 0 0] := by kernel_rfl
@[simp] theorem ty_b45 : (Tryz.prog.info? 45).map (·.bytes) = some 24 := by kernel_rfl
@[simp] theorem ty_e45 : telem Tryz.prog 45 = some 3 := by kernel_rfl
@[simp] theorem ty_s48 : tsize Tryz.prog 48 = some 1 := by kernel_rfl
@[simp] theorem ty_a48 : tagg Tryz.prog 48 = some false := by kernel_rfl
@[simp] theorem ty_z48 : tzero Tryz.prog 48 = some [.slice none 0 0] := by kernel_rfl
@[simp] theorem ty_b48 : (Tryz.prog.info? 48).map (·.bytes) = some 24 := by kernel_rfl
@[simp] theorem ty_e48 : telem Tryz.prog 48 = some 5 := by kernel_rfl
@[simp] theorem ty_s53 : tsize Tryz.prog 53 = some 1 := by kernel_rfl
@[simp] theorem ty_a53 : tagg Tryz.prog 53 = some false := by kernel_rfl
@[simp] theorem ty_z53 : tzero Tryz.prog 53 = some [.pointer none] := by kernel_rfl
@[simp] theorem ty_b53 : (Tryz.prog.info? 53).map (·.bytes) = some 8 := by kernel_rfl
@[simp] theorem ty_e53 : telem Tryz.prog 53 = none := by kernel_rfl
@[simp] theorem ty_s57 : tsize Tryz.prog 57 = some 1 := by kernel_rfl
@[simp] theorem ty_a57 : tagg Tryz.prog 57 = some false := by kernel_rfl
@[simp] theorem ty_z57 : tzero Tryz.prog 57 = some [.nilFunc] := by kernel_rfl
@[simp] theorem ty_b57 : (Tryz.prog.info? 57).map (·.bytes) = some 8 := by kernel_rfl
@[simp] theorem ty_e57 : telem Tryz.prog 57 = none := by kernel_rfl
@[simp] theorem ty_s58 : tsize Tryz.prog 58 = some 1 := by kernel_rfl
@[simp] theorem ty_a58 : tagg Tryz.prog 58 = some false := by kernel_rfl
@[simp] theorem ty_z58 : tzero Tryz.prog 58 = some [.nilFunc] := by kernel_rfl
@[simp] theorem ty_b58 : (Tryz.prog.info? 58).map (·.bytes) = some 8 := by kernel_rfl
@[simp] theorem ty_e58 : telem Tryz.prog 58 = none := by kernel_rfl
@[simp] theorem ty_s60 : tsize Tryz.prog 60 = some 1 := by kernel_rfl
@[simp] theorem ty_a60 : tagg Tryz.prog 60 = some false := by kernel_rfl
@[simp] theorem ty_z60 : tzero Tryz.prog 60 = some [.slice none 0 0] := by kernel_rfl
@[simp] theorem ty_b60 : (Tryz.prog.info? 60).map (·.bytes) = some 24 := by kernel_rfl
@[simp] theorem ty_e60 : telem Tryz.prog 60 = some 138 := by kernel_rfl
@[simp] theorem ty_s61 : tsize Tryz.prog 61 = some 1 := by kernel_rfl
@[simp] theorem ty_a61 : tagg Tryz.prog 61 = some false := by kernel_rfl
@[simp] theorem ty_z61 : tzero Tryz.prog 61 = some [.slice none 0 0] := by kernel_rfl
@[simp] theorem ty_b61 : (Tryz.prog.info? 61).map (·.bytes) = some 24 := by kernel_rfl
@[simp] theorem ty_e61 : telem Tryz.prog 61 = some 197 := by kernel_rfl
@[simp] theorem ty_s62 : tsize Tryz.prog 62 = some 1 := by kernel_rfl
@[simp] theorem ty_a62 : tagg Tryz.prog 62 = some false := by kernel_rfl
@[simp] theorem ty_z62 : tzero Tryz.prog 62 = some [.slice none 0 0] := by kernel_rfl
@[simp] theorem ty_b62 : (Tryz.prog.info? 62).map (·.bytes) = some 24 := by kernel_rfl
@[simp] theorem ty_e62 : telem Tryz.prog 62 = some 201 := by kernel_rfl
@[simp] theorem ty_s63 : tsize Tryz.prog 63 = some 2 := by kernel_rfl
@[simp] theorem ty_a63 : tagg Tryz.prog 63 = some true := by kernel_rfl
@[simp] theorem ty_z63 : tzero Tryz.prog 63 = some [.int .u64 0, .int .u64 0] := by kernel_rfl
@[simp] theorem ty_b63 : (Tryz.prog.info? 63).map (·.bytes) = some 16 := by kernel_rfl
@[simp] theorem ty_e63 : telem Tryz.prog 63 = none := by kernel_rfl
@[simp] theorem ty_p63 : tplaces Tryz.prog 63 = some [(0, 1), (1, 1)] := by kernel_rfl
@[simp] theorem ty_f63_0 : tfield Tryz.prog 63 0 = some (0, 22) := by kernel_rfl
@[simp] theorem ty_f63_1 : tfield Tryz.prog 63 1 = some (1, 22) := by kernel_rfl
@[simp] theorem ty_s64 : tsize Tryz.prog 64 = some 2 := by kernel_rfl
@[simp] theorem ty_a64 : tagg Tryz.prog 64 = some true := by kernel_rfl
@[simp] theorem ty_z64 : tzero Tryz.prog 64 = some [.int .u64 0, .int .u64 0] := by kernel_rfl
@[simp] theorem ty_b64 : (Tryz.prog.info? 64).map (·.bytes) = some 16 := by kernel_rfl
@[simp] theorem ty_e64 : telem Tryz.prog 64 = none := by kernel_rfl
@[simp] theorem ty_p64 : tplaces Tryz.prog 64 = some [(0, 1), (1, 1)] := by kernel_rfl
@[simp] theorem ty_f64_0 : tfield Tryz.prog 64 0 = some (0, 22) := by kernel_rfl
@[simp] theorem ty_f64_1 : tfield Tryz.prog 64 1 = some (1, 22) := by kernel_rfl
@[simp] theorem ty_s65 : tsize Tryz.prog 65 = some 27 := by kernel_rfl
@[simp] theorem ty_a65 : tagg Tryz.prog 65 = some true := by kernel_rfl
@[simp] theorem ty_z65 : tzero Tryz.prog 65 = some [.int .i64 0, .int .i64 0, .int .i64 0, .int .i64 0, .slice none 0 0, .int .i64 0, .int .i64 0, .int .i64 0, .int .i64 0, .slice none 0 0, .int .i64 0, .int .i64 0, .int .u64 0, .int .i64 0, .slice none 0 0, .slice none 0 0, .int .i64 0, .int .i64 0, .int .u64 0, .slice none 0 0, .int .i64 0, .int .i64 0, .slice none 0 0, .int .u64 0, .slice none 0 0, .int .u64 0, .int .u64 0] := by kernel_rfl
@[simp] theorem ty_b65 : (Tryz.prog.info? 65).map (·.bytes) = some 328 := by kernel_rfl
@[simp] theorem ty_e65 : telem Tryz.prog 65 = none := by kernel_rfl
@[simp] theorem ty_p65 : tplaces Tryz.prog 65 = some [(0, 1), (1, 1), (2, 1), (3, 1), (4, 1), (5, 1), (6, 1), (7, 1), (8, 1), (9, 1), (10, 3), (13, 1), (14, 1), (15, 1), (16, 3), (19, 1), (20, 1), (21, 1), (22, 1), (23, 1), (24, 1), (25, 2)] := by kernel_rfl
@[simp] theorem ty_f65_0 : tfield Tryz.prog 65 0 = some (0, 3) := by kernel_rfl
@[simp] theorem ty_f65_1 : tfield Tryz.prog 65 1 = some (1, 3) := by kernel_rfl
@[simp] theorem ty_f65_2 : tfield Tryz.prog 65 2 = some (2, 3) := by kernel_rfl
@[simp] theorem ty_f65_3 : tfield Tryz.prog 65 3 = some (3, 3) := by kernel_rfl
@[simp] theorem ty_f65_4 : tfield Tryz.prog 65 4 = some (4, 35) := by kernel_rfl
@[simp] theorem ty_f65_5 : tfield Tryz.prog 65 5 = some (5, 3) := by kernel_rfl
@[simp] theorem ty_f65_6 : tfield Tryz.prog 65 6 = some (6, 3) := by kernel_rfl
@[simp] theorem ty_f65_7 : tfield Tryz.prog 65 7 = some (7, 3) := by kernel_rfl
@[simp] theorem ty_f65_8 : tfield Tryz.prog 65 8 = some (8, 3) := by kernel_rfl
@[simp] theorem ty_f65_9 : tfield Tryz.prog 65 9 = some (9, 60) := by kernel_rfl
@[simp] theorem ty_f65_10 : tfield Tryz.prog 65 10 = some (10, 24) := by kernel_rfl
@[simp] theorem ty_f65_11 : tfield Tryz.prog 65 11 = some (13, 3) := by kernel_rfl
@[simp] theorem ty_f65_12 : tfield Tryz.prog 65 12 = some (14, 48) := by kernel_rfl
@[simp] theorem ty_f65_13 : tfield Tryz.prog 65 13 = some (15, 28) := by kernel_rfl
@[simp] theorem ty_f65_14 : tfield Tryz.prog 65 14 = some (16, 24) := by kernel_rfl
@[simp] theorem ty_f65_15 : tfield Tryz.prog 65 15 = some (19, 45) := by kernel_rfl
@[simp] theorem ty_f65_16 : tfield Tryz.prog 65 16 = some (20, 3) := by kernel_rfl
@[simp] theorem ty_f65_17 : tfield Tryz.prog 65 17 = some (21, 3) := by kernel_rfl
@[simp] theorem ty_f65_18 : tfield Tryz.prog 65 18 = some (22, 61) := by kernel_rfl
@[simp] theorem ty_f65_19 : tfield Tryz.prog 65 19 = some (23, 22) := by kernel_rfl
@[simp] theorem ty_f65_20 : tfield Tryz.prog 65 20 = some (24, 62) := by kernel_rfl
@[simp] theorem ty_f65_21 : tfield Tryz.prog 65 21 = some (25, 64) := by kernel_rfl
@[simp] theorem ty_s66 : tsize Tryz.prog 66 = some 27 := by kernel_rfl
@[simp] theorem ty_a66 : tagg Tryz.prog 66 = some true := by kernel_rfl
@[simp] theorem ty_z66 : tzero Tryz.prog 66 = some [.int .i64 0, .int .i64 0, .int .i64 0, .int .i64 0, .slice none 0 0, .int .i64 0, .int .i64 0, .int .i64 0, .int .i64 0, .slice none 0 0, .int .i64 0, .int .i64 0, .int .u64 0, .int .i64 0, .slice none 0 0, .slice none 0 0, .int .i64 0, .int .i64 0, .int .u64 0, .slice none 0 0, .int .i64 0, .int .i64 0, .slice none 0 0, .int .u64 0, .slice none 0 0, .int .u64 0, .int .u64 0] := by kernel_rfl
@[simp] theorem ty_b66 : (Tryz.prog.info? 66).map (·.bytes) = some 328 := by kernel_rfl
@[simp] theorem ty_e66 : telem Tryz.prog 66 = none := by kernel_rfl
@[simp] theorem ty_p66 : tplaces Tryz.prog 66 = some [(0, 1), (1, 1), (2, 1), (3, 1), (4, 1), (5, 1), (6, 1), (7, 1), (8, 1), (9, 1), (10, 3), (13, 1), (14, 1), (15, 1), (16, 3), (19, 1), (20, 1), (21, 1), (22, 1), (23, 1), (24, 1), (25, 2)] := by kernel_rfl
@[simp] theorem ty_f66_0 : tfield Tryz.prog 66 0 = some (0, 3) := by kernel_rfl
@[simp] theorem ty_f66_1 : tfield Tryz.prog 66 1 = some (1, 3) := by kernel_rfl
@[simp] theorem ty_f66_2 : tfield Tryz.prog 66 2 = some (2, 3) := by kernel_rfl
@[simp] theorem ty_f66_3 : tfield Tryz.prog 66 3 = some (3, 3) := by kernel_rfl
@[simp] theorem ty_f66_4 : tfield Tryz.prog 66 4 = some (4, 35) := by kernel_rfl
@[simp] theorem ty_f66_5 : tfield Tryz.prog 66 5 = some (5, 3) := by kernel_rfl
@[simp] theorem ty_f66_6 : tfield Tryz.prog 66 6 = some (6, 3) := by kernel_rfl
@[simp] theorem ty_f66_7 : tfield Tryz.prog 66 7 = some (7, 3) := by kernel_rfl
@[simp] theorem ty_f66_8 : tfield Tryz.prog 66 8 = some (8, 3) := by kernel_rfl
@[simp] theorem ty_f66_9 : tfield Tryz.prog 66 9 = some (9, 60) := by kernel_rfl
@[simp] theorem ty_f66_10 : tfield Tryz.prog 66 10 = some (10, 24) := by kernel_rfl
@[simp] theorem ty_f66_11 : tfield Tryz.prog 66 11 = some (13, 3) := by kernel_rfl
@[simp] theorem ty_f66_12 : tfield Tryz.prog 66 12 = some (14, 48) := by kernel_rfl
@[simp] theorem ty_f66_13 : tfield Tryz.prog 66 13 = some (15, 28) := by kernel_rfl
@[simp] theorem ty_f66_14 : tfield Tryz.prog 66 14 = some (16, 24) := by kernel_rfl
@[simp] theorem ty_f66_15 : tfield Tryz.prog 66 15 = some (19, 45) := by kernel_rfl
@[simp] theorem ty_f66_16 : tfield Tryz.prog 66 16 = some (20, 3) := by kernel_rfl
@[simp] theorem ty_f66_17 : tfield Tryz.prog 66 17 = some (21, 3) := by kernel_rfl
@[simp] theorem ty_f66_18 : tfield Tryz.prog 66 18 = some (22, 61) := by kernel_rfl
@[simp] theorem ty_f66_19 : tfield Tryz.prog 66 19 = some (23, 22) := by kernel_rfl
@[simp] theorem ty_f66_20 : tfield Tryz.prog 66 20 = some (24, 62) := by kernel_rfl
@[simp] theorem ty_f66_21 : tfield Tryz.prog 66 21 = some (25, 64) := by kernel_rfl
@[simp] theorem ty_s70 : tsize Tryz.prog 70 = some 2 := by kernel_rfl
@[simp] theorem ty_a70 : tagg Tryz.prog 70 = some true := by kernel_rfl
@[simp] theorem ty_z70 : tzero Tryz.prog 70 = some [.int .u64 0, .int .u64 0] := by kernel_rfl
@[simp] theorem ty_b70 : (Tryz.prog.info? 70).map (·.bytes) = some 16 := by kernel_rfl
@[simp] theorem ty_e70 : telem Tryz.prog 70 = none := by kernel_rfl
@[simp] theorem ty_p70 : tplaces Tryz.prog 70 = some [(0, 1), (1, 1)] := by kernel_rfl
@[simp] theorem ty_f70_0 : tfield Tryz.prog 70 0 = some (0, 22) := by kernel_rfl
@[simp] theorem ty_f70_1 : tfield Tryz.prog 70 1 = some (1, 22) := by kernel_rfl
@[simp] theorem ty_s71 : tsize Tryz.prog 71 = some 2 := by kernel_rfl
@[simp] theorem ty_a71 : tagg Tryz.prog 71 = some true := by kernel_rfl
@[simp] theorem ty_z71 : tzero Tryz.prog 71 = some [.int .u64 0, .int .u64 0] := by kernel_rfl
@[simp] theorem ty_b71 : (Tryz.prog.info? 71).map (·.bytes) = some 16 := by kernel_rfl
@[simp] theorem ty_e71 : telem Tryz.prog 71 = none := by kernel_rfl
@[simp] theorem ty_p71 : tplaces Tryz.prog 71 = some [(0, 1), (1, 1)] := by kernel_rfl
@[simp] theorem ty_f71_0 : tfield Tryz.prog 71 0 = some (0, 22) := by kernel_rfl
@[simp] theorem ty_f71_1 : tfield Tryz.prog 71 1 = some (1, 22) := by kernel_rfl
@[simp] theorem ty_s72 : tsize Tryz.prog 72 = some 1 := by kernel_rfl
@[simp] theorem ty_a72 : tagg Tryz.prog 72 = some false := by kernel_rfl
@[simp] theorem ty_z72 : tzero Tryz.prog 72 = some [.nilFunc] := by kernel_rfl
@[simp] theorem ty_b72 : (Tryz.prog.info? 72).map (·.bytes) = some 8 := by kernel_rfl
@[simp] theorem ty_e72 : telem Tryz.prog 72 = none := by kernel_rfl
@[simp] theorem ty_s73 : tsize Tryz.prog 73 = some 1 := by kernel_rfl
@[simp] theorem ty_a73 : tagg Tryz.prog 73 = some false := by kernel_rfl
@[simp] theorem ty_z73 : tzero Tryz.prog 73 = some [.nilFunc] := by kernel_rfl
@[simp] theorem ty_b73 : (Tryz.prog.info? 73).map (·.bytes) = some 8 := by kernel_rfl
@[simp] theorem ty_e73 : telem Tryz.prog 73 = none := by kernel_rfl
@[simp] theorem ty_s84 : tsize Tryz.prog 84 = some 1 := by kernel_rfl
@[simp] theorem ty_a84 : tagg Tryz.prog 84 = some false := by kernel_rfl
@[simp] theorem ty_z84 : tzero Tryz.prog 84 = some [.int .i64 0] := by kernel_rfl
@[simp] theorem ty_b84 : (Tryz.prog.info? 84).map (·.bytes) = some 8 := by kernel_rfl
@[simp] theorem ty_zz84 : (Tryz.prog.info? 84).bind (·.zero) = some (.int .i64 0) := by kernel_rfl
@[simp] theorem ty_i84 : tint Tryz.prog 84 = some .i64 := by kernel_rfl
@[simp] theorem ty_e84 : telem Tryz.prog 84 = none := by kernel_rfl
@[simp] theorem ty_s94 : tsize Tryz.prog 94 = some 1 := by kernel_rfl
@[simp] theorem ty_a94 : tagg Tryz.prog 94 = some false := by kernel_rfl
@[simp] theorem ty_z94 : tzero Tryz.prog 94 = some [.nilFunc] := by kernel_rfl
@[simp] theorem ty_b94 : (Tryz.prog.info? 94).map (·.bytes) = some 8 := by kernel_rfl
@[simp] theorem ty_e94 : telem Tryz.prog 94 = none := by kernel_rfl
@[simp] theorem ty_s99 : tsize Tryz.prog 99 = some 1 := by kernel_rfl
@[simp] theorem ty_a99 : tagg Tryz.prog 99 = some false := by kernel_rfl
@[simp] theorem ty_z99 : tzero Tryz.prog 99 = some [.map none] := by kernel_rfl
@[simp] theorem ty_b99 : (Tryz.prog.info? 99).map (·.bytes) = some 8 := by kernel_rfl
@[simp] theorem ty_e99 : telem Tryz.prog 99 = none := by kernel_rfl
@[simp] theorem ty_s100 : tsize Tryz.prog 100 = some 1 := by kernel_rfl
@[simp] theorem ty_a100 : tagg Tryz.prog 100 = some false := by kernel_rfl
@[simp] theorem ty_z100 : tzero Tryz.prog 100 = some [.map none] := by kernel_rfl
@[simp] theorem ty_b100 : (Tryz.prog.info? 100).map (·.bytes) = some 8 := by kernel_rfl
@[simp] theorem ty_e100 : telem Tryz.prog 100 = none := by kernel_rfl
@[simp] theorem ty_s101 : tsize Tryz.prog 101 = some 1 := by kernel_rfl
@[simp] theorem ty_a101 : tagg Tryz.prog 101 = some false := by kernel_rfl
@[simp] theorem ty_z101 : tzero Tryz.prog 101 = some [.map none] := by kernel_rfl
@[simp] theorem ty_b101 : (Tryz.prog.info? 101).map (·.bytes) = some 8 := by kernel_rfl
@[simp] theorem ty_e101 : telem Tryz.prog 101 = none := by kernel_rfl
@[simp] theorem ty_s102 : tsize Tryz.prog 102 = some 5 := by kernel_rfl
@[simp] theorem ty_a102 : tagg Tryz.prog 102 = some true := by kernel_rfl
@[simp] theorem ty_z102 : tzero Tryz.prog 102 = some [.map none, .map none, .map none, .map none, .int .i64 0] := by kernel_rfl
@[simp] theorem ty_b102 : (Tryz.prog.info? 102).map (·.bytes) = some 40 := by kernel_rfl
@[simp] theorem ty_e102 : telem Tryz.prog 102 = none := by kernel_rfl
@[simp] theorem ty_p102 : tplaces Tryz.prog 102 = some [(0, 1), (1, 1), (2, 1), (3, 1), (4, 1)] := by kernel_rfl
@[simp] theorem ty_f102_0 : tfield Tryz.prog 102 0 = some (0, 100) := by kernel_rfl
@[simp] theorem ty_f102_1 : tfield Tryz.prog 102 1 = some (1, 99) := by kernel_rfl
@[simp] theorem ty_f102_2 : tfield Tryz.prog 102 2 = some (2, 99) := by kernel_rfl
@[simp] theorem ty_f102_3 : tfield Tryz.prog 102 3 = some (3, 101) := by kernel_rfl
@[simp] theorem ty_f102_4 : tfield Tryz.prog 102 4 = some (4, 3) := by kernel_rfl
@[simp] theorem ty_s103 : tsize Tryz.prog 103 = some 5 := by kernel_rfl
@[simp] theorem ty_a103 : tagg Tryz.prog 103 = some true := by kernel_rfl
@[simp] theorem ty_z103 : tzero Tryz.prog 103 = some [.map none, .map none, .map none, .map none, .int .i64 0] := by kernel_rfl
@[simp] theorem ty_b103 : (Tryz.prog.info? 103).map (·.bytes) = some 40 := by kernel_rfl
@[simp] theorem ty_e103 : telem Tryz.prog 103 = none := by kernel_rfl
@[simp] theorem ty_p103 : tplaces Tryz.prog 103 = some [(0, 1), (1, 1), (2, 1), (3, 1), (4, 1)] := by kernel_rfl
@[simp] theorem ty_f103_0 : tfield Tryz.prog 103 0 = some (0, 100) := by kernel_rfl
@[simp] theorem ty_f103_1 : tfield Tryz.prog 103 1 = some (1, 99) := by kernel_rfl
@[simp] theorem ty_f103_2 : tfield Tryz.prog 103 2 = some (2, 99) := by kernel_rfl
@[simp] theorem ty_f103_3 : tfield Tryz.prog 103 3 = some (3, 101) := by kernel_rfl
@[simp] theorem ty_f103_4 : tfield Tryz.prog 103 4 = some (4, 3) := by kernel_rfl
@[simp] theorem ty_s105 : tsize Tryz.prog 105 = some 1 := by kernel_rfl
@[simp] theorem ty_a105 : tagg Tryz.prog 105 = some false := by kernel_rfl
@[simp] theorem ty_z105 : tzero Tryz.prog 105 = some [.nilFunc] := by kernel_rfl
@[simp] theorem ty_b105 : (Tryz.prog.info? 105).map (·.bytes) = some 8 := by kernel_rfl
@[simp] theorem ty_e105 : telem Tryz.prog 105 = none := by kernel_rfl
@[simp] theorem ty_s107 : tsize Tryz.prog 107 = some 1 := by kernel_rfl
@[simp] theorem ty_a107 : tagg Tryz.prog 107 = some false := by kernel_rfl
@[simp] theorem ty_z107 : tzero Tryz.prog 107 = some [.map none] := by kernel_rfl
@[simp] theorem ty_b107 : (Tryz.prog.info? 107).map (·.bytes) = some 8 := by kernel_rfl
@[simp] theorem ty_e107 : telem Tryz.prog 107 = none := by kernel_rfl
@[simp] theorem ty_s108 : tsize Tryz.prog 108 = some 1 := by kernel_rfl
@[simp] theorem ty_a108 : tagg Tryz.prog 108 = some false := by kernel_rfl
@[simp] theorem ty_z108 : tzero Tryz.prog 108 = some [.slice none 0 0] := by kernel_rfl
@[simp] theorem ty_b108 : (Tryz.prog.info? 108).map (·.bytes) = some 24 := by kernel_rfl
@[simp] theorem ty_e108 : telem Tryz.prog 108 = some 114 := by kernel_rfl
@[simp] theorem ty_s109 : tsize Tryz.prog 109 = some 3 := by kernel_rfl
@[simp] theorem ty_a109 : tagg Tryz.prog 109 = some true := by kernel_rfl
@[simp] theorem ty_z109 : tzero Tryz.prog 109 = some [.slice none 0 0, .map none, .slice none 0 0] := by kernel_rfl
@[simp] theorem ty_b109 : (Tryz.prog.info? 109).map (·.bytes) = some 56 := by kernel_rfl
@[simp] theorem ty_e109 : telem Tryz.prog 109 = none := by kernel_rfl
@[simp] theorem ty_p109 : tplaces Tryz.prog 109 = some [(0, 1), (1, 1), (2, 1)] := by kernel_rfl
@[simp] theorem ty_f109_0 : tfield Tryz.prog 109 0 = some (0, 33) := by kernel_rfl
@[simp] theorem ty_f109_1 : tfield Tryz.prog 109 1 = some (1, 107) := by kernel_rfl
@[simp] theorem ty_f109_2 : tfield Tryz.prog 109 2 = some (2, 108) := by kernel_rfl
@[simp] theorem ty_s110 : tsize Tryz.prog 110 = some 3 := by kernel_rfl
@[simp] theorem ty_a110 : tagg Tryz.prog 110 = some true := by kernel_rfl
@[simp] theorem ty_z110 : tzero Tryz.prog 110 = some [.slice none 0 0, .map none, .slice none 0 0] := by kernel_rfl
@[simp] theorem ty_b110 : (Tryz.prog.info? 110).map (·.bytes) = some 56 := by kernel_rfl
@[simp] theorem ty_e110 : telem Tryz.prog 110 = none := by kernel_rfl
@[simp] theorem ty_p110 : tplaces Tryz.prog 110 = some [(0, 1), (1, 1), (2, 1)] := by kernel_rfl
@[simp] theorem ty_f110_0 : tfield Tryz.prog 110 0 = some (0, 33) := by kernel_rfl
@[simp] theorem ty_f110_1 : tfield Tryz.prog 110 1 = some (1, 107) := by kernel_rfl
@[simp] theorem ty_f110_2 : tfield Tryz.prog 110 2 = some (2, 108) := by kernel_rfl
@[simp] theorem ty_s111 : tsize Tryz.prog 111 = some 4 := by kernel_rfl
@[simp] theorem ty_a111 : tagg Tryz.prog 111 = some true := by kernel_rfl
@[simp] theorem ty_z111 : tzero Tryz.prog 111 = some [.int .u64 0, .int .u64 0, .int .u64 0, .int .u64 0] := by kernel_rfl
@[simp] theorem ty_b111 : (Tryz.prog.info? 111).map (·.bytes) = some 32 := by kernel_rfl
@[simp] theorem ty_e111 : telem Tryz.prog 111 = none := by kernel_rfl
@[simp] theorem ty_r111 : tarr Tryz.prog 111 = some (4, 22) := by kernel_rfl
@[simp] theorem ty_s112 : tsize Tryz.prog 112 = some 4 := by kernel_rfl
@[simp] theorem ty_a112 : tagg Tryz.prog 112 = some true := by kernel_rfl
@[simp] theorem ty_z112 : tzero Tryz.prog 112 = some [.int .u64 0, .int .u64 0, .int .u64 0, .int .u64 0] := by kernel_rfl
@[simp] theorem ty_b112 : (Tryz.prog.info? 112).map (·.bytes) = some 32 := by kernel_rfl
@[simp] theorem ty_e112 : telem Tryz.prog 112 = none := by kernel_rfl
@[simp] theorem ty_r112 : tarr Tryz.prog 112 = some (4, 22) := by kernel_rfl
@[simp] theorem ty_s113 : tsize Tryz.prog 113 = some 35 := by kernel_rfl
@[simp] theorem ty_a113 : tagg Tryz.prog 113 = some true := by kernel_rfl
@[simp] theorem ty_z113 : tzero Tryz.prog 113 = some [.int .i64 0, .int .i64 0, .int .i64 0, .int .i64 0, .slice none 0 0, .int .i64 0, .int .i64 0, .int .i64 0, .int .i64 0, .slice none 0 0, .int .i64 0, .int .i64 0, .int .u64 0, .int .i64 0, .slice none 0 0, .slice none 0 0, .int .i64 0, .int .i64 0, .int .u64 0, .slice none 0 0, .int .i64 0, .int .i64 0, .slice none 0 0, .int .u64 0, .slice none 0 0, .int .u64 0, .int .u64 0, .int .i64 0, .int .i64 0, .int .u64 0, .int .u64 0, .int .u64 0, .int .u64 0, .int .u64 0, .int .i64 0] := by kernel_rfl
@[simp] theorem ty_b113 : (Tryz.prog.info? 113).map (·.bytes) = some 392 := by kernel_rfl
@[simp] theorem ty_e113 : telem Tryz.prog 113 = none := by kernel_rfl
@[simp] theorem ty_p113 : tplaces Tryz.prog 113 = some [(0, 27), (27, 3), (30, 4), (34, 1)] := by kernel_rfl
@[simp] theorem ty_f113_0 : tfield Tryz.prog 113 0 = some (0, 66) := by kernel_rfl
@[simp] theorem ty_f113_1 : tfield Tryz.prog 113 1 = some (27, 24) := by kernel_rfl
@[simp] theorem ty_f113_2 : tfield Tryz.prog 113 2 = some (30, 112) := by kernel_rfl
@[simp] theorem ty_f113_3 : tfield Tryz.prog 113 3 = some (34, 3) := by kernel_rfl
@[simp] theorem ty_s114 : tsize Tryz.prog 114 = some 35 := by kernel_rfl
@[simp] theorem ty_a114 : tagg Tryz.prog 114 = some true := by kernel_rfl
@[simp] theorem ty_z114 : tzero Tryz.prog 114 = some [.int .i64 0, .int .i64 0, .int .i64 0, .int .i64 0, .slice none 0 0, .int .i64 0, .int .i64 0, .int .i64 0, .int .i64 0, .slice none 0 0, .int .i64 0, .int .i64 0, .int .u64 0, .int .i64 0, .slice none 0 0, .slice none 0 0, .int .i64 0, .int .i64 0, .int .u64 0, .slice none 0 0, .int .i64 0, .int .i64 0, .slice none 0 0, .int .u64 0, .slice none 0 0, .int .u64 0, .int .u64 0, .int .i64 0, .int .i64 0, .int .u64 0, .int .u64 0, .int .u64 0, .int .u64 0, .int .u64 0, .int .i64 0] := by kernel_rfl
@[simp] theorem ty_b114 : (Tryz.prog.info? 114).map (·.bytes) = some 392 := by kernel_rfl
@[simp] theorem ty_e114 : telem Tryz.prog 114 = none := by kernel_rfl
@[simp] theorem ty_p114 : tplaces Tryz.prog 114 = some [(0, 27), (27, 3), (30, 4), (34, 1)] := by kernel_rfl
@[simp] theorem ty_f114_0 : tfield Tryz.prog 114 0 = some (0, 66) := by kernel_rfl
@[simp] theorem ty_f114_1 : tfield Tryz.prog 114 1 = some (27, 24) := by kernel_rfl
@[simp] theorem ty_f114_2 : tfield Tryz.prog 114 2 = some (30, 112) := by kernel_rfl
@[simp] theorem ty_f114_3 : tfield Tryz.prog 114 3 = some (34, 3) := by kernel_rfl
@[simp] theorem ty_s117 : tsize Tryz.prog 117 = some 1 := by kernel_rfl
@[simp] theorem ty_a117 : tagg Tryz.prog 117 = some false := by kernel_rfl
@[simp] theorem ty_z117 : tzero Tryz.prog 117 = some [.slice none 0 0] := by kernel_rfl
@[simp] theorem ty_b117 : (Tryz.prog.info? 117).map (·.bytes) = some 24 := by kernel_rfl
@[simp] theorem ty_e117 : telem Tryz.prog 117 = some 119 := by kernel_rfl
@[simp] theorem ty_s118 : tsize Tryz.prog 118 = some 2 := by kernel_rfl
@[simp] theorem ty_a118 : tagg Tryz.prog 118 = some true := by kernel_rfl
@[simp] theorem ty_z118 : tzero Tryz.prog 118 = some [.int .i64 0, .int .i64 0] := by kernel_rfl
@[simp] theorem ty_b118 : (Tryz.prog.info? 118).map (·.bytes) = some 16 := by kernel_rfl
@[simp] theorem ty_e118 : telem Tryz.prog 118 = none := by kernel_rfl
@[simp] theorem ty_p118 : tplaces Tryz.prog 118 = some [(0, 1), (1, 1)] := by kernel_rfl
@[simp] theorem ty_f118_0 : tfield Tryz.prog 118 0 = some (0, 3) := by kernel_rfl
@[simp] theorem ty_f118_1 : tfield Tryz.prog 118 1 = some (1, 3) := by kernel_rfl
@[simp] theorem ty_s119 : tsize Tryz.prog 119 = some 2 := by kernel_rfl
@[simp] theorem ty_a119 : tagg Tryz.prog 119 = some true := by kernel_rfl
@[simp] theorem ty_z119 : tzero Tryz.prog 119 = some [.int .i64 0, .int .i64 0] := by kernel_rfl
@[simp] theorem ty_b119 : (Tryz.prog.info? 119).map (·.bytes) = some 16 := by kernel_rfl
@[simp] theorem ty_e119 : telem Tryz.prog 119 = none := by kernel_rfl
@[simp] theorem ty_p119 : tplaces Tryz.prog 119 = some [(0, 1), (1, 1)] := by kernel_rfl
@[simp] theorem ty_f119_0 : tfield Tryz.prog 119 0 = some (0, 3) := by kernel_rfl
@[simp] theorem ty_f119_1 : tfield Tryz.prog 119 1 = some (1, 3) := by kernel_rfl
@[simp] theorem ty_s121 : tsize Tryz.prog 121 = some 1 := by kernel_rfl
@[simp] theorem ty_a121 : tagg Tryz.prog 121 = some false := by kernel_rfl
@[simp] theorem ty_z121 : tzero Tryz.prog 121 = some [.nilFunc] := by kernel_rfl
@[simp] theorem ty_b121 : (Tryz.prog.info? 121).map (·.bytes) = some 8 := by kernel_rfl
@[simp] theorem ty_e121 : telem Tryz.prog 121 = none := by kernel_rfl
@[simp] theorem ty_s127 : tsize Tryz.prog 127 = some 1 := by kernel_rfl
@[simp] theorem ty_a127 : tagg Tryz.prog 127 = some false := by kernel_rfl
@[simp] theorem ty_z127 : tzero Tryz.prog 127 = some [.nilFunc] := by kernel_rfl
@[simp] theorem ty_b127 : (Tryz.prog.info? 127).map (·.bytes) = some 8 := by kernel_rfl
@[simp] theorem ty_e127 : telem Tryz.prog 127 = none := by kernel_rfl
@[simp] theorem ty_s132 : tsize Tryz.prog 132 = some 1 := by kernel_rfl
@[simp] theorem ty_a132 : tagg Tryz.prog 132 = some false := by kernel_rfl
@[simp] theorem ty_z132 : tzero Tryz.prog 132 = some [.int .u64 0] := by kernel_rfl
@[simp] theorem ty_b132 : (Tryz.prog.info? 132).map (·.bytes) = some 8 := by kernel_rfl
@[simp] theorem ty_zz132 : (Tryz.prog.info? 132).bind (·.zero) = some (.int .u64 0) := by kernel_rfl
@[simp] theorem ty_i132 : tint Tryz.prog 132 = some .u64 := by kernel_rfl
@[simp] theorem ty_e132 : telem Tryz.prog 132 = none := by kernel_rfl
@[simp] theorem ty_s134 : tsize Tryz.prog 134 = some 5 := by kernel_rfl
@[simp] theorem ty_a134 : tagg Tryz.prog 134 = some true := by kernel_rfl
@[simp] theorem ty_z134 : tzero Tryz.prog 134 = some [.int .i64 0, .int .i64 0, .int .u64 0, .int .u64 0, .int .u64 0] := by kernel_rfl
@[simp] theorem ty_b134 : (Tryz.prog.info? 134).map (·.bytes) = some 40 := by kernel_rfl
@[simp] theorem ty_e134 : telem Tryz.prog 134 = none := by kernel_rfl
@[simp] theorem ty_p134 : tplaces Tryz.prog 134 = some [(0, 1), (1, 1), (2, 1), (3, 1), (4, 1)] := by kernel_rfl
@[simp] theorem ty_f134_0 : tfield Tryz.prog 134 0 = some (0, 3) := by kernel_rfl
@[simp] theorem ty_f134_1 : tfield Tryz.prog 134 1 = some (1, 3) := by kernel_rfl
@[simp] theorem ty_f134_2 : tfield Tryz.prog 134 2 = some (2, 22) := by kernel_rfl
@[simp] theorem ty_f134_3 : tfield Tryz.prog 134 3 = some (3, 22) := by kernel_rfl
@[simp] theorem ty_f134_4 : tfield Tryz.prog 134 4 = some (4, 22) := by kernel_rfl
@[simp] theorem ty_s135 : tsize Tryz.prog 135 = some 5 := by kernel_rfl
@[simp] theorem ty_a135 : tagg Tryz.prog 135 = some true := by kernel_rfl
@[simp] theorem ty_z135 : tzero Tryz.prog 135 = some [.int .i64 0, .int .i64 0, .int .u64 0, .int .u64 0, .int .u64 0] := by kernel_rfl
@[simp] theorem ty_b135 : (Tryz.prog.info? 135).map (·.bytes) = some 40 := by kernel_rfl
@[simp] theorem ty_e135 : telem Tryz.prog 135 = none := by kernel_rfl
@[simp] theorem ty_p135 : tplaces Tryz.prog 135 = some [(0, 1), (1, 1), (2, 1), (3, 1), (4, 1)] := by kernel_rfl
@[simp] theorem ty_f135_0 : tfield Tryz.prog 135 0 = some (0, 3) := by kernel_rfl
@[simp] theorem ty_f135_1 : tfield Tryz.prog 135 1 = some (1, 3) := by kernel_rfl
@[simp] theorem ty_f135_2 : tfield Tryz.prog 135 2 = some (2, 22) := by kernel_rfl
@[simp] theorem ty_f135_3 : tfield Tryz.prog 135 3 = some (3, 22) := by kernel_rfl
@[simp] theorem ty_f135_4 : tfield Tryz.prog 135 4 = some (4, 22) := by kernel_rfl
@[simp] theorem ty_s137 : tsize Tryz.prog 137 = some 2 := by kernel_rfl
@[simp] theorem ty_a137 : tagg Tryz.prog 137 = some true := by kernel_rfl
@[simp] theorem ty_z137 : tzero Tryz.prog 137 = some [.int .u64 0, .slice none 0 0] := by kernel_rfl
@[simp] theorem ty_b137 : (Tryz.prog.info? 137).map (·.bytes) = some 32 := by kernel_rfl
@[simp] theorem ty_e137 : telem Tryz.prog 137 = none := by kernel_rfl
@[simp] theorem ty_p137 : tplaces Tryz.prog 137 = some [(0, 1), (1, 1)] := by kernel_rfl
@[simp] theorem ty_f137_0 : tfield Tryz.prog 137 0 = some (0, 22) := by kernel_rfl
@[simp] theorem ty_f137_1 : tfield Tryz.prog 137 1 = some (1, 61) := by kernel_rfl
@[simp] theorem ty_s138 : tsize Tryz.prog 138 = some 2 := by kernel_rfl
@[simp] theorem ty_a138 : tagg Tryz.prog 138 = some true := by kernel_rfl
@[simp] theorem ty_z138 : tzero Tryz.prog 138 = some [.int .u64 0, .slice none 0 0] := by kernel_rfl
@[simp] theorem ty_b138 : (Tryz.prog.info? 138).map (·.bytes) = some 32 := by kernel_rfl
@[simp] theorem ty_e138 : telem Tryz.prog 138 = none := by kernel_rfl
@[simp] theorem ty_p138 : tplaces Tryz.prog 138 = some [(0, 1), (1, 1)] := by kernel_rfl
@[simp] theorem ty_f138_0 : tfield Tryz.prog 138 0 = some (0, 22) := by kernel_rfl
@[simp] theorem ty_f138_1 : tfield Tryz.prog 138 1 = some (1, 61) := by kernel_rfl
@[simp] theorem ty_s150 : tsize Tryz.prog 150 = some 1 := by kernel_rfl
@[simp] theorem ty_a150 : tagg Tryz.prog 150 = some false := by kernel_rfl
@[simp] theorem ty_z150 : tzero Tryz.prog 150 = some [.slice none 0 0] := by kernel_rfl
@[simp] theorem ty_b150 : (Tryz.prog.info? 150).map (·.bytes) = some 24 := by kernel_rfl
@[simp] theorem ty_e150 : telem Tryz.prog 150 = some 312 := by kernel_rfl
@[simp] theorem ty_s151 : tsize Tryz.prog 151 = some 1 := by kernel_rfl
@[simp] theorem ty_a151 : tagg Tryz.prog 151 = some false := by kernel_rfl
@[simp] theorem ty_z151 : tzero Tryz.prog 151 = some [.slice none 0 0] := by kernel_rfl
@[simp] theorem ty_b151 : (Tryz.prog.info? 151).map (·.bytes) = some 24 := by kernel_rfl
@[simp] theorem ty_e151 : telem Tryz.prog 151 = some 359 := by kernel_rfl
@[simp] theorem ty_s152 : tsize Tryz.prog 152 = some 6 := by kernel_rfl
@[simp] theorem ty_a152 : tagg Tryz.prog 152 = some true := by kernel_rfl
@[simp] theorem ty_z152 : tzero Tryz.prog 152 = some [.slice none 0 0, .slice none 0 0, .slice none 0 0, .slice none 0 0, .int .i64 0, .slice none 0 0] := by kernel_rfl
@[simp] theorem ty_b152 : (Tryz.prog.info? 152).map (·.bytes) = some 128 := by kernel_rfl
@[simp] theorem ty_e152 : telem Tryz.prog 152 = none := by kernel_rfl
@[simp] theorem ty_p152 : tplaces Tryz.prog 152 = some [(0, 1), (1, 1), (2, 1), (3, 1), (4, 1), (5, 1)] := by kernel_rfl
@[simp] theorem ty_f152_0 : tfield Tryz.prog 152 0 = some (0, 33) := by kernel_rfl
@[simp] theorem ty_f152_1 : tfield Tryz.prog 152 1 = some (1, 45) := by kernel_rfl
@[simp] theorem ty_f152_2 : tfield Tryz.prog 152 2 = some (2, 45) := by kernel_rfl
@[simp] theorem ty_f152_3 : tfield Tryz.prog 152 3 = some (3, 150) := by kernel_rfl
@[simp] theorem ty_f152_4 : tfield Tryz.prog 152 4 = some (4, 3) := by kernel_rfl
@[simp] theorem ty_f152_5 : tfield Tryz.prog 152 5 = some (5, 151) := by kernel_rfl
@[simp] theorem ty_s153 : tsize Tryz.prog 153 = some 6 := by kernel_rfl
@[simp] theorem ty_a153 : tagg Tryz.prog 153 = some true := by kernel_rfl
@[simp] theorem ty_z153 : tzero Tryz.prog 153 = some [.slice none 0 0, .slice none 0 0, .slice none 0 0, .slice none 0 0, .int .i64 0, .slice none 0 0] := by kernel_rfl
@[simp] theorem ty_b153 : (Tryz.prog.info? 153).map (·.bytes) = some 128 := by kernel_rfl
@[simp] theorem ty_e153 : telem Tryz.prog 153 = none := by kernel_rfl
@[simp] theorem ty_p153 : tplaces Tryz.prog 153 = some [(0, 1), (1, 1), (2, 1), (3, 1), (4, 1), (5, 1)] := by kernel_rfl
@[simp] theorem ty_f153_0 : tfield Tryz.prog 153 0 = some (0, 33) := by kernel_rfl
@[simp] theorem ty_f153_1 : tfield Tryz.prog 153 1 = some (1, 45) := by kernel_rfl
@[simp] theorem ty_f153_2 : tfield Tryz.prog 153 2 = some (2, 45) := by kernel_rfl
@[simp] theorem ty_f153_3 : tfield Tryz.prog 153 3 = some (3, 150) := by kernel_rfl
@[simp] theorem ty_f153_4 : tfield Tryz.prog 153 4 = some (4, 3) := by kernel_rfl
@[simp] theorem ty_f153_5 : tfield Tryz.prog 153 5 = some (5, 151) := by kernel_rfl
@[simp] theorem ty_s158 : tsize Tryz.prog 158 = some 1 := by kernel_rfl
@[simp] theorem ty_a158 : tagg Tryz.prog 158 = some false := by kernel_rfl
@[simp] theorem ty_z158 : tzero Tryz.prog 158 = some [.slice none 0 0] := by kernel_rfl
@[simp] theorem ty_b158 : (Tryz.prog.info? 158).map (·.bytes) = some 24 := by kernel_rfl
@[simp] theorem ty_e158 : telem Tryz.prog 158 = some 4 := by kernel_rfl
@[simp] theorem ty_s164 : tsize Tryz.prog 164 = some 1 := by kernel_rfl
@[simp] theorem ty_a164 : tagg Tryz.prog 164 = some false := by kernel_rfl
@[simp] theorem ty_z164 : tzero Tryz.prog 164 = some [.nilFunc] := by kernel_rfl
@[simp] theorem ty_b164 : (Tryz.prog.info? 164).map (·.bytes) = some 8 := by kernel_rfl
@[simp] theorem ty_e164 : telem Tryz.prog 164 = none := by kernel_rfl
@[simp] theorem ty_s170 : tsize Tryz.prog 170 = some 1 := by kernel_rfl
@[simp] theorem ty_a170 : tagg Tryz.prog 170 = some false := by kernel_rfl
@[simp] theorem ty_z170 : tzero Tryz.prog 170 = some [.nilFunc] := by kernel_rfl
@[simp] theorem ty_b170 : (Tryz.prog.info? 170).map (·.bytes) = some 8 := by kernel_rfl
@[simp] theorem ty_e170 : telem Tryz.prog 170 = none := by kernel_rfl
@[simp] theorem ty_s174 : tsize Tryz.prog 174 = some 1 := by kernel_rfl
@[simp] theorem ty_a174 : tagg Tryz.prog 174 = some false := by kernel_rfl
@[simp] theorem ty_z174 : tzero Tryz.prog 174 = some [.pointer none] := by kernel_rfl
@[simp] theorem ty_b174 : (Tryz.prog.info? 174).map (·.bytes) = some 8 := by kernel_rfl
@[simp] theorem ty_e174 : telem Tryz.prog 174 = none := by kernel_rfl
@[simp] theorem ty_s177 : tsize Tryz.prog 177 = some 1 := by kernel_rfl
@[simp] theorem ty_a177 : tagg Tryz.prog 177 = some false := by kernel_rfl
@[simp] theorem ty_z177 : tzero Tryz.prog 177 = some [.pointer none] := by kernel_rfl
@[simp] theorem ty_b177 : (Tryz.prog.info? 177).map (·.bytes) = some 8 := by kernel_rfl
@[simp] theorem ty_e177 : telem Tryz.prog 177 = none := by kernel_rfl
@[simp] theorem ty_s179 : tsize Tryz.prog 179 = some 1 := by kernel_rfl
@[simp] theorem ty_a179 : tagg Tryz.prog 179 = some false := by kernel_rfl
@[simp] theorem ty_z179 : tzero Tryz.prog 179 = some [.pointer none] := by kernel_rfl
@[simp] theorem ty_b179 : (Tryz.prog.info? 179).map (·.bytes) = some 8 := by kernel_rfl
@[simp] theorem ty_e179 : telem Tryz.prog 179 = none := by kernel_rfl
@[simp] theorem ty_s180 : tsize Tryz.prog 180 = some 2 := by kernel_rfl
@[simp] theorem ty_a180 : tagg Tryz.prog 180 = some true := by kernel_rfl
@[simp] theorem ty_z180 : tzero Tryz.prog 180 = some [.int .i64 0, .pointer none] := by kernel_rfl
@[simp] theorem ty_b180 : (Tryz.prog.info? 180).map (·.bytes) = some 16 := by kernel_rfl
@[simp] theorem ty_e180 : telem Tryz.prog 180 = none := by kernel_rfl
@[simp] theorem ty_p180 : tplaces Tryz.prog 180 = some [(0, 1), (1, 1)] := by kernel_rfl
@[simp] theorem ty_f180_0 : tfield Tryz.prog 180 0 = some (0, 3) := by kernel_rfl
@[simp] theorem ty_f180_1 : tfield Tryz.prog 180 1 = some (1, 179) := by kernel_rfl
@[simp] theorem ty_s181 : tsize Tryz.prog 181 = some 2 := by kernel_rfl
@[simp] theorem ty_a181 : tagg Tryz.prog 181 = some true := by kernel_rfl
@[simp] theorem ty_z181 : tzero Tryz.prog 181 = some [.int .i64 0, .pointer none] := by kernel_rfl
@[simp] theorem ty_b181 : (Tryz.prog.info? 181).map (·.bytes) = some 16 := by kernel_rfl
@[simp] theorem ty_e181 : telem Tryz.prog 181 = none := by kernel_rfl
@[simp] theorem ty_p181 : tplaces Tryz.prog 181 = some [(0, 1), (1, 1)] := by kernel_rfl
@[simp] theorem ty_f181_0 : tfield Tryz.prog 181 0 = some (0, 3) := by kernel_rfl
@[simp] theorem ty_f181_1 : tfield Tryz.prog 181 1 = some (1, 179) := by kernel_rfl
@[simp] theorem ty_s182 : tsize Tryz.prog 182 = some 1 := by kernel_rfl
@[simp] theorem ty_a182 : tagg Tryz.prog 182 = some false := by kernel_rfl
@[simp] theorem ty_z182 : tzero Tryz.prog 182 = some [.map none] := by kernel_rfl
@[simp] theorem ty_b182 : (Tryz.prog.info? 182).map (·.bytes) = some 8 := by kernel_rfl
@[simp] theorem ty_e182 : telem Tryz.prog 182 = none := by kernel_rfl
@[simp] theorem ty_s183 : tsize Tryz.prog 183 = some 9 := by kernel_rfl
@[simp] theorem ty_a183 : tagg Tryz.prog 183 = some true := by kernel_rfl
@[simp] theorem ty_z183 : tzero Tryz.prog 183 = some [.int .i64 0, .int .i64 0, .int .u64 0, .slice none 0 0, .int .i64 0, .int .i64 0, .map none, .bool false, .int .i64 0] := by kernel_rfl
@[simp] theorem ty_b183 : (Tryz.prog.info? 183).map (·.bytes) = some 88 := by kernel_rfl
@[simp] theorem ty_e183 : telem Tryz.prog 183 = none := by kernel_rfl
@[simp] theorem ty_p183 : tplaces Tryz.prog 183 = some [(0, 3), (3, 1), (4, 1), (5, 1), (6, 1), (7, 1), (8, 1)] := by kernel_rfl
@[simp] theorem ty_f183_0 : tfield Tryz.prog 183 0 = some (0, 24) := by kernel_rfl
@[simp] theorem ty_f183_1 : tfield Tryz.prog 183 1 = some (3, 45) := by kernel_rfl
@[simp] theorem ty_f183_2 : tfield Tryz.prog 183 2 = some (4, 3) := by kernel_rfl
@[simp] theorem ty_f183_3 : tfield Tryz.prog 183 3 = some (5, 3) := by kernel_rfl
@[simp] theorem ty_f183_4 : tfield Tryz.prog 183 4 = some (6, 182) := by kernel_rfl
@[simp] theorem ty_f183_5 : tfield Tryz.prog 183 5 = some (7, 4) := by kernel_rfl
@[simp] theorem ty_f183_6 : tfield Tryz.prog 183 6 = some (8, 3) := by kernel_rfl
@[simp] theorem ty_s184 : tsize Tryz.prog 184 = some 9 := by kernel_rfl
@[simp] theorem ty_a184 : tagg Tryz.prog 184 = some true := by kernel_rfl
@[simp] theorem ty_z184 : tzero Tryz.prog 184 = some [.int .i64 0, .int .i64 0, .int .u64 0, .slice none 0 0, .int .i64 0, .int .i64 0, .map none, .bool false, .int .i64 0] := by kernel_rfl
@[simp] theorem ty_b184 : (Tryz.prog.info? 184).map (·.bytes) = some 88 := by kernel_rfl
@[simp] theorem ty_e184 : telem Tryz.prog 184 = none := by kernel_rfl
@[simp] theorem ty_p184 : tplaces Tryz.prog 184 = some [(0, 3), (3, 1), (4, 1), (5, 1), (6, 1), (7, 1), (8, 1)] := by kernel_rfl
@[simp] theorem ty_f184_0 : tfield Tryz.prog 184 0 = some (0, 24) := by kernel_rfl
@[simp] theorem ty_f184_1 : tfield Tryz.prog 184 1 = some (3, 45) := by kernel_rfl
@[simp] theorem ty_f184_2 : tfield Tryz.prog 184 2 = some (4, 3) := by kernel_rfl
@[simp] theorem ty_f184_3 : tfield Tryz.prog 184 3 = some (5, 3) := by kernel_rfl
@[simp] theorem ty_f184_4 : tfield Tryz.prog 184 4 = some (6, 182) := by kernel_rfl
@[simp] theorem ty_f184_5 : tfield Tryz.prog 184 5 = some (7, 4) := by kernel_rfl
@[simp] theorem ty_f184_6 : tfield Tryz.prog 184 6 = some (8, 3) := by kernel_rfl
@[simp] theorem ty_s187 : tsize Tryz.prog 187 = some 2 := by kernel_rfl
@[simp] theorem ty_a187 : tagg Tryz.prog 187 = some true := by kernel_rfl
@[simp] theorem ty_z187 : tzero Tryz.prog 187 = some [.int .i64 0, .int .i64 0] := by kernel_rfl
@[simp] theorem ty_b187 : (Tryz.prog.info? 187).map (·.bytes) = some 16 := by kernel_rfl
@[simp] theorem ty_e187 : telem Tryz.prog 187 = none := by kernel_rfl
@[simp] theorem ty_p187 : tplaces Tryz.prog 187 = some [(0, 1), (1, 1)] := by kernel_rfl
@[simp] theorem ty_f187_0 : tfield Tryz.prog 187 0 = some (0, 3) := by kernel_rfl
@[simp] theorem ty_f187_1 : tfield Tryz.prog 187 1 = some (1, 3) := by kernel_rfl
@[simp] theorem ty_s188 : tsize Tryz.prog 188 = some 2 := by kernel_rfl
@[simp] theorem ty_a188 : tagg Tryz.prog 188 = some true := by kernel_rfl
@[simp] theorem ty_z188 : tzero Tryz.prog 188 = some [.int .i64 0, .int .i64 0] := by kernel_rfl
@[simp] theorem ty_b188 : (Tryz.prog.info? 188).map (·.bytes) = some 16 := by kernel_rfl
@[simp] theorem ty_e188 : telem Tryz.prog 188 = none := by kernel_rfl
@[simp] theorem ty_p188 : tplaces Tryz.prog 188 = some [(0, 1), (1, 1)] := by kernel_rfl
@[simp] theorem ty_f188_0 : tfield Tryz.prog 188 0 = some (0, 3) := by kernel_rfl
@[simp] theorem ty_f188_1 : tfield Tryz.prog 188 1 = some (1, 3) := by kernel_rfl
@[simp] theorem ty_s196 : tsize Tryz.prog 196 = some 4 := by kernel_rfl
@[simp] theorem ty_a196 : tagg Tryz.prog 196 = some true := by kernel_rfl
@[simp] theorem ty_z196 : tzero Tryz.prog 196 = some [.int .u64 0, .int .u64 0, .int .u64 0, .int .u64 0] := by kernel_rfl
@[simp] theorem ty_b196 : (Tryz.prog.info? 196).map (·.bytes) = some 32 := by kernel_rfl
@[simp] theorem ty_e196 : telem Tryz.prog 196 = none := by kernel_rfl
@[simp] theorem ty_p196 : tplaces Tryz.prog 196 = some [(0, 1), (1, 1), (2, 1), (3, 1)] := by kernel_rfl
@[simp] theorem ty_f196_0 : tfield Tryz.prog 196 0 = some (0, 22) := by kernel_rfl
@[simp] theorem ty_f196_1 : tfield Tryz.prog 196 1 = some (1, 22) := by kernel_rfl
@[simp] theorem ty_f196_2 : tfield Tryz.prog 196 2 = some (2, 22) := by kernel_rfl
@[simp] theorem ty_f196_3 : tfield Tryz.prog 196 3 = some (3, 22) := by kernel_rfl
@[simp] theorem ty_s197 : tsize Tryz.prog 197 = some 4 := by kernel_rfl
@[simp] theorem ty_a197 : tagg Tryz.prog 197 = some true := by kernel_rfl
@[simp] theorem ty_z197 : tzero Tryz.prog 197 = some [.int .u64 0, .int .u64 0, .int .u64 0, .int .u64 0] := by kernel_rfl
@[simp] theorem ty_b197 : (Tryz.prog.info? 197).map (·.bytes) = some 32 := by kernel_rfl
@[simp] theorem ty_e197 : telem Tryz.prog 197 = none := by kernel_rfl
@[simp] theorem ty_p197 : tplaces Tryz.prog 197 = some [(0, 1), (1, 1), (2, 1), (3, 1)] := by kernel_rfl
@[simp] theorem ty_f197_0 : tfield Tryz.prog 197 0 = some (0, 22) := by kernel_rfl
@[simp] theorem ty_f197_1 : tfield Tryz.prog 197 1 = some (1, 22) := by kernel_rfl
@[simp] theorem ty_f197_2 : tfield Tryz.prog 197 2 = some (2, 22) := by kernel_rfl
@[simp] theorem ty_f197_3 : tfield Tryz.prog 197 3 = some (3, 22) := by kernel_rfl
@[simp] theorem ty_s200 : tsize Tryz.prog 200 = some 4 := by kernel_rfl
@[simp] theorem ty_a200 : tagg Tryz.prog 200 = some true := by kernel_rfl
@[simp] theorem ty_z200 : tzero Tryz.prog 200 = some [.int .i64 0, .int .i64 0, .int .u64 0, .slice none 0 0] := by kernel_rfl
@[simp] theorem ty_b200 : (Tryz.prog.info? 200).map (·.bytes) = some 48 := by kernel_rfl
@[simp] theorem ty_e200 : telem Tryz.prog 200 = none := by kernel_rfl
@[simp] theorem ty_p200 : tplaces Tryz.prog 200 = some [(0, 3), (3, 1)] := by kernel_rfl
@[simp] theorem ty_f200_0 : tfield Tryz.prog 200 0 = some (0, 24) := by kernel_rfl
@[simp] theorem ty_f200_1 : tfield Tryz.prog 200 1 = some (3, 48) := by kernel_rfl
@[simp] theorem ty_s201 : tsize Tryz.prog 201 = some 4 := by kernel_rfl
@[simp] theorem ty_a201 : tagg Tryz.prog 201 = some true := by kernel_rfl
@[simp] theorem ty_z201 : tzero Tryz.prog 201 = some [.int .i64 0, .int .i64 0, .int .u64 0, .slice none 0 0] := by kernel_rfl
@[simp] theorem ty_b201 : (Tryz.prog.info? 201).map (·.bytes) = some 48 := by kernel_rfl
@[simp] theorem ty_e201 : telem Tryz.prog 201 = none := by kernel_rfl
@[simp] theorem ty_p201 : tplaces Tryz.prog 201 = some [(0, 3), (3, 1)] := by kernel_rfl
@[simp] theorem ty_f201_0 : tfield Tryz.prog 201 0 = some (0, 24) := by kernel_rfl
@[simp] theorem ty_f201_1 : tfield Tryz.prog 201 1 = some (3, 48) := by kernel_rfl
@[simp] theorem ty_s204 : tsize Tryz.prog 204 = some 1 := by kernel_rfl
@[simp] theorem ty_a204 : tagg Tryz.prog 204 = some false := by kernel_rfl
@[simp] theorem ty_z204 : tzero Tryz.prog 204 = some [.map none] := by kernel_rfl
@[simp] theorem ty_b204 : (Tryz.prog.info? 204).map (·.bytes) = some 8 := by kernel_rfl
@[simp] theorem ty_e204 : telem Tryz.prog 204 = none := by kernel_rfl
@[simp] theorem ty_s205 : tsize Tryz.prog 205 = some 1 := by kernel_rfl
@[simp] theorem ty_a205 : tagg Tryz.prog 205 = some false := by kernel_rfl
@[simp] theorem ty_z205 : tzero Tryz.prog 205 = some [.map none] := by kernel_rfl
@[simp] theorem ty_b205 : (Tryz.prog.info? 205).map (·.bytes) = some 8 := by kernel_rfl
@[simp] theorem ty_e205 : telem Tryz.prog 205 = none := by kernel_rfl
@[simp] theorem ty_s207 : tsize Tryz.prog 207 = some 1 := by kernel_rfl
@[simp] theorem ty_a207 : tagg Tryz.prog 207 = some false := by kernel_rfl
@[simp] theorem ty_z207 : tzero Tryz.prog 207 = some [.nilFunc] := by kernel_rfl
@[simp] theorem ty_b207 : (Tryz.prog.info? 207).map (·.bytes) = some 8 := by kernel_rfl
@[simp] theorem ty_e207 : telem Tryz.prog 207 = none := by kernel_rfl
@[simp] theorem ty_s209 : tsize Tryz.prog 209 = some 1 := by kernel_rfl
@[simp] theorem ty_a209 : tagg Tryz.prog 209 = some false := by kernel_rfl
@[simp] theorem ty_z209 : tzero Tryz.prog 209 = some [.pointer none] := by kernel_rfl
@[simp] theorem ty_b209 : (Tryz.prog.info? 209).map (·.bytes) = some 8 := by kernel_rfl
@[simp] theorem ty_e209 : telem Tryz.prog 209 = none := by kernel_rfl
@[simp] theorem ty_s212 : tsize Tryz.prog 212 = some 1 := by kernel_rfl
@[simp] theorem ty_a212 : tagg Tryz.prog 212 = some false := by kernel_rfl
@[simp] theorem ty_z212 : tzero Tryz.prog 212 = some [.nilFunc] := by kernel_rfl
@[simp] theorem ty_b212 : (Tryz.prog.info? 212).map (·.bytes) = some 8 := by kernel_rfl
@[simp] theorem ty_e212 : telem Tryz.prog 212 = none := by kernel_rfl
@[simp] theorem ty_s213 : tsize Tryz.prog 213 = some 14 := by kernel_rfl
@[simp] theorem ty_a213 : tagg Tryz.prog 213 = some true := by kernel_rfl
@[simp] theorem ty_z213 : tzero Tryz.prog 213 = some [.nilFunc, .nilFunc, .nilFunc, .nilFunc, .nilFunc, .nilFunc, .nilFunc, .nilFunc, .nilFunc, .nilFunc, .nilFunc, .nilFunc, .nilFunc, .nilFunc] := by kernel_rfl
@[simp] theorem ty_b213 : (Tryz.prog.info? 213).map (·.bytes) = some 112 := by kernel_rfl
@[simp] theorem ty_e213 : telem Tryz.prog 213 = none := by kernel_rfl
@[simp] theorem ty_r213 : tarr Tryz.prog 213 = some (14, 212) := by kernel_rfl
@[simp] theorem ty_s231 : tsize Tryz.prog 231 = some 4 := by kernel_rfl
@[simp] theorem ty_a231 : tagg Tryz.prog 231 = some true := by kernel_rfl
@[simp] theorem ty_z231 : tzero Tryz.prog 231 = some [.slice none 0 0, .slice none 0 0, .slice none 0 0, .slice none 0 0] := by kernel_rfl
@[simp] theorem ty_b231 : (Tryz.prog.info? 231).map (·.bytes) = some 96 := by kernel_rfl
@[simp] theorem ty_e231 : telem Tryz.prog 231 = none := by kernel_rfl
@[simp] theorem ty_p231 : tplaces Tryz.prog 231 = some [(0, 1), (1, 1), (2, 1), (3, 1)] := by kernel_rfl
@[simp] theorem ty_f231_0 : tfield Tryz.prog 231 0 = some (0, 45) := by kernel_rfl
@[simp] theorem ty_f231_1 : tfield Tryz.prog 231 1 = some (1, 158) := by kernel_rfl
@[simp] theorem ty_f231_2 : tfield Tryz.prog 231 2 = some (2, 158) := by kernel_rfl
@[simp] theorem ty_f231_3 : tfield Tryz.prog 231 3 = some (3, 158) := by kernel_rfl
@[simp] theorem ty_s232 : tsize Tryz.prog 232 = some 4 := by kernel_rfl
@[simp] theorem ty_a232 : tagg Tryz.prog 232 = some true := by kernel_rfl
@[simp] theorem ty_z232 : tzero Tryz.prog 232 = some [.slice none 0 0, .slice none 0 0, .slice none 0 0, .slice none 0 0] := by kernel_rfl
@[simp] theorem ty_b232 : (Tryz.prog.info? 232).map (·.bytes) = some 96 := by kernel_rfl
@[simp] theorem ty_e232 : telem Tryz.prog 232 = none := by kernel_rfl
@[simp] theorem ty_p232 : tplaces Tryz.prog 232 = some [(0, 1), (1, 1), (2, 1), (3, 1)] := by kernel_rfl
@[simp] theorem ty_f232_0 : tfield Tryz.prog 232 0 = some (0, 45) := by kernel_rfl
@[simp] theorem ty_f232_1 : tfield Tryz.prog 232 1 = some (1, 158) := by kernel_rfl
@[simp] theorem ty_f232_2 : tfield Tryz.prog 232 2 = some (2, 158) := by kernel_rfl
@[simp] theorem ty_f232_3 : tfield Tryz.prog 232 3 = some (3, 158) := by kernel_rfl
@[simp] theorem ty_s250 : tsize Tryz.prog 250 = some 14 := by kernel_rfl
@[simp] theorem ty_a250 : tagg Tryz.prog 250 = some true := by kernel_rfl
@[simp] theorem ty_z250 : tzero Tryz.prog 250 = some [.int .i64 0, .int .i64 0, .int .i64 0, .int .i64 0, .int .i64 0, .int .i64 0, .int .i64 0, .int .i64 0, .int .i64 0, .int .i64 0, .int .i64 0, .int .i64 0, .int .i64 0, .int .i64 0] := by kernel_rfl
@[simp] theorem ty_b250 : (Tryz.prog.info? 250).map (·.bytes) = some 112 := by kernel_rfl
@[simp] theorem ty_e250 : telem Tryz.prog 250 = none := by kernel_rfl
@[simp] theorem ty_r250 : tarr Tryz.prog 250 = some (14, 3) := by kernel_rfl
@[simp] theorem ty_s255 : tsize Tryz.prog 255 = some 1 := by kernel_rfl
@[simp] theorem ty_a255 : tagg Tryz.prog 255 = some false := by kernel_rfl
@[simp] theorem ty_z255 : tzero Tryz.prog 255 = some [.nilFunc] := by kernel_rfl
@[simp] theorem ty_b255 : (Tryz.prog.info? 255).map (·.bytes) = some 8 := by kernel_rfl
@[simp] theorem ty_e255 : telem Tryz.prog 255 = none := by kernel_rfl
@[simp] theorem ty_s256 : tsize Tryz.prog 256 = some 1 := by kernel_rfl
@[simp] theorem ty_a256 : tagg Tryz.prog 256 = some true := by kernel_rfl
@[simp] theorem ty_z256 : tzero Tryz.prog 256 = some [.pointer none] := by kernel_rfl
@[simp] theorem ty_b256 : (Tryz.prog.info? 256).map (·.bytes) = some 8 := by kernel_rfl
@[simp] theorem ty_e256 : telem Tryz.prog 256 = none := by kernel_rfl
@[simp] theorem ty_p256 : tplaces Tryz.prog 256 = some [(0, 1)] := by kernel_rfl
@[simp] theorem ty_f256_0 : tfield Tryz.prog 256 0 = some (0, 32) := by kernel_rfl
@[simp] theorem ty_s257 : tsize Tryz.prog 257 = some 1 := by kernel_rfl
@[simp] theorem ty_a257 : tagg Tryz.prog 257 = some true := by kernel_rfl
@[simp] theorem ty_z257 : tzero Tryz.prog 257 = some [.pointer none] := by kernel_rfl
@[simp] theorem ty_b257 : (Tryz.prog.info? 257).map (·.bytes) = some 8 := by kernel_rfl
@[simp] theorem ty_e257 : telem Tryz.prog 257 = none := by kernel_rfl
@[simp] theorem ty_p257 : tplaces Tryz.prog 257 = some [(0, 1)] := by kernel_rfl
@[simp] theorem ty_f257_0 : tfield Tryz.prog 257 0 = some (0, 32) := by kernel_rfl
@[simp] theorem ty_s258 : tsize Tryz.prog 258 = some 1 := by kernel_rfl
@[simp] theorem ty_a258 : tagg Tryz.prog 258 = some false := by kernel_rfl
@[simp] theorem ty_z258 : tzero Tryz.prog 258 = some [.map none] := by kernel_rfl
@[simp] theorem ty_b258 : (Tryz.prog.info? 258).map (·.bytes) = some 8 := by kernel_rfl
@[simp] theorem ty_e258 : telem Tryz.prog 258 = none := by kernel_rfl
@[simp] theorem ty_s259 : tsize Tryz.prog 259 = some 4 := by kernel_rfl
@[simp] theorem ty_a259 : tagg Tryz.prog 259 = some true := by kernel_rfl
@[simp] theorem ty_z259 : tzero Tryz.prog 259 = some [.pointer none, .slice none 0 0, .map none, .map none] := by kernel_rfl
@[simp] theorem ty_b259 : (Tryz.prog.info? 259).map (·.bytes) = some 48 := by kernel_rfl
@[simp] theorem ty_e259 : telem Tryz.prog 259 = none := by kernel_rfl
@[simp] theorem ty_p259 : tplaces Tryz.prog 259 = some [(0, 1), (1, 1), (2, 1), (3, 1)] := by kernel_rfl
@[simp] theorem ty_f259_0 : tfield Tryz.prog 259 0 = some (0, 32) := by kernel_rfl
@[simp] theorem ty_f259_1 : tfield Tryz.prog 259 1 = some (1, 35) := by kernel_rfl
@[simp] theorem ty_f259_2 : tfield Tryz.prog 259 2 = some (2, 258) := by kernel_rfl
@[simp] theorem ty_f259_3 : tfield Tryz.prog 259 3 = some (3, 258) := by kernel_rfl
@[simp] theorem ty_s260 : tsize Tryz.prog 260 = some 4 := by kernel_rfl
@[simp] theorem ty_a260 : tagg Tryz.prog 260 = some true := by kernel_rfl
@[simp] theorem ty_z260 : tzero Tryz.prog 260 = some [.pointer none, .slice none 0 0, .map none, .map none] := by kernel_rfl
@[simp] theorem ty_b260 : (Tryz.prog.info? 260).map (·.bytes) = some 48 := by kernel_rfl
@[simp] theorem ty_e260 : telem Tryz.prog 260 = none := by kernel_rfl
@[simp] theorem ty_p260 : tplaces Tryz.prog 260 = some [(0, 1), (1, 1), (2, 1), (3, 1)] := by kernel_rfl
@[simp] theorem ty_f260_0 : tfield Tryz.prog 260 0 = some (0, 32) := by kernel_rfl
@[simp] theorem ty_f260_1 : tfield Tryz.prog 260 1 = some (1, 35) := by kernel_rfl
@[simp] theorem ty_f260_2 : tfield Tryz.prog 260 2 = some (2, 258) := by kernel_rfl
@[simp] theorem ty_f260_3 : tfield Tryz.prog 260 3 = some (3, 258) := by kernel_rfl
@[simp] theorem ty_s266 : tsize Tryz.prog 266 = some 1 := by kernel_rfl
@[simp] theorem ty_a266 : tagg Tryz.prog 266 = some false := by kernel_rfl
@[simp] theorem ty_z266 : tzero Tryz.prog 266 = some [.int .i64 0] := by kernel_rfl
@[simp] theorem ty_b266 : (Tryz.prog.info? 266).map (·.bytes) = some 8 := by kernel_rfl
@[simp] theorem ty_zz266 : (Tryz.prog.info? 266).bind (·.zero) = some (.int .i64 0) := by kernel_rfl
@[simp] theorem ty_i266 : tint Tryz.prog 266 = some .i64 := by kernel_rfl
@[simp] theorem ty_e266 : telem Tryz.prog 266 = none := by kernel_rfl
@[simp] theorem ty_s274 : tsize Tryz.prog 274 = some 1 := by kernel_rfl
@[simp] theorem ty_a274 : tagg Tryz.prog 274 = some false := by kernel_rfl
@[simp] theorem ty_z274 : tzero Tryz.prog 274 = some [.int .u32 0] := by kernel_rfl
@[simp] theorem ty_b274 : (Tryz.prog.info? 274).map (·.bytes) = some 4 := by kernel_rfl
@[simp] theorem ty_zz274 : (Tryz.prog.info? 274).bind (·.zero) = some (.int .u32 0) := by kernel_rfl
@[simp] theorem ty_i274 : tint Tryz.prog 274 = some .u32 := by kernel_rfl
@[simp] theorem ty_e274 : telem Tryz.prog 274 = none := by kernel_rfl
@[simp] theorem ty_s281 : tsize Tryz.prog 281 = some 1 := by kernel_rfl
@[simp] theorem ty_a281 : tagg Tryz.prog 281 = some true := by kernel_rfl
@[simp] theorem ty_z281 : tzero Tryz.prog 281 = some [.slice none 0 0] := by kernel_rfl
@[simp] theorem ty_b281 : (Tryz.prog.info? 281).map (·.bytes) = some 24 := by kernel_rfl
@[simp] theorem ty_e281 : telem Tryz.prog 281 = none := by kernel_rfl
@[simp] theorem ty_p281 : tplaces Tryz.prog 281 = some [(0, 1)] := by kernel_rfl
@[simp] theorem ty_f281_0 : tfield Tryz.prog 281 0 = some (0, 48) := by kernel_rfl
@[simp] theorem ty_s282 : tsize Tryz.prog 282 = some 1 := by kernel_rfl
@[simp] theorem ty_a282 : tagg Tryz.prog 282 = some true := by kernel_rfl
@[simp] theorem ty_z282 : tzero Tryz.prog 282 = some [.slice none 0 0] := by kernel_rfl
@[simp] theorem ty_b282 : (Tryz.prog.info? 282).map (·.bytes) = some 24 := by kernel_rfl
@[simp] theorem ty_e282 : telem Tryz.prog 282 = none := by kernel_rfl
@[simp] theorem ty_p282 : tplaces Tryz.prog 282 = some [(0, 1)] := by kernel_rfl
@[simp] theorem ty_f282_0 : tfield Tryz.prog 282 0 = some (0, 48) := by kernel_rfl
@[simp] theorem ty_s284 : tsize Tryz.prog 284 = some 1 := by kernel_rfl
@[simp] theorem ty_a284 : tagg Tryz.prog 284 = some false := by kernel_rfl
@[simp] theorem ty_z284 : tzero Tryz.prog 284 = some [.nilFunc] := by kernel_rfl
@[simp] theorem ty_b284 : (Tryz.prog.info? 284).map (·.bytes) = some 8 := by kernel_rfl
@[simp] theorem ty_e284 : telem Tryz.prog 284 = none := by kernel_rfl
@[simp] theorem ty_s285 : tsize Tryz.prog 285 = some 1 := by kernel_rfl
@[simp] theorem ty_a285 : tagg Tryz.prog 285 = some false := by kernel_rfl
@[simp] theorem ty_z285 : tzero Tryz.prog 285 = some [.nilFunc] := by kernel_rfl
@[simp] theorem ty_b285 : (Tryz.prog.info? 285).map (·.bytes) = some 8 := by kernel_rfl
@[simp] theorem ty_e285 : telem Tryz.prog 285 = none := by kernel_rfl
@[simp] theorem ty_s287 : tsize Tryz.prog 287 = some 1 := by kernel_rfl
@[simp] theorem ty_a287 : tagg Tryz.prog 287 = some false := by kernel_rfl
@[simp] theorem ty_z287 : tzero Tryz.prog 287 = some [.nilFunc] := by kernel_rfl
@[simp] theorem ty_b287 : (Tryz.prog.info? 287).map (·.bytes) = some 8 := by kernel_rfl
@[simp] theorem ty_e287 : telem Tryz.prog 287 = none := by kernel_rfl
@[simp] theorem ty_s290 : tsize Tryz.prog 290 = some 1 := by kernel_rfl
@[simp] theorem ty_a290 : tagg Tryz.prog 290 = some false := by kernel_rfl
@[simp] theorem ty_z290 : tzero Tryz.prog 290 = some [.nilFunc] := by kernel_rfl
@[simp] theorem ty_b290 : (Tryz.prog.info? 290).map (·.bytes) = some 8 := by kernel_rfl
@[simp] theorem ty_e290 : telem Tryz.prog 290 = none := by kernel_rfl
@[simp] theorem ty_s295 : tsize Tryz.prog 295 = some 1 := by kernel_rfl
@[simp] theorem ty_a295 : tagg Tryz.prog 295 = some false := by kernel_rfl
@[simp] theorem ty_z295 : tzero Tryz.prog 295 = some [.nilFunc] := by kernel_rfl
@[simp] theorem ty_b295 : (Tryz.prog.info? 295).map (·.bytes) = some 8 := by kernel_rfl
@[simp] theorem ty_e295 : telem Tryz.prog 295 = none := by kernel_rfl
@[simp] theorem ty_s311 : tsize Tryz.prog 311 = some 11 := by kernel_rfl
@[simp] theorem ty_a311 : tagg Tryz.prog 311 = some true := by kernel_rfl
@[simp] theorem ty_z311 : tzero Tryz.prog 311 = some [.int .i64 0, .int .i64 0, .bool false, .int .i64 0, .int .i64 0, .int .u64 0, .slice none 0 0, .int .i64 0, .int .i64 0, .bool false, .int .i64 0] := by kernel_rfl
@[simp] theorem ty_b311 : (Tryz.prog.info? 311).map (·.bytes) = some 104 := by kernel_rfl
@[simp] theorem ty_e311 : telem Tryz.prog 311 = none := by kernel_rfl
@[simp] theorem ty_p311 : tplaces Tryz.prog 311 = some [(0, 1), (1, 1), (2, 1), (3, 3), (6, 1), (7, 1), (8, 1), (9, 1), (10, 1)] := by kernel_rfl
@[simp] theorem ty_f311_0 : tfield Tryz.prog 311 0 = some (0, 3) := by kernel_rfl
@[simp] theorem ty_f311_1 : tfield Tryz.prog 311 1 = some (1, 3) := by kernel_rfl
@[simp] theorem ty_f311_2 : tfield Tryz.prog 311 2 = some (2, 4) := by kernel_rfl
@[simp] theorem ty_f311_3 : tfield Tryz.prog 311 3 = some (3, 24) := by kernel_rfl
@[simp] theorem ty_f311_4 : tfield Tryz.prog 311 4 = some (6, 45) := by kernel_rfl
@[simp] theorem ty_f311_5 : tfield Tryz.prog 311 5 = some (7, 3) := by kernel_rfl
@[simp] theorem ty_f311_6 : tfield Tryz.prog 311 6 = some (8, 3) := by kernel_rfl
@[simp] theorem ty_f311_7 : tfield Tryz.prog 311 7 = some (9, 4) := by kernel_rfl
@[simp] theorem ty_f311_8 : tfield Tryz.prog 311 8 = some (10, 3) := by kernel_rfl
@[simp] theorem ty_s312 : tsize Tryz.prog 312 = some 11 := by kernel_rfl
@[simp] theorem ty_a312 : tagg Tryz.prog 312 = some true := by kernel_rfl
@[simp] theorem ty_z312 : tzero Tryz.prog 312 = some [.int .i64 0, .int .i64 0, .bool false, .int .i64 0, .int .i64 0, .int .u64 0, .slice none 0 0, .int .i64 0, .int .i64 0, .bool false, .int .i64 0] := by kernel_rfl
@[simp] theorem ty_b312 : (Tryz.prog.info? 312).map (·.bytes) = some 104 := by kernel_rfl
@[simp] theorem ty_e312 : telem Tryz.prog 312 = none := by kernel_rfl
@[simp] theorem ty_p312 : tplaces Tryz.prog 312 = some [(0, 1), (1, 1), (2, 1), (3, 3), (6, 1), (7, 1), (8, 1), (9, 1), (10, 1)] := by kernel_rfl
@[simp] theorem ty_f312_0 : tfield Tryz.prog 312 0 = some (0, 3) := by kernel_rfl
@[simp] theorem ty_f312_1 : tfield Tryz.prog 312 1 = some (1, 3) := by kernel_rfl
@[simp] theorem ty_f312_2 : tfield Tryz.prog 312 2 = some (2, 4) := by kernel_rfl
@[simp] theorem ty_f312_3 : tfield Tryz.prog 312 3 = some (3, 24) := by kernel_rfl
@[simp] theorem ty_f312_4 : tfield Tryz.prog 312 4 = some (6, 45) := by kernel_rfl
@[simp] theorem ty_f312_5 : tfield Tryz.prog 312 5 = some (7, 3) := by kernel_rfl
@[simp] theorem ty_f312_6 : tfield Tryz.prog 312 6 = some (8, 3) := by kernel_rfl
@[simp] theorem ty_f312_7 : tfield Tryz.prog 312 7 = some (9, 4) := by kernel_rfl
@[simp] theorem ty_f312_8 : tfield Tryz.prog 312 8 = some (10, 3) := by kernel_rfl
@[simp] theorem ty_s325 : tsize Tryz.prog 325 = some 1 := by kernel_rfl
@[simp] theorem ty_a325 : tagg Tryz.prog 325 = some false := by kernel_rfl
@[simp] theorem ty_z325 : tzero Tryz.prog 325 = some [.nilFunc] := by kernel_rfl
@[simp] theorem ty_b325 : (Tryz.prog.info? 325).map (·.bytes) = some 8 := by kernel_rfl
@[simp] theorem ty_e325 : telem Tryz.prog 325 = none := by kernel_rfl
@[simp] theorem ty_s326 : tsize Tryz.prog 326 = some 1 := by kernel_rfl
@[simp] theorem ty_a326 : tagg Tryz.prog 326 = some false := by kernel_rfl
@[simp] theorem ty_z326 : tzero Tryz.prog 326 = some [.nilFunc] := by kernel_rfl
@[simp] theorem ty_b326 : (Tryz.prog.info? 326).map (·.bytes) = some 8 := by kernel_rfl
@[simp] theorem ty_e326 : telem Tryz.prog 326 = none := by kernel_rfl
@[simp] theorem ty_s327 : tsize Tryz.prog 327 = some 1 := by kernel_rfl
@[simp] theorem ty_a327 : tagg Tryz.prog 327 = some false := by kernel_rfl
@[simp] theorem ty_z327 : tzero Tryz.prog 327 = some [.nilFunc] := by kernel_rfl
@[simp] theorem ty_b327 : (Tryz.prog.info? 327).map (·.bytes) = some 8 := by kernel_rfl
@[simp] theorem ty_e327 : telem Tryz.prog 327 = none := by kernel_rfl
@[simp] theorem ty_s340 : tsize Tryz.prog 340 = some 1 := by kernel_rfl
@[simp] theorem ty_a340 : tagg Tryz.prog 340 = some false := by kernel_rfl
@[simp] theorem ty_z340 : tzero Tryz.prog 340 = some [.int .u64 0] := by kernel_rfl
@[simp] theorem ty_b340 : (Tryz.prog.info? 340).map (·.bytes) = some 8 := by kernel_rfl
@[simp] theorem ty_zz340 : (Tryz.prog.info? 340).bind (·.zero) = some (.int .u64 0) := by kernel_rfl
@[simp] theorem ty_i340 : tint Tryz.prog 340 = some .u64 := by kernel_rfl
@[simp] theorem ty_e340 : telem Tryz.prog 340 = none := by kernel_rfl
@[simp] theorem ty_s343 : tsize Tryz.prog 343 = some 1 := by kernel_rfl
@[simp] theorem ty_a343 : tagg Tryz.prog 343 = some false := by kernel_rfl
@[simp] theorem ty_z343 : tzero Tryz.prog 343 = some [.pointer none] := by kernel_rfl
@[simp] theorem ty_b343 : (Tryz.prog.info? 343).map (·.bytes) = some 8 := by kernel_rfl
@[simp] theorem ty_e343 : telem Tryz.prog 343 = none := by kernel_rfl
@[simp] theorem ty_s358 : tsize Tryz.prog 358 = some 6 := by kernel_rfl
@[simp] theorem ty_a358 : tagg Tryz.prog 358 = some true := by kernel_rfl
@[simp] theorem ty_z358 : tzero Tryz.prog 358 = some [.int .i64 0, .int .i64 0, .int .u64 0, .int .i64 0, .int .i64 0, .int .i64 0] := by kernel_rfl
@[simp] theorem ty_b358 : (Tryz.prog.info? 358).map (·.bytes) = some 48 := by kernel_rfl
@[simp] theorem ty_e358 : telem Tryz.prog 358 = none := by kernel_rfl
@[simp] theorem ty_p358 : tplaces Tryz.prog 358 = some [(0, 3), (3, 1), (4, 1), (5, 1)] := by kernel_rfl
@[simp] theorem ty_f358_0 : tfield Tryz.prog 358 0 = some (0, 24) := by kernel_rfl
@[simp] theorem ty_f358_1 : tfield Tryz.prog 358 1 = some (3, 3) := by kernel_rfl
@[simp] theorem ty_f358_2 : tfield Tryz.prog 358 2 = some (4, 3) := by kernel_rfl
@[simp] theorem ty_f358_3 : tfield Tryz.prog 358 3 = some (5, 3) := by kernel_rfl
@[simp] theorem ty_s359 : tsize Tryz.prog 359 = some 6 := by kernel_rfl
@[simp] theorem ty_a359 : tagg Tryz.prog 359 = some true := by kernel_rfl
@[simp] theorem ty_z359 : tzero Tryz.prog 359 = some [.int .i64 0, .int .i64 0, .int .u64 0, .int .i64 0, .int .i64 0, .int .i64 0] := by kernel_rfl
@[simp] theorem ty_b359 : (Tryz.prog.info? 359).map (·.bytes) = some 48 := by kernel_rfl
@[simp] theorem ty_e359 : telem Tryz.prog 359 = none := by kernel_rfl
@[simp] theorem ty_p359 : tplaces Tryz.prog 359 = some [(0, 3), (3, 1), (4, 1), (5, 1)] := by kernel_rfl
@[simp] theorem ty_f359_0 : tfield Tryz.prog 359 0 = some (0, 24) := by kernel_rfl
@[simp] theorem ty_f359_1 : tfield Tryz.prog 359 1 = some (3, 3) := by kernel_rfl
@[simp] theorem ty_f359_2 : tfield Tryz.prog 359 2 = some (4, 3) := by kernel_rfl
@[simp] theorem ty_f359_3 : tfield Tryz.prog 359 3 = some (5, 3) := by kernel_rfl
end Go.Proofs.YtpmpmhcckbaoaaaGreatDoor
