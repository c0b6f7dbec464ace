/- What the types of the translation are: facts that the kernel reckons. -/
import Derived.Test.YtfnglmepfjaimaaGreatDoorGP
import Derived.Test.YtfnglmepfjaimaaGreatDoorRows
namespace Go.Proofs.YtfnglmepfjaimaaGreatDoor
set_option linter.unusedVariables false
@[simp] theorem ty_s3 : tsize Tryz.prog 3 = some 1 := by kernel_rfl
@[simp] theorem ty_a3 : tagg Tryz.prog 3 = some false := by kernel_rfl
@[simp] theorem ty_z3 : tzero Tryz.prog 3 = some [.int .i64 0] := by kernel_rfl
@[simp] theorem ty_b3 : (Tryz.prog.info? 3).map (·.bytes) = some 8 := by kernel_rfl
@[simp] theorem ty_zz3 : (Tryz.prog.info? 3).bind (·.zero) = some (.int .i64 0) := by kernel_rfl
@[simp] theorem ty_i3 : tint Tryz.prog 3 = some .i64 := by kernel_rfl
@[simp] theorem ty_e3 : telem Tryz.prog 3 = none := by kernel_rfl
@[simp] theorem ty_s4 : tsize Tryz.prog 4 = some 1 := by kernel_rfl
@[simp] theorem ty_a4 : tagg Tryz.prog 4 = some false := by kernel_rfl
@[simp] theorem ty_z4 : tzero Tryz.prog 4 = some [.bool false] := by kernel_rfl
@[simp] theorem ty_b4 : (Tryz.prog.info? 4).map (·.bytes) = some 1 := by kernel_rfl
@[simp] theorem ty_e4 : telem Tryz.prog 4 = none := by kernel_rfl
@[simp] theorem ty_s5 : tsize Tryz.prog 5 = some 1 := by kernel_rfl
@[simp] theorem ty_a5 : tagg Tryz.prog 5 = some false := by kernel_rfl
@[simp] theorem ty_z5 : tzero Tryz.prog 5 = some [.int .u8 0] := by kernel_rfl
@[simp] theorem ty_b5 : (Tryz.prog.info? 5).map (·.bytes) = some 1 := by kernel_rfl
@[simp] theorem ty_zz5 : (Tryz.prog.info? 5).bind (·.zero) = some (.int .u8 0) := by kernel_rfl
@[simp] theorem ty_i5 : tint Tryz.prog 5 = some .u8 := by kernel_rfl
@[simp] theorem ty_e5 : telem Tryz.prog 5 = none := by kernel_rfl
@[simp] theorem ty_s9 : tsize Tryz.prog 9 = some 1 := by kernel_rfl
@[simp] theorem ty_a9 : tagg Tryz.prog 9 = some false := by kernel_rfl
@[simp] theorem ty_z9 : tzero Tryz.prog 9 = some [.string ⟨#[]⟩] := by kernel_rfl
@[simp] theorem ty_b9 : (Tryz.prog.info? 9).map (·.bytes) = some 16 := by kernel_rfl
@[simp] theorem ty_t9 : tstr Tryz.prog 9 = true := by kernel_rfl
@[simp] theorem ty_e9 : telem Tryz.prog 9 = none := by kernel_rfl
@[simp] theorem ty_s22 : tsize Tryz.prog 22 = some 1 := by kernel_rfl
@[simp] theorem ty_a22 : tagg Tryz.prog 22 = some false := by kernel_rfl
@[simp] theorem ty_z22 : tzero Tryz.prog 22 = some [.int .u64 0] := by kernel_rfl
@[simp] theorem ty_b22 : (Tryz.prog.info? 22).map (·.bytes) = some 8 := by kernel_rfl
@[simp] theorem ty_zz22 : (Tryz.prog.info? 22).bind (·.zero) = some (.int .u64 0) := by kernel_rfl
@[simp] theorem ty_i22 : tint Tryz.prog 22 = some .u64 := by kernel_rfl
@[simp] theorem ty_e22 : telem Tryz.prog 22 = none := by kernel_rfl
@[simp] theorem ty_s25 : tsize Tryz.prog 25 = some 1 := by kernel_rfl
@[simp] theorem ty_a25 : tagg Tryz.prog 25 = some false := by kernel_rfl
@[simp] theorem ty_z25 : tzero Tryz.prog 25 = some [.slice none 0 0] := by kernel_rfl
@[simp] theorem ty_b25 : (Tryz.prog.info? 25).map (·.bytes) = some 24 := by kernel_rfl
@[simp] theorem ty_e25 : telem Tryz.prog 25 = some 22 := by kernel_rfl
@[simp] theorem ty_s30 : tsize Tryz.prog 30 = some 3 := by kernel_rfl
@[simp] theorem ty_a30 : tagg Tryz.prog 30 = some true := by kernel_rfl
@[simp] theorem ty_z30 : tzero Tryz.prog 30 = some [.int .i64 0, .int .i64 0, .int .u64 0] := by kernel_rfl
@[simp] theorem ty_b30 : (Tryz.prog.info? 30).map (·.bytes) = some 24 := by kernel_rfl
@[simp] theorem ty_e30 : telem Tryz.prog 30 = none := by kernel_rfl
@[simp] theorem ty_p30 : tplaces Tryz.prog 30 = some [(0, 1), (1, 1), (2, 1)] := by kernel_rfl
@[simp] theorem ty_f30_0 : tfield Tryz.prog 30 0 = some (0, 3) := by kernel_rfl
@[simp] theorem ty_f30_1 : tfield Tryz.prog 30 1 = some (1, 3) := by kernel_rfl
@[simp] theorem ty_f30_2 : tfield Tryz.prog 30 2 = some (2, 22) := by kernel_rfl
@[simp] theorem ty_s31 : tsize Tryz.prog 31 = some 3 := by kernel_rfl
@[simp] theorem ty_a31 : tagg Tryz.prog 31 = some true := by kernel_rfl
@[simp] theorem ty_z31 : tzero Tryz.prog 31 = some [.int .i64 0, .int .i64 0, .int .u64 0] := by kernel_rfl
@[simp] theorem ty_b31 : (Tryz.prog.info? 31).map (·.bytes) = some 24 := by kernel_rfl
@[simp] theorem ty_e31 : telem Tryz.prog 31 = none := by kernel_rfl
@[simp] theorem ty_p31 : tplaces Tryz.prog 31 = some [(0, 1), (1, 1), (2, 1)] := by kernel_rfl
@[simp] theorem ty_f31_0 : tfield Tryz.prog 31 0 = some (0, 3) := by kernel_rfl
@[simp] theorem ty_f31_1 : tfield Tryz.prog 31 1 = some (1, 3) := by kernel_rfl
@[simp] theorem ty_f31_2 : tfield Tryz.prog 31 2 = some (2, 22) := by kernel_rfl
@[simp] theorem ty_s32 : tsize Tryz.prog 32 = some 6 := by kernel_rfl
@[simp] theorem ty_a32 : tagg Tryz.prog 32 = some true := by kernel_rfl
@[simp] theorem ty_z32 : tzero Tryz.prog 32 = some [.int .i64 0, .int .i64 0, .int .i64 0, .int .u64 0, .int .i64 0, .int .i64 0] := by kernel_rfl
@[simp] theorem ty_b32 : (Tryz.prog.info? 32).map (·.bytes) = some 48 := by kernel_rfl
@[simp] theorem ty_e32 : telem Tryz.prog 32 = none := by kernel_rfl
@[simp] theorem ty_p32 : tplaces Tryz.prog 32 = some [(0, 1), (1, 3), (4, 1), (5, 1)] := by kernel_rfl
@[simp] theorem ty_f32_0 : tfield Tryz.prog 32 0 = some (0, 3) := by kernel_rfl
@[simp] theorem ty_f32_1 : tfield Tryz.prog 32 1 = some (1, 31) := by kernel_rfl
@[simp] theorem ty_f32_2 : tfield Tryz.prog 32 2 = some (4, 3) := by kernel_rfl
@[simp] theorem ty_f32_3 : tfield Tryz.prog 32 3 = some (5, 3) := by kernel_rfl
@[simp] theorem ty_s33 : tsize Tryz.prog 33 = some 6 := by kernel_rfl
@[simp] theorem ty_a33 : tagg Tryz.prog 33 = some true := by kernel_rfl
@[simp] theorem ty_z33 : tzero Tryz.prog 33 = some [.int .i64 0, .int .i64 0, .int .i64 0, .int .u64 0, .int .i64 0, .int .i64 0] := by kernel_rfl
@[simp] theorem ty_b33 : (Tryz.prog.info? 33).map (·.bytes) = some 48 := by kernel_rfl
@[simp] theorem ty_e33 : telem Tryz.prog 33 = none := by kernel_rfl
@[simp] theorem ty_p33 : tplaces Tryz.prog 33 = some [(0, 1), (1, 3), (4, 1), (5, 1)] := by kernel_rfl
@[simp] theorem ty_f33_0 : tfield Tryz.prog 33 0 = some (0, 3) := by kernel_rfl
@[simp] theorem ty_f33_1 : tfield Tryz.prog 33 1 = some (1, 31) := by kernel_rfl
@[simp] theorem ty_f33_2 : tfield Tryz.prog 33 2 = some (4, 3) := by kernel_rfl
@[simp] theorem ty_f33_3 : tfield Tryz.prog 33 3 = some (5, 3) := by kernel_rfl
@[simp] theorem ty_s34 : tsize Tryz.prog 34 = some 1 := by kernel_rfl
@[simp] theorem ty_a34 : tagg Tryz.prog 34 = some false := by kernel_rfl
@[simp] theorem ty_z34 : tzero Tryz.prog 34 = some [.slice none 0 0] := by kernel_rfl
@[simp] theorem ty_b34 : (Tryz.prog.info? 34).map (·.bytes) = some 24 := by kernel_rfl
@[simp] theorem ty_e34 : telem Tryz.prog 34 = some 33 := by kernel_rfl
@[simp] theorem ty_s39 : tsize Tryz.prog 39 = some 1 := by kernel_rfl
@[simp] theorem ty_a39 : tagg Tryz.prog 39 = some false := by kernel_rfl
@[simp] theorem ty_z39 : tzero Tryz.prog 39 = some [.slice none 0 0] := by kernel_rfl
@[simp] theorem ty_b39 : (Tryz.prog.info? 39).map (·.bytes) = some 24 := by kernel_rfl
@[simp] theorem ty_e39 : telem Tryz.prog 39 = some 137 := by kernel_rfl
@[simp] theorem ty_s40 : tsize Tryz.prog 40 = some 1 := by kernel_rfl
@[simp] theorem ty_a40 : tagg Tryz.prog 40 = some false := by kernel_rfl
@[simp] theorem ty_z40 : tzero Tryz.prog 40 = some [.slice none 0 0] := by kernel_rfl
@[simp] theorem ty_b40 : (Tryz.prog.info? 40).map (·.bytes) = some 24 := by kernel_rfl
@[simp] theorem ty_e40 : telem Tryz.prog 40 = some 66 := by kernel_rfl
@[simp] theorem ty_s41 : tsize Tryz.prog 41 = some 1 := by kernel_rfl
@[simp] theorem ty_a41 : tagg Tryz.prog 41 = some false := by kernel_rfl
@[simp] theorem ty_z41 : tzero Tryz.prog 41 = some [.slice none 0 0] := by kernel_rfl
@[simp] theorem ty_b41 : (Tryz.prog.info? 41).map (·.bytes) = some 24 := by kernel_rfl
@[simp] theorem ty_e41 : telem Tryz.prog 41 = some 31 := by kernel_rfl
@[simp] theorem ty_s42 : tsize Tryz.prog 42 = some 1 := by kernel_rfl
@[simp] theorem ty_a42 : tagg Tryz.prog 42 = some false := by kernel_rfl
@[simp] theorem ty_z42 : tzero Tryz.prog 42 = some [.slice none 0 0] := by kernel_rfl
@[simp] theorem ty_b42 : (Tryz.prog.info? 42).map (·.bytes) = some 24 := by kernel_rfl
@[simp] theorem ty_e42 : telem Tryz.prog 42 = some 60 := by kernel_rfl
@[simp] theorem ty_s43 : tsize Tryz.prog 43 = some 1 := by kernel_rfl
@[simp] theorem ty_a43 : tagg Tryz.prog 43 = some false := by kernel_rfl
@[simp] theorem ty_z43 : tzero Tryz.prog 43 = some [.slice none 0 0] := by kernel_rfl
@[simp] theorem ty_b43 : (Tryz.prog.info? 43).map (·.bytes) = some 24 := by kernel_rfl
@[simp] theorem ty_e43 : telem Tryz.prog 43 = some 231 := by kernel_rfl
@[simp] theorem ty_s44 : tsize Tryz.prog 44 = some 5 := by kernel_rfl
@[simp] theorem ty_a44 : tagg Tryz.prog 44 = some true := by kernel_rfl
@[simp] theorem ty_z44 : tzero Tryz.prog 44 = some [.slice none 0 0, .slice none 0 0, .slice none 0 0, .slice none 0 0, .slice none 0 0] := by kernel_rfl
@[simp] theorem ty_b44 : (Tryz.prog.info? 44).map (·.bytes) = some 120 := by kernel_rfl
@[simp] theorem ty_e44 : telem Tryz.prog 44 = none := by kernel_rfl
@[simp] theorem ty_p44 : tplaces Tryz.prog 44 = some [(0, 1), (1, 1), (2, 1), (3, 1), (4, 1)] := by kernel_rfl
@[simp] theorem ty_f44_0 : tfield Tryz.prog 44 0 = some (0, 39) := by kernel_rfl
@[simp] theorem ty_f44_1 : tfield Tryz.prog 44 1 = some (1, 40) := by kernel_rfl
@[simp] theorem ty_f44_2 : tfield Tryz.prog 44 2 = some (2, 41) := by kernel_rfl
@[simp] theorem ty_f44_3 : tfield Tryz.prog 44 3 = some (3, 42) := by kernel_rfl
@[simp] theorem ty_f44_4 : tfield Tryz.prog 44 4 = some (4, 43) := by kernel_rfl
@[simp] theorem ty_s45 : tsize Tryz.prog 45 = some 5 := by kernel_rfl
@[simp] theorem ty_a45 : tagg Tryz.prog 45 = some true := by kernel_rfl
@[simp] theorem ty_z45 : tzero Tryz.prog 45 = some [.slice none 0 0, .slice none 0 0, .slice none 0 0, .slice none 0 0, .slice none 0 0] := by kernel_rfl
@[simp] theorem ty_b45 : (Tryz.prog.info? 45).map (·.bytes) = some 120 := by kernel_rfl
@[simp] theorem ty_e45 : telem Tryz.prog 45 = none := by kernel_rfl
@[simp] theorem ty_p45 : tplaces Tryz.prog 45 = some [(0, 1), (1, 1), (2, 1), (3, 1), (4, 1)] := by kernel_rfl
@[simp] theorem ty_f45_0 : tfield Tryz.prog 45 0 = some (0, 39) := by kernel_rfl
@[simp] theorem ty_f45_1 : tfield Tryz.prog 45 1 = some (1, 40) := by kernel_rfl
@[simp] theorem ty_f45_2 : tfield Tryz.prog 45 2 = some (2, 41) := by kernel_rfl
@[simp] theorem ty_f45_3 : tfield Tryz.prog 45 3 = some (3, 42) := by kernel_rfl
@[simp] theorem ty_f45_4 : tfield Tryz.prog 45 4 = some (4, 43) := by kernel_rfl
@[simp] theorem ty_s47 : tsize Tryz.prog 47 = some 1 := by kernel_rfl
@[simp] theorem ty_a47 : tagg Tryz.prog 47 = some false := by kernel_rfl
@[simp] theorem ty_z47 : tzero Tryz.prog 47 = some [.pointer none] := by kernel_rfl
@[simp] theorem ty_b47 : (Tryz.prog.info? 47).map (·.bytes) = some 8 := by kernel_rfl
@[simp] theorem ty_e47 : telem Tryz.prog 47 = none := by kernel_rfl
@[simp] theorem ty_s52 : tsize Tryz.prog 52 = some 1 := by kernel_rfl
@[simp] theorem ty_a52 : tagg Tryz.prog 52 = some true := by kernel_rfl
@[simp] theorem ty_z52 : tzero Tryz.prog 52 = some [.slice none 0 0] := by kernel_rfl
@[simp] theorem ty_b52 : (Tryz.prog.info? 52).map (·.bytes) = some 24 := by kernel_rfl
@[simp] theorem ty_e52 : telem Tryz.prog 52 = none := by kernel_rfl
@[simp] theorem ty_p52 : tplaces Tryz.prog 52 = some [(0, 1)] := by kernel_rfl
@[simp] theorem ty_f52_0 : tfield Tryz.prog 52 0 = some (0, 25) := by kernel_rfl
@[simp] theorem ty_s53 : tsize Tryz.prog 53 = some 1 := by kernel_rfl
@[simp] theorem ty_a53 : tagg Tryz.prog 53 = some true := by kernel_rfl
@[simp] theorem ty_z53 : tzero Tryz.prog 53 = some [.slice none 0 0] := by kernel_rfl
@[simp] theorem ty_b53 : (Tryz.prog.info? 53).map (·.bytes) = some 24 := by kernel_rfl
@[simp] theorem ty_e53 : telem Tryz.prog 53 = none := by kernel_rfl
@[simp] theorem ty_p53 : tplaces Tryz.prog 53 = some [(0, 1)] := by kernel_rfl
@[simp] theorem ty_f53_0 : tfield Tryz.prog 53 0 = some (0, 25) := by kernel_rfl
@[simp] theorem ty_s54 : tsize Tryz.prog 54 = some 1 := by kernel_rfl
@[simp] theorem ty_a54 : tagg Tryz.prog 54 = some false := by kernel_rfl
@[simp] theorem ty_z54 : tzero Tryz.prog 54 = some [.int .i64 0] := by kernel_rfl
@[simp] theorem ty_b54 : (Tryz.prog.info? 54).map (·.bytes) = some 8 := by kernel_rfl
@[simp] theorem ty_zz54 : (Tryz.prog.info? 54).bind (·.zero) = some (.int .i64 0) := by kernel_rfl
@[simp] theorem ty_i54 : tint Tryz.prog 54 = some .i64 := by kernel_rfl
@[simp] theorem ty_e54 : telem Tryz.prog 54 = none := by kernel_rfl
@[simp] theorem ty_s57 : tsize Tryz.prog 57 = some 1 := by kernel_rfl
@[simp] theorem ty_a57 : tagg Tryz.prog 57 = some false := by kernel_rfl
@[simp] theorem ty_z57 : tzero Tryz.prog 57 = some [.nilFunc] := by kernel_rfl
@[simp] theorem ty_b57 : (Tryz.prog.info? 57).map (·.bytes) = some 8 := by kernel_rfl
@[simp] theorem ty_e57 : telem Tryz.prog 57 = none := by kernel_rfl
@[simp] theorem ty_s58 : tsize Tryz.prog 58 = some 1 := by kernel_rfl
@[simp] theorem ty_a58 : tagg Tryz.prog 58 = some false := by kernel_rfl
@[simp] theorem ty_z58 : tzero Tryz.prog 58 = some [.slice none 0 0] := by kernel_rfl
@[simp] theorem ty_b58 : (Tryz.prog.info? 58).map (·.bytes) = some 24 := by kernel_rfl
@[simp] theorem ty_e58 : telem Tryz.prog 58 = some 107 := by kernel_rfl
@[simp] theorem ty_s59 : tsize Tryz.prog 59 = some 1 := by kernel_rfl
@[simp] theorem ty_a59 : tagg Tryz.prog 59 = some false := by kernel_rfl
@[simp] theorem ty_z59 : tzero Tryz.prog 59 = some [.slice none 0 0] := by kernel_rfl
@[simp] theorem ty_b59 : (Tryz.prog.info? 59).map (·.bytes) = some 24 := by kernel_rfl
@[simp] theorem ty_e59 : telem Tryz.prog 59 = some 5 := by kernel_rfl
@[simp] theorem ty_s60 : tsize Tryz.prog 60 = some 1 := by kernel_rfl
@[simp] theorem ty_a60 : tagg Tryz.prog 60 = some false := by kernel_rfl
@[simp] theorem ty_z60 : tzero Tryz.prog 60 = some [.slice none 0 0] := by kernel_rfl
@[simp] theorem ty_b60 : (Tryz.prog.info? 60).map (·.bytes) = some 24 := by kernel_rfl
@[simp] theorem ty_e60 : telem Tryz.prog 60 = some 3 := by kernel_rfl
@[simp] theorem ty_s61 : tsize Tryz.prog 61 = some 1 := by kernel_rfl
@[simp] theorem ty_a61 : tagg Tryz.prog 61 = some false := by kernel_rfl
@[simp] theorem ty_z61 : tzero Tryz.prog 61 = some [.slice none 0 0] := by kernel_rfl
@[simp] theorem ty_b61 : (Tryz.prog.info? 61).map (·.bytes) = some 24 := by kernel_rfl
@[simp] theorem ty_e61 : telem Tryz.prog 61 = some 105 := by kernel_rfl
@[simp] theorem ty_s62 : tsize Tryz.prog 62 = some 1 := by kernel_rfl
@[simp] theorem ty_a62 : tagg Tryz.prog 62 = some false := by kernel_rfl
@[simp] theorem ty_z62 : tzero Tryz.prog 62 = some [.slice none 0 0] := by kernel_rfl
@[simp] theorem ty_b62 : (Tryz.prog.info? 62).map (·.bytes) = some 24 := by kernel_rfl
@[simp] theorem ty_e62 : telem Tryz.prog 62 = some 250 := by kernel_rfl
@[simp] theorem ty_s63 : tsize Tryz.prog 63 = some 2 := by kernel_rfl
@[simp] theorem ty_a63 : tagg Tryz.prog 63 = some true := by kernel_rfl
@[simp] theorem ty_z63 : tzero Tryz.prog 63 = some [.int .u64 0, .int .u64 0] := by kernel_rfl
@[simp] theorem ty_b63 : (Tryz.prog.info? 63).map (·.bytes) = some 16 := by kernel_rfl
@[simp] theorem ty_e63 : telem Tryz.prog 63 = none := by kernel_rfl
@[simp] theorem ty_p63 : tplaces Tryz.prog 63 = some [(0, 1), (1, 1)] := by kernel_rfl
@[simp] theorem ty_f63_0 : tfield Tryz.prog 63 0 = some (0, 22) := by kernel_rfl
@[simp] theorem ty_f63_1 : tfield Tryz.prog 63 1 = some (1, 22) := by kernel_rfl
@[simp] theorem ty_s64 : tsize Tryz.prog 64 = some 2 := by kernel_rfl
@[simp] theorem ty_a64 : tagg Tryz.prog 64 = some true := by kernel_rfl
@[simp] theorem ty_z64 : tzero Tryz.prog 64 = some [.int .u64 0, .int .u64 0] := by kernel_rfl
@[simp] theorem ty_b64 : (Tryz.prog.info? 64).map (·.bytes) = some 16 := by kernel_rfl
@[simp] theorem ty_e64 : telem Tryz.prog 64 = none := by kernel_rfl
@[simp] theorem ty_p64 : tplaces Tryz.prog 64 = some [(0, 1), (1, 1)] := by kernel_rfl
@[simp] theorem ty_f64_0 : tfield Tryz.prog 64 0 = some (0, 22) := by kernel_rfl
@[simp] theorem ty_f64_1 : tfield Tryz.prog 64 1 = some (1, 22) := by kernel_rfl
@[simp] theorem ty_s65 : tsize Tryz.prog 65 = some 27 := by kernel_rfl
@[simp] theorem ty_a65 : tagg Tryz.prog 65 = some true := by kernel_rfl
@[simp] theorem ty_z65 : tzero Tryz.prog 65 = some [.int .i64 0, .int .i64 0, .int .i64 0, .int .i64 0, .slice none 0 0, .int .i64 0, .int .i64 0, .int .i64 0, .int .i64 0, .slice none 0 0, .int .i64 0, .int .i64 0, .int .u64 0, .int .i64 0, .slice none 0 0, .slice none 0 0, .int .i64 0, .int .i64 0, .int .u64 0, .slice none 0 0, .int .i64 0, .int .i64 0, .slice none 0 0, .int .u64 0, .slice none 0 0, .int .u64 0, .int .u64 0] := by kernel_rfl
@[simp] theorem ty_b65 : (Tryz.prog.info? 65).map (·.bytes) = some 328 := by kernel_rfl
@[simp] theorem ty_e65 : telem Tryz.prog 65 = none := by kernel_rfl
@[simp] theorem ty_p65 : tplaces Tryz.prog 65 = some [(0, 1), (1, 1), (2, 1), (3, 1), (4, 1), (5, 1), (6, 1), (7, 1), (8, 1), (9, 1), (10, 3), (13, 1), (14, 1), (15, 1), (16, 3), (19, 1), (20, 1), (21, 1), (22, 1), (23, 1), (24, 1), (25, 2)] := by kernel_rfl
@[simp] theorem ty_f65_0 : tfield Tryz.prog 65 0 = some (0, 3) := by kernel_rfl
@[simp] theorem ty_f65_1 : tfield Tryz.prog 65 1 = some (1, 3) := by kernel_rfl
@[simp] theorem ty_f65_2 : tfield Tryz.prog 65 2 = some (2, 3) := by kernel_rfl
@[simp] theorem ty_f65_3 : tfield Tryz.prog 65 3 = some (3, 3) := by kernel_rfl
@[simp] theorem ty_f65_4 : tfield Tryz.prog 65 4 = some (4, 41) := by kernel_rfl
@[simp] theorem ty_f65_5 : tfield Tryz.prog 65 5 = some (5, 3) := by kernel_rfl
@[simp] theorem ty_f65_6 : tfield Tryz.prog 65 6 = some (6, 3) := by kernel_rfl
@[simp] theorem ty_f65_7 : tfield Tryz.prog 65 7 = some (7, 3) := by kernel_rfl
@[simp] theorem ty_f65_8 : tfield Tryz.prog 65 8 = some (8, 3) := by kernel_rfl
@[simp] theorem ty_f65_9 : tfield Tryz.prog 65 9 = some (9, 58) := by kernel_rfl
@[simp] theorem ty_f65_10 : tfield Tryz.prog 65 10 = some (10, 31) := by kernel_rfl
@[simp] theorem ty_f65_11 : tfield Tryz.prog 65 11 = some (13, 3) := by kernel_rfl
@[simp] theorem ty_f65_12 : tfield Tryz.prog 65 12 = some (14, 59) := by kernel_rfl
@[simp] theorem ty_f65_13 : tfield Tryz.prog 65 13 = some (15, 25) := by kernel_rfl
@[simp] theorem ty_f65_14 : tfield Tryz.prog 65 14 = some (16, 31) := by kernel_rfl
@[simp] theorem ty_f65_15 : tfield Tryz.prog 65 15 = some (19, 60) := by kernel_rfl
@[simp] theorem ty_f65_16 : tfield Tryz.prog 65 16 = some (20, 3) := by kernel_rfl
@[simp] theorem ty_f65_17 : tfield Tryz.prog 65 17 = some (21, 3) := by kernel_rfl
@[simp] theorem ty_f65_18 : tfield Tryz.prog 65 18 = some (22, 61) := by kernel_rfl
@[simp] theorem ty_f65_19 : tfield Tryz.prog 65 19 = some (23, 22) := by kernel_rfl
@[simp] theorem ty_f65_20 : tfield Tryz.prog 65 20 = some (24, 62) := by kernel_rfl
@[simp] theorem ty_f65_21 : tfield Tryz.prog 65 21 = some (25, 64) := by kernel_rfl
@[simp] theorem ty_s66 : tsize Tryz.prog 66 = some 27 := by kernel_rfl
@[simp] theorem ty_a66 : tagg Tryz.prog 66 = some true := by kernel_rfl
@[simp] theorem ty_z66 : tzero Tryz.prog 66 = some [.int .i64 0, .int .i64 0, .int .i64 0, .int .i64 0, .slice none 0 0, .int .i64 0, .int .i64 0, .int .i64 0, .int .i64 0, .slice none 0 0, .int .i64 0, .int .i64 0, .int .u64 0, .int .i64 0, .slice none 0 0, .slice none 0 0, .int .i64 0, .int .i64 0, .int .u64 0, .slice none 0 0, .int .i64 0, .int .i64 0, .slice none 0 0, .int .u64 0, .slice none 0 0, .int .u64 0, .int .u64 0] := by kernel_rfl
@[simp] theorem ty_b66 : (Tryz.prog.info? 66).map (·.bytes) = some 328 := by kernel_rfl
@[simp] theorem ty_e66 : telem Tryz.prog 66 = none := by kernel_rfl
@[simp] theorem ty_p66 : tplaces Tryz.prog 66 = some [(0, 1), (1, 1), (2, 1), (3, 1), (4, 1), (5, 1), (6, 1), (7, 1), (8, 1), (9, 1), (10, 3), (13, 1), (14, 1), (15, 1), (16, 3), (19, 1), (20, 1), (21, 1), (22, 1), (23, 1), (24, 1), (25, 2)] := by kernel_rfl
@[simp] theorem ty_f66_0 : tfield Tryz.prog 66 0 = some (0, 3) := by kernel_rfl
@[simp] theorem ty_f66_1 : tfield Tryz.prog 66 1 = some (1, 3) := by kernel_rfl
@[simp] theorem ty_f66_2 : tfield Tryz.prog 66 2 = some (2, 3) := by kernel_rfl
@[simp] theorem ty_f66_3 : tfield Tryz.prog 66 3 = some (3, 3) := by kernel_rfl
@[simp] theorem ty_f66_4 : tfield Tryz.prog 66 4 = some (4, 41) := by kernel_rfl
@[simp] theorem ty_f66_5 : tfield Tryz.prog 66 5 = some (5, 3) := by kernel_rfl
@[simp] theorem ty_f66_6 : tfield Tryz.prog 66 6 = some (6, 3) := by kernel_rfl
@[simp] theorem ty_f66_7 : tfield Tryz.prog 66 7 = some (7, 3) := by kernel_rfl
@[simp] theorem ty_f66_8 : tfield Tryz.prog 66 8 = some (8, 3) := by kernel_rfl
@[simp] theorem ty_f66_9 : tfield Tryz.prog 66 9 = some (9, 58) := by kernel_rfl
@[simp] theorem ty_f66_10 : tfield Tryz.prog 66 10 = some (10, 31) := by kernel_rfl
@[simp] theorem ty_f66_11 : tfield Tryz.prog 66 11 = some (13, 3) := by kernel_rfl
@[simp] theorem ty_f66_12 : tfield Tryz.prog 66 12 = some (14, 59) := by kernel_rfl
@[simp] theorem ty_f66_13 : tfield Tryz.prog 66 13 = some (15, 25) := by kernel_rfl
@[simp] theorem ty_f66_14 : tfield Tryz.prog 66 14 = some (16, 31) := by kernel_rfl
@[simp] theorem ty_f66_15 : tfield Tryz.prog 66 15 = some (19, 60) := by kernel_rfl
@[simp] theorem ty_f66_16 : tfield Tryz.prog 66 16 = some (20, 3) := by kernel_rfl
@[simp] theorem ty_f66_17 : tfield Tryz.prog 66 17 = some (21, 3) := by kernel_rfl
@[simp] theorem ty_f66_18 : tfield Tryz.prog 66 18 = some (22, 61) := by kernel_rfl
@[simp] theorem ty_f66_19 : tfield Tryz.prog 66 19 = some (23, 22) := by kernel_rfl
@[simp] theorem ty_f66_20 : tfield Tryz.prog 66 20 = some (24, 62) := by kernel_rfl
@[simp] theorem ty_f66_21 : tfield Tryz.prog 66 21 = some (25, 64) := by kernel_rfl
@[simp] theorem ty_s68 : tsize Tryz.prog 68 = some 1 := by kernel_rfl
@[simp] theorem ty_a68 : tagg Tryz.prog 68 = some false := by kernel_rfl
@[simp] theorem ty_z68 : tzero Tryz.prog 68 = some [.nilFunc] := by kernel_rfl
@[simp] theorem ty_b68 : (Tryz.prog.info? 68).map (·.bytes) = some 8 := by kernel_rfl
@[simp] theorem ty_e68 : telem Tryz.prog 68 = none := by kernel_rfl
@[simp] theorem ty_s73 : tsize Tryz.prog 73 = some 1 := by kernel_rfl
@[simp] theorem ty_a73 : tagg Tryz.prog 73 = some false := by kernel_rfl
@[simp] theorem ty_z73 : tzero Tryz.prog 73 = some [.slice none 0 0] := by kernel_rfl
@[simp] theorem ty_b73 : (Tryz.prog.info? 73).map (·.bytes) = some 24 := by kernel_rfl
@[simp] theorem ty_e73 : telem Tryz.prog 73 = some 114 := by kernel_rfl
@[simp] theorem ty_s87 : tsize Tryz.prog 87 = some 30 := by kernel_rfl
@[simp] theorem ty_a87 : tagg Tryz.prog 87 = some true := by kernel_rfl
@[simp] theorem ty_z87 : tzero Tryz.prog 87 = some [.pointer none, .int .i64 0, .int .i64 0, .int .i64 0, .int .i64 0, .slice none 0 0, .int .i64 0, .int .i64 0, .int .i64 0, .int .i64 0, .slice none 0 0, .int .i64 0, .int .i64 0, .int .u64 0, .int .i64 0, .slice none 0 0, .slice none 0 0, .int .i64 0, .int .i64 0, .int .u64 0, .slice none 0 0, .int .i64 0, .int .i64 0, .slice none 0 0, .int .u64 0, .slice none 0 0, .int .u64 0, .int .u64 0, .slice none 0 0, .slice none 0 0] := by kernel_rfl
@[simp] theorem ty_b87 : (Tryz.prog.info? 87).map (·.bytes) = some 384 := by kernel_rfl
@[simp] theorem ty_e87 : telem Tryz.prog 87 = none := by kernel_rfl
@[simp] theorem ty_p87 : tplaces Tryz.prog 87 = some [(0, 1), (1, 27), (28, 1), (29, 1)] := by kernel_rfl
@[simp] theorem ty_f87_0 : tfield Tryz.prog 87 0 = some (0, 47) := by kernel_rfl
@[simp] theorem ty_f87_1 : tfield Tryz.prog 87 1 = some (1, 66) := by kernel_rfl
@[simp] theorem ty_f87_2 : tfield Tryz.prog 87 2 = some (28, 60) := by kernel_rfl
@[simp] theorem ty_f87_3 : tfield Tryz.prog 87 3 = some (29, 41) := by kernel_rfl
@[simp] theorem ty_s88 : tsize Tryz.prog 88 = some 30 := by kernel_rfl
@[simp] theorem ty_a88 : tagg Tryz.prog 88 = some true := by kernel_rfl
@[simp] theorem ty_z88 : tzero Tryz.prog 88 = some [.pointer none, .int .i64 0, .int .i64 0, .int .i64 0, .int .i64 0, .slice none 0 0, .int .i64 0, .int .i64 0, .int .i64 0, .int .i64 0, .slice none 0 0, .int .i64 0, .int .i64 0, .int .u64 0, .int .i64 0, .slice none 0 0, .slice none 0 0, .int .i64 0, .int .i64 0, .int .u64 0, .slice none 0 0, .int .i64 0, .int .i64 0, .slice none 0 0, .int .u64 0, .slice none 0 0, .int .u64 0, .int .u64 0, .slice none 0 0, .slice none 0 0] := by kernel_rfl
@[simp] theorem ty_b88 : (Tryz.prog.info? 88).map (·.bytes) = some 384 := by kernel_rfl
@[simp] theorem ty_e88 : telem Tryz.prog 88 = none := by kernel_rfl
@[simp] theorem ty_p88 : tplaces Tryz.prog 88 = some [(0, 1), (1, 27), (28, 1), (29, 1)] := by kernel_rfl
@[simp] theorem ty_f88_0 : tfield Tryz.prog 88 0 = some (0, 47) := by kernel_rfl
@[simp] theorem ty_f88_1 : tfield Tryz.prog 88 1 = some (1, 66) := by kernel_rfl
@[simp] theorem ty_f88_2 : tfield Tryz.prog 88 2 = some (28, 60) := by kernel_rfl
@[simp] theorem ty_f88_3 : tfield Tryz.prog 88 3 = some (29, 41) := by kernel_rfl
@[simp] theorem ty_s93 : tsize Tryz.prog 93 = some 1 := by kernel_rfl
@[simp] theorem ty_a93 : tagg Tryz.prog 93 = some false := by kernel_rfl
@[simp] theorem ty_z93 : tzero Tryz.prog 93 = some [.nilFunc] := by kernel_rfl
@[simp] theorem ty_b93 : (Tryz.prog.info? 93).map (·.bytes) = some 8 := by kernel_rfl
@[simp] theorem ty_e93 : telem Tryz.prog 93 = none := by kernel_rfl
@[simp] theorem ty_s94 : tsize Tryz.prog 94 = some 1 := by kernel_rfl
@[simp] theorem ty_a94 : tagg Tryz.prog 94 = some false := by kernel_rfl
@[simp] theorem ty_z94 : tzero Tryz.prog 94 = some [.slice none 0 0] := by kernel_rfl
@[simp] theorem ty_b94 : (Tryz.prog.info? 94).map (·.bytes) = some 24 := by kernel_rfl
@[simp] theorem ty_e94 : telem Tryz.prog 94 = some 99 := by kernel_rfl
@[simp] theorem ty_s95 : tsize Tryz.prog 95 = some 1 := by kernel_rfl
@[simp] theorem ty_a95 : tagg Tryz.prog 95 = some false := by kernel_rfl
@[simp] theorem ty_z95 : tzero Tryz.prog 95 = some [.slice none 0 0] := by kernel_rfl
@[simp] theorem ty_b95 : (Tryz.prog.info? 95).map (·.bytes) = some 24 := by kernel_rfl
@[simp] theorem ty_e95 : telem Tryz.prog 95 = some 94 := by kernel_rfl
@[simp] theorem ty_s98 : tsize Tryz.prog 98 = some 6 := by kernel_rfl
@[simp] theorem ty_a98 : tagg Tryz.prog 98 = some true := by kernel_rfl
@[simp] theorem ty_z98 : tzero Tryz.prog 98 = some [.slice none 0 0, .int .u64 0, .int .i64 0, .int .i64 0, .int .u64 0, .int .i64 0] := by kernel_rfl
@[simp] theorem ty_b98 : (Tryz.prog.info? 98).map (·.bytes) = some 64 := by kernel_rfl
@[simp] theorem ty_e98 : telem Tryz.prog 98 = none := by kernel_rfl
@[simp] theorem ty_p98 : tplaces Tryz.prog 98 = some [(0, 1), (1, 1), (2, 3), (5, 1)] := by kernel_rfl
@[simp] theorem ty_f98_0 : tfield Tryz.prog 98 0 = some (0, 60) := by kernel_rfl
@[simp] theorem ty_f98_1 : tfield Tryz.prog 98 1 = some (1, 22) := by kernel_rfl
@[simp] theorem ty_f98_2 : tfield Tryz.prog 98 2 = some (2, 31) := by kernel_rfl
@[simp] theorem ty_f98_3 : tfield Tryz.prog 98 3 = some (5, 3) := by kernel_rfl
@[simp] theorem ty_s99 : tsize Tryz.prog 99 = some 6 := by kernel_rfl
@[simp] theorem ty_a99 : tagg Tryz.prog 99 = some true := by kernel_rfl
@[simp] theorem ty_z99 : tzero Tryz.prog 99 = some [.slice none 0 0, .int .u64 0, .int .i64 0, .int .i64 0, .int .u64 0, .int .i64 0] := by kernel_rfl
@[simp] theorem ty_b99 : (Tryz.prog.info? 99).map (·.bytes) = some 64 := by kernel_rfl
@[simp] theorem ty_e99 : telem Tryz.prog 99 = none := by kernel_rfl
@[simp] theorem ty_p99 : tplaces Tryz.prog 99 = some [(0, 1), (1, 1), (2, 3), (5, 1)] := by kernel_rfl
@[simp] theorem ty_f99_0 : tfield Tryz.prog 99 0 = some (0, 60) := by kernel_rfl
@[simp] theorem ty_f99_1 : tfield Tryz.prog 99 1 = some (1, 22) := by kernel_rfl
@[simp] theorem ty_f99_2 : tfield Tryz.prog 99 2 = some (2, 31) := by kernel_rfl
@[simp] theorem ty_f99_3 : tfield Tryz.prog 99 3 = some (5, 3) := by kernel_rfl
@[simp] theorem ty_s100 : tsize Tryz.prog 100 = some 1 := by kernel_rfl
@[simp] theorem ty_a100 : tagg Tryz.prog 100 = some false := by kernel_rfl
@[simp] theorem ty_z100 : tzero Tryz.prog 100 = some [.nilFunc] := by kernel_rfl
@[simp] theorem ty_b100 : (Tryz.prog.info? 100).map (·.bytes) = some 8 := by kernel_rfl
@[simp] theorem ty_e100 : telem Tryz.prog 100 = none := by kernel_rfl
@[simp] theorem ty_s104 : tsize Tryz.prog 104 = some 4 := by kernel_rfl
@[simp] theorem ty_a104 : tagg Tryz.prog 104 = some true := by kernel_rfl
@[simp] theorem ty_z104 : tzero Tryz.prog 104 = some [.int .u64 0, .int .u64 0, .int .u64 0, .int .u64 0] := by kernel_rfl
@[simp] theorem ty_b104 : (Tryz.prog.info? 104).map (·.bytes) = some 32 := by kernel_rfl
@[simp] theorem ty_e104 : telem Tryz.prog 104 = none := by kernel_rfl
@[simp] theorem ty_p104 : tplaces Tryz.prog 104 = some [(0, 1), (1, 1), (2, 1), (3, 1)] := by kernel_rfl
@[simp] theorem ty_f104_0 : tfield Tryz.prog 104 0 = some (0, 22) := by kernel_rfl
@[simp] theorem ty_f104_1 : tfield Tryz.prog 104 1 = some (1, 22) := by kernel_rfl
@[simp] theorem ty_f104_2 : tfield Tryz.prog 104 2 = some (2, 22) := by kernel_rfl
@[simp] theorem ty_f104_3 : tfield Tryz.prog 104 3 = some (3, 22) := by kernel_rfl
@[simp] theorem ty_s105 : tsize Tryz.prog 105 = some 4 := by kernel_rfl
@[simp] theorem ty_a105 : tagg Tryz.prog 105 = some true := by kernel_rfl
@[simp] theorem ty_z105 : tzero Tryz.prog 105 = some [.int .u64 0, .int .u64 0, .int .u64 0, .int .u64 0] := by kernel_rfl
@[simp] theorem ty_b105 : (Tryz.prog.info? 105).map (·.bytes) = some 32 := by kernel_rfl
@[simp] theorem ty_e105 : telem Tryz.prog 105 = none := by kernel_rfl
@[simp] theorem ty_p105 : tplaces Tryz.prog 105 = some [(0, 1), (1, 1), (2, 1), (3, 1)] := by kernel_rfl
@[simp] theorem ty_f105_0 : tfield Tryz.prog 105 0 = some (0, 22) := by kernel_rfl
@[simp] theorem ty_f105_1 : tfield Tryz.prog 105 1 = some (1, 22) := by kernel_rfl
@[simp] theorem ty_f105_2 : tfield Tryz.prog 105 2 = some (2, 22) := by kernel_rfl
@[simp] theorem ty_f105_3 : tfield Tryz.prog 105 3 = some (3, 22) := by kernel_rfl
@[simp] theorem ty_s106 : tsize Tryz.prog 106 = some 2 := by kernel_rfl
@[simp] theorem ty_a106 : tagg Tryz.prog 106 = some true := by kernel_rfl
@[simp] theorem ty_z106 : tzero Tryz.prog 106 = some [.int .u64 0, .slice none 0 0] := by kernel_rfl
@[simp] theorem ty_b106 : (Tryz.prog.info? 106).map (·.bytes) = some 32 := by kernel_rfl
@[simp] theorem ty_e106 : telem Tryz.prog 106 = none := by kernel_rfl
@[simp] theorem ty_p106 : tplaces Tryz.prog 106 = some [(0, 1), (1, 1)] := by kernel_rfl
@[simp] theorem ty_f106_0 : tfield Tryz.prog 106 0 = some (0, 22) := by kernel_rfl
@[simp] theorem ty_f106_1 : tfield Tryz.prog 106 1 = some (1, 61) := by kernel_rfl
@[simp] theorem ty_s107 : tsize Tryz.prog 107 = some 2 := by kernel_rfl
@[simp] theorem ty_a107 : tagg Tryz.prog 107 = some true := by kernel_rfl
@[simp] theorem ty_z107 : tzero Tryz.prog 107 = some [.int .u64 0, .slice none 0 0] := by kernel_rfl
@[simp] theorem ty_b107 : (Tryz.prog.info? 107).map (·.bytes) = some 32 := by kernel_rfl
@[simp] theorem ty_e107 : telem Tryz.prog 107 = none := by kernel_rfl
@[simp] theorem ty_p107 : tplaces Tryz.prog 107 = some [(0, 1), (1, 1)] := by kernel_rfl
@[simp] theorem ty_f107_0 : tfield Tryz.prog 107 0 = some (0, 22) := by kernel_rfl
@[simp] theorem ty_f107_1 : tfield Tryz.prog 107 1 = some (1, 61) := by kernel_rfl
@[simp] theorem ty_s108 : tsize Tryz.prog 108 = some 1 := by kernel_rfl
@[simp] theorem ty_a108 : tagg Tryz.prog 108 = some false := by kernel_rfl
@[simp] theorem ty_z108 : tzero Tryz.prog 108 = some [.nilFunc] := by kernel_rfl
@[simp] theorem ty_b108 : (Tryz.prog.info? 108).map (·.bytes) = some 8 := by kernel_rfl
@[simp] theorem ty_e108 : telem Tryz.prog 108 = none := by kernel_rfl
@[simp] theorem ty_s112 : tsize Tryz.prog 112 = some 1 := by kernel_rfl
@[simp] theorem ty_a112 : tagg Tryz.prog 112 = some false := by kernel_rfl
@[simp] theorem ty_z112 : tzero Tryz.prog 112 = some [.map none] := by kernel_rfl
@[simp] theorem ty_b112 : (Tryz.prog.info? 112).map (·.bytes) = some 8 := by kernel_rfl
@[simp] theorem ty_e112 : telem Tryz.prog 112 = none := by kernel_rfl
@[simp] theorem ty_s113 : tsize Tryz.prog 113 = some 7 := by kernel_rfl
@[simp] theorem ty_a113 : tagg Tryz.prog 113 = some true := by kernel_rfl
@[simp] theorem ty_z113 : tzero Tryz.prog 113 = some [.slice none 0 0, .int .i64 0, .int .i64 0, .int .i64 0, .int .u64 0, .int .i64 0, .int .i64 0] := by kernel_rfl
@[simp] theorem ty_b113 : (Tryz.prog.info? 113).map (·.bytes) = some 72 := by kernel_rfl
@[simp] theorem ty_e113 : telem Tryz.prog 113 = none := by kernel_rfl
@[simp] theorem ty_p113 : tplaces Tryz.prog 113 = some [(0, 1), (1, 6)] := by kernel_rfl
@[simp] theorem ty_f113_0 : tfield Tryz.prog 113 0 = some (0, 34) := by kernel_rfl
@[simp] theorem ty_f113_1 : tfield Tryz.prog 113 1 = some (1, 33) := by kernel_rfl
@[simp] theorem ty_s114 : tsize Tryz.prog 114 = some 7 := by kernel_rfl
@[simp] theorem ty_a114 : tagg Tryz.prog 114 = some true := by kernel_rfl
@[simp] theorem ty_z114 : tzero Tryz.prog 114 = some [.slice none 0 0, .int .i64 0, .int .i64 0, .int .i64 0, .int .u64 0, .int .i64 0, .int .i64 0] := by kernel_rfl
@[simp] theorem ty_b114 : (Tryz.prog.info? 114).map (·.bytes) = some 72 := by kernel_rfl
@[simp] theorem ty_e114 : telem Tryz.prog 114 = none := by kernel_rfl
@[simp] theorem ty_p114 : tplaces Tryz.prog 114 = some [(0, 1), (1, 6)] := by kernel_rfl
@[simp] theorem ty_f114_0 : tfield Tryz.prog 114 0 = some (0, 34) := by kernel_rfl
@[simp] theorem ty_f114_1 : tfield Tryz.prog 114 1 = some (1, 33) := by kernel_rfl
@[simp] theorem ty_s116 : tsize Tryz.prog 116 = some 1 := by kernel_rfl
@[simp] theorem ty_a116 : tagg Tryz.prog 116 = some false := by kernel_rfl
@[simp] theorem ty_z116 : tzero Tryz.prog 116 = some [.nilFunc] := by kernel_rfl
@[simp] theorem ty_b116 : (Tryz.prog.info? 116).map (·.bytes) = some 8 := by kernel_rfl
@[simp] theorem ty_e116 : telem Tryz.prog 116 = none := by kernel_rfl
@[simp] theorem ty_s117 : tsize Tryz.prog 117 = some 1 := by kernel_rfl
@[simp] theorem ty_a117 : tagg Tryz.prog 117 = some false := by kernel_rfl
@[simp] theorem ty_z117 : tzero Tryz.prog 117 = some [.nilFunc] := by kernel_rfl
@[simp] theorem ty_b117 : (Tryz.prog.info? 117).map (·.bytes) = some 8 := by kernel_rfl
@[simp] theorem ty_e117 : telem Tryz.prog 117 = none := by kernel_rfl
@[simp] theorem ty_s119 : tsize Tryz.prog 119 = some 1 := by kernel_rfl
@[simp] theorem ty_a119 : tagg Tryz.prog 119 = some false := by kernel_rfl
@[simp] theorem ty_z119 : tzero Tryz.prog 119 = some [.pointer none] := by kernel_rfl
@[simp] theorem ty_b119 : (Tryz.prog.info? 119).map (·.bytes) = some 8 := by kernel_rfl
@[simp] theorem ty_e119 : telem Tryz.prog 119 = none := by kernel_rfl
@[simp] theorem ty_s120 : tsize Tryz.prog 120 = some 3 := by kernel_rfl
@[simp] theorem ty_a120 : tagg Tryz.prog 120 = some true := by kernel_rfl
@[simp] theorem ty_z120 : tzero Tryz.prog 120 = some [.pointer none, .slice none 0 0, .slice none 0 0] := by kernel_rfl
@[simp] theorem ty_b120 : (Tryz.prog.info? 120).map (·.bytes) = some 56 := by kernel_rfl
@[simp] theorem ty_e120 : telem Tryz.prog 120 = none := by kernel_rfl
@[simp] theorem ty_p120 : tplaces Tryz.prog 120 = some [(0, 1), (1, 1), (2, 1)] := by kernel_rfl
@[simp] theorem ty_f120_0 : tfield Tryz.prog 120 0 = some (0, 47) := by kernel_rfl
@[simp] theorem ty_f120_1 : tfield Tryz.prog 120 1 = some (1, 41) := by kernel_rfl
@[simp] theorem ty_f120_2 : tfield Tryz.prog 120 2 = some (2, 73) := by kernel_rfl
@[simp] theorem ty_s121 : tsize Tryz.prog 121 = some 3 := by kernel_rfl
@[simp] theorem ty_a121 : tagg Tryz.prog 121 = some true := by kernel_rfl
@[simp] theorem ty_z121 : tzero Tryz.prog 121 = some [.pointer none, .slice none 0 0, .slice none 0 0] := by kernel_rfl
@[simp] theorem ty_b121 : (Tryz.prog.info? 121).map (·.bytes) = some 56 := by kernel_rfl
@[simp] theorem ty_e121 : telem Tryz.prog 121 = none := by kernel_rfl
@[simp] theorem ty_p121 : tplaces Tryz.prog 121 = some [(0, 1), (1, 1), (2, 1)] := by kernel_rfl
@[simp] theorem ty_f121_0 : tfield Tryz.prog 121 0 = some (0, 47) := by kernel_rfl
@[simp] theorem ty_f121_1 : tfield Tryz.prog 121 1 = some (1, 41) := by kernel_rfl
@[simp] theorem ty_f121_2 : tfield Tryz.prog 121 2 = some (2, 73) := by kernel_rfl
@[simp] theorem ty_s123 : tsize Tryz.prog 123 = some 1 := by kernel_rfl
@[simp] theorem ty_a123 : tagg Tryz.prog 123 = some false := by kernel_rfl
@[simp] theorem ty_z123 : tzero Tryz.prog 123 = some [.nilFunc] := by kernel_rfl
@[simp] theorem ty_b123 : (Tryz.prog.info? 123).map (·.bytes) = some 8 := by kernel_rfl
@[simp] theorem ty_e123 : telem Tryz.prog 123 = none := by kernel_rfl
@[simp] theorem ty_s125 : tsize Tryz.prog 125 = some 1 := by kernel_rfl
@[simp] theorem ty_a125 : tagg Tryz.prog 125 = some false := by kernel_rfl
@[simp] theorem ty_z125 : tzero Tryz.prog 125 = some [.nilFunc] := by kernel_rfl
@[simp] theorem ty_b125 : (Tryz.prog.info? 125).map (·.bytes) = some 8 := by kernel_rfl
@[simp] theorem ty_e125 : telem Tryz.prog 125 = none := by kernel_rfl
@[simp] theorem ty_s127 : tsize Tryz.prog 127 = some 1 := by kernel_rfl
@[simp] theorem ty_a127 : tagg Tryz.prog 127 = some false := by kernel_rfl
@[simp] theorem ty_z127 : tzero Tryz.prog 127 = some [.nilFunc] := by kernel_rfl
@[simp] theorem ty_b127 : (Tryz.prog.info? 127).map (·.bytes) = some 8 := by kernel_rfl
@[simp] theorem ty_e127 : telem Tryz.prog 127 = none := by kernel_rfl
@[simp] theorem ty_s128 : tsize Tryz.prog 128 = some 2 := by kernel_rfl
@[simp] theorem ty_a128 : tagg Tryz.prog 128 = some true := by kernel_rfl
@[simp] theorem ty_z128 : tzero Tryz.prog 128 = some [.int .u64 0, .int .u64 0] := by kernel_rfl
@[simp] theorem ty_b128 : (Tryz.prog.info? 128).map (·.bytes) = some 16 := by kernel_rfl
@[simp] theorem ty_e128 : telem Tryz.prog 128 = none := by kernel_rfl
@[simp] theorem ty_p128 : tplaces Tryz.prog 128 = some [(0, 1), (1, 1)] := by kernel_rfl
@[simp] theorem ty_f128_0 : tfield Tryz.prog 128 0 = some (0, 22) := by kernel_rfl
@[simp] theorem ty_f128_1 : tfield Tryz.prog 128 1 = some (1, 22) := by kernel_rfl
@[simp] theorem ty_s129 : tsize Tryz.prog 129 = some 2 := by kernel_rfl
@[simp] theorem ty_a129 : tagg Tryz.prog 129 = some true := by kernel_rfl
@[simp] theorem ty_z129 : tzero Tryz.prog 129 = some [.int .u64 0, .int .u64 0] := by kernel_rfl
@[simp] theorem ty_b129 : (Tryz.prog.info? 129).map (·.bytes) = some 16 := by kernel_rfl
@[simp] theorem ty_e129 : telem Tryz.prog 129 = none := by kernel_rfl
@[simp] theorem ty_p129 : tplaces Tryz.prog 129 = some [(0, 1), (1, 1)] := by kernel_rfl
@[simp] theorem ty_f129_0 : tfield Tryz.prog 129 0 = some (0, 22) := by kernel_rfl
@[simp] theorem ty_f129_1 : tfield Tryz.prog 129 1 = some (1, 22) := by kernel_rfl
@[simp] theorem ty_s130 : tsize Tryz.prog 130 = some 1 := by kernel_rfl
@[simp] theorem ty_a130 : tagg Tryz.prog 130 = some false := by kernel_rfl
@[simp] theorem ty_z130 : tzero Tryz.prog 130 = some [.nilFunc] := by kernel_rfl
@[simp] theorem ty_b130 : (Tryz.prog.info? 130).map (·.bytes) = some 8 := by kernel_rfl
@[simp] theorem ty_e130 : telem Tryz.prog 130 = none := by kernel_rfl
@[simp] theorem ty_s131 : tsize Tryz.prog 131 = some 1 := by kernel_rfl
@[simp] theorem ty_a131 : tagg Tryz.prog 131 = some false := by kernel_rfl
@[simp] theorem ty_z131 : tzero Tryz.prog 131 = some [.nilFunc] := by kernel_rfl
@[simp] theorem ty_b131 : (Tryz.prog.info? 131).map (·.bytes) = some 8 := by kernel_rfl
@[simp] theorem ty_e131 : telem Tryz.prog 131 = none := by kernel_rfl
@[simp] theorem ty_s136 : tsize Tryz.prog 136 = some 5 := by kernel_rfl
@[simp] theorem ty_a136 : tagg Tryz.prog 136 = some true := by kernel_rfl
@[simp] theorem ty_z136 : tzero Tryz.prog 136 = some [.int .i64 0, .int .i64 0, .int .u64 0, .int .u64 0, .int .u64 0] := by kernel_rfl
@[simp] theorem ty_b136 : (Tryz.prog.info? 136).map (·.bytes) = some 40 := by kernel_rfl
@[simp] theorem ty_e136 : telem Tryz.prog 136 = none := by kernel_rfl
@[simp] theorem ty_p136 : tplaces Tryz.prog 136 = some [(0, 1), (1, 1), (2, 1), (3, 1), (4, 1)] := by kernel_rfl
@[simp] theorem ty_f136_0 : tfield Tryz.prog 136 0 = some (0, 3) := by kernel_rfl
@[simp] theorem ty_f136_1 : tfield Tryz.prog 136 1 = some (1, 3) := by kernel_rfl
@[simp] theorem ty_f136_2 : tfield Tryz.prog 136 2 = some (2, 22) := by kernel_rfl
@[simp] theorem ty_f136_3 : tfield Tryz.prog 136 3 = some (3, 22) := by kernel_rfl
@[simp] theorem ty_f136_4 : tfield Tryz.prog 136 4 = some (4, 22) := by kernel_rfl
@[simp] theorem ty_s137 : tsize Tryz.prog 137 = some 5 := by kernel_rfl
@[simp] theorem ty_a137 : tagg Tryz.prog 137 = some true := by kernel_rfl
@[simp] theorem ty_z137 : tzero Tryz.prog 137 = some [.int .i64 0, .int .i64 0, .int .u64 0, .int .u64 0, .int .u64 0] := by kernel_rfl
@[simp] theorem ty_b137 : (Tryz.prog.info? 137).map (·.bytes) = some 40 := by kernel_rfl
@[simp] theorem ty_e137 : telem Tryz.prog 137 = none := by kernel_rfl
@[simp] theorem ty_p137 : tplaces Tryz.prog 137 = some [(0, 1), (1, 1), (2, 1), (3, 1), (4, 1)] := by kernel_rfl
@[simp] theorem ty_f137_0 : tfield Tryz.prog 137 0 = some (0, 3) := by kernel_rfl
@[simp] theorem ty_f137_1 : tfield Tryz.prog 137 1 = some (1, 3) := by kernel_rfl
@[simp] theorem ty_f137_2 : tfield Tryz.prog 137 2 = some (2, 22) := by kernel_rfl
@[simp] theorem ty_f137_3 : tfield Tryz.prog 137 3 = some (3, 22) := by kernel_rfl
@[simp] theorem ty_f137_4 : tfield Tryz.prog 137 4 = some (4, 22) := by kernel_rfl
@[simp] theorem ty_s154 : tsize Tryz.prog 154 = some 1 := by kernel_rfl
@[simp] theorem ty_a154 : tagg Tryz.prog 154 = some false := by kernel_rfl
@[simp] theorem ty_z154 : tzero Tryz.prog 154 = some [.map none] := by kernel_rfl
@[simp] theorem ty_b154 : (Tryz.prog.info? 154).map (·.bytes) = some 8 := by kernel_rfl
@[simp] theorem ty_e154 : telem Tryz.prog 154 = none := by kernel_rfl
@[simp] theorem ty_s155 : tsize Tryz.prog 155 = some 1 := by kernel_rfl
@[simp] theorem ty_a155 : tagg Tryz.prog 155 = some false := by kernel_rfl
@[simp] theorem ty_z155 : tzero Tryz.prog 155 = some [.slice none 0 0] := by kernel_rfl
@[simp] theorem ty_b155 : (Tryz.prog.info? 155).map (·.bytes) = some 24 := by kernel_rfl
@[simp] theorem ty_e155 : telem Tryz.prog 155 = some 164 := by kernel_rfl
@[simp] theorem ty_s156 : tsize Tryz.prog 156 = some 3 := by kernel_rfl
@[simp] theorem ty_a156 : tagg Tryz.prog 156 = some true := by kernel_rfl
@[simp] theorem ty_z156 : tzero Tryz.prog 156 = some [.slice none 0 0, .map none, .slice none 0 0] := by kernel_rfl
@[simp] theorem ty_b156 : (Tryz.prog.info? 156).map (·.bytes) = some 56 := by kernel_rfl
@[simp] theorem ty_e156 : telem Tryz.prog 156 = none := by kernel_rfl
@[simp] theorem ty_p156 : tplaces Tryz.prog 156 = some [(0, 1), (1, 1), (2, 1)] := by kernel_rfl
@[simp] theorem ty_f156_0 : tfield Tryz.prog 156 0 = some (0, 39) := by kernel_rfl
@[simp] theorem ty_f156_1 : tfield Tryz.prog 156 1 = some (1, 154) := by kernel_rfl
@[simp] theorem ty_f156_2 : tfield Tryz.prog 156 2 = some (2, 155) := by kernel_rfl
@[simp] theorem ty_s157 : tsize Tryz.prog 157 = some 3 := by kernel_rfl
@[simp] theorem ty_a157 : tagg Tryz.prog 157 = some true := by kernel_rfl
@[simp] theorem ty_z157 : tzero Tryz.prog 157 = some [.slice none 0 0, .map none, .slice none 0 0] := by kernel_rfl
@[simp] theorem ty_b157 : (Tryz.prog.info? 157).map (·.bytes) = some 56 := by kernel_rfl
@[simp] theorem ty_e157 : telem Tryz.prog 157 = none := by kernel_rfl
@[simp] theorem ty_p157 : tplaces Tryz.prog 157 = some [(0, 1), (1, 1), (2, 1)] := by kernel_rfl
@[simp] theorem ty_f157_0 : tfield Tryz.prog 157 0 = some (0, 39) := by kernel_rfl
@[simp] theorem ty_f157_1 : tfield Tryz.prog 157 1 = some (1, 154) := by kernel_rfl
@[simp] theorem ty_f157_2 : tfield Tryz.prog 157 2 = some (2, 155) := by kernel_rfl
@[simp] theorem ty_s159 : tsize Tryz.prog 159 = some 1 := by kernel_rfl
@[simp] theorem ty_a159 : tagg Tryz.prog 159 = some false := by kernel_rfl
@[simp] theorem ty_z159 : tzero Tryz.prog 159 = some [.nilFunc] := by kernel_rfl
@[simp] theorem ty_b159 : (Tryz.prog.info? 159).map (·.bytes) = some 8 := by kernel_rfl
@[simp] theorem ty_e159 : telem Tryz.prog 159 = none := by kernel_rfl
@[simp] theorem ty_s161 : tsize Tryz.prog 161 = some 4 := by kernel_rfl
@[simp] theorem ty_a161 : tagg Tryz.prog 161 = some true := by kernel_rfl
@[simp] theorem ty_z161 : tzero Tryz.prog 161 = some [.int .u64 0, .int .u64 0, .int .u64 0, .int .u64 0] := by kernel_rfl
@[simp] theorem ty_b161 : (Tryz.prog.info? 161).map (·.bytes) = some 32 := by kernel_rfl
@[simp] theorem ty_e161 : telem Tryz.prog 161 = none := by kernel_rfl
@[simp] theorem ty_r161 : tarr Tryz.prog 161 = some (4, 22) := by kernel_rfl
@[simp] theorem ty_s162 : tsize Tryz.prog 162 = some 4 := by kernel_rfl
@[simp] theorem ty_a162 : tagg Tryz.prog 162 = some true := by kernel_rfl
@[simp] theorem ty_z162 : tzero Tryz.prog 162 = some [.int .u64 0, .int .u64 0, .int .u64 0, .int .u64 0] := by kernel_rfl
@[simp] theorem ty_b162 : (Tryz.prog.info? 162).map (·.bytes) = some 32 := by kernel_rfl
@[simp] theorem ty_e162 : telem Tryz.prog 162 = none := by kernel_rfl
@[simp] theorem ty_r162 : tarr Tryz.prog 162 = some (4, 22) := by kernel_rfl
@[simp] theorem ty_s163 : tsize Tryz.prog 163 = some 35 := by kernel_rfl
@[simp] theorem ty_a163 : tagg Tryz.prog 163 = some true := by kernel_rfl
@[simp] theorem ty_z163 : tzero Tryz.prog 163 = some [.int .i64 0, .int .i64 0, .int .i64 0, .int .i64 0, .slice none 0 0, .int .i64 0, .int .i64 0, .int .i64 0, .int .i64 0, .slice none 0 0, .int .i64 0, .int .i64 0, .int .u64 0, .int .i64 0, .slice none 0 0, .slice none 0 0, .int .i64 0, .int .i64 0, .int .u64 0, .slice none 0 0, .int .i64 0, .int .i64 0, .slice none 0 0, .int .u64 0, .slice none 0 0, .int .u64 0, .int .u64 0, .int .i64 0, .int .i64 0, .int .u64 0, .int .u64 0, .int .u64 0, .int .u64 0, .int .u64 0, .int .i64 0] := by kernel_rfl
@[simp] theorem ty_b163 : (Tryz.prog.info? 163).map (·.bytes) = some 392 := by kernel_rfl
@[simp] theorem ty_e163 : telem Tryz.prog 163 = none := by kernel_rfl
@[simp] theorem ty_p163 : tplaces Tryz.prog 163 = some [(0, 27), (27, 3), (30, 4), (34, 1)] := by kernel_rfl
@[simp] theorem ty_f163_0 : tfield Tryz.prog 163 0 = some (0, 66) := by kernel_rfl
@[simp] theorem ty_f163_1 : tfield Tryz.prog 163 1 = some (27, 31) := by kernel_rfl
@[simp] theorem ty_f163_2 : tfield Tryz.prog 163 2 = some (30, 162) := by kernel_rfl
@[simp] theorem ty_f163_3 : tfield Tryz.prog 163 3 = some (34, 3) := by kernel_rfl
@[simp] theorem ty_s164 : tsize Tryz.prog 164 = some 35 := by kernel_rfl
@[simp] theorem ty_a164 : tagg Tryz.prog 164 = some true := by kernel_rfl
@[simp] theorem ty_z164 : tzero Tryz.prog 164 = some [.int .i64 0, .int .i64 0, .int .i64 0, .int .i64 0, .slice none 0 0, .int .i64 0, .int .i64 0, .int .i64 0, .int .i64 0, .slice none 0 0, .int .i64 0, .int .i64 0, .int .u64 0, .int .i64 0, .slice none 0 0, .slice none 0 0, .int .i64 0, .int .i64 0, .int .u64 0, .slice none 0 0, .int .i64 0, .int .i64 0, .slice none 0 0, .int .u64 0, .slice none 0 0, .int .u64 0, .int .u64 0, .int .i64 0, .int .i64 0, .int .u64 0, .int .u64 0, .int .u64 0, .int .u64 0, .int .u64 0, .int .i64 0] := by kernel_rfl
@[simp] theorem ty_b164 : (Tryz.prog.info? 164).map (·.bytes) = some 392 := by kernel_rfl
@[simp] theorem ty_e164 : telem Tryz.prog 164 = none := by kernel_rfl
@[simp] theorem ty_p164 : tplaces Tryz.prog 164 = some [(0, 27), (27, 3), (30, 4), (34, 1)] := by kernel_rfl
@[simp] theorem ty_f164_0 : tfield Tryz.prog 164 0 = some (0, 66) := by kernel_rfl
@[simp] theorem ty_f164_1 : tfield Tryz.prog 164 1 = some (27, 31) := by kernel_rfl
@[simp] theorem ty_f164_2 : tfield Tryz.prog 164 2 = some (30, 162) := by kernel_rfl
@[simp] theorem ty_f164_3 : tfield Tryz.prog 164 3 = some (34, 3) := by kernel_rfl
@[simp] theorem ty_s171 : tsize Tryz.prog 171 = some 1 := by kernel_rfl
@[simp] theorem ty_a171 : tagg Tryz.prog 171 = some false := by kernel_rfl
@[simp] theorem ty_z171 : tzero Tryz.prog 171 = some [.nilFunc] := by kernel_rfl
@[simp] theorem ty_b171 : (Tryz.prog.info? 171).map (·.bytes) = some 8 := by kernel_rfl
@[simp] theorem ty_e171 : telem Tryz.prog 171 = none := by kernel_rfl
@[simp] theorem ty_s180 : tsize Tryz.prog 180 = some 14 := by kernel_rfl
@[simp] theorem ty_a180 : tagg Tryz.prog 180 = some true := by kernel_rfl
@[simp] theorem ty_z180 : tzero Tryz.prog 180 = some [.int .i64 0, .int .i64 0, .int .i64 0, .int .i64 0, .int .i64 0, .int .i64 0, .int .i64 0, .int .i64 0, .int .i64 0, .int .i64 0, .int .i64 0, .int .i64 0, .int .i64 0, .int .i64 0] := by kernel_rfl
@[simp] theorem ty_b180 : (Tryz.prog.info? 180).map (·.bytes) = some 112 := by kernel_rfl
@[simp] theorem ty_e180 : telem Tryz.prog 180 = none := by kernel_rfl
@[simp] theorem ty_r180 : tarr Tryz.prog 180 = some (14, 3) := by kernel_rfl
@[simp] theorem ty_s193 : tsize Tryz.prog 193 = some 2 := by kernel_rfl
@[simp] theorem ty_a193 : tagg Tryz.prog 193 = some true := by kernel_rfl
@[simp] theorem ty_z193 : tzero Tryz.prog 193 = some [.int .u64 0, .int .u64 0] := by kernel_rfl
@[simp] theorem ty_b193 : (Tryz.prog.info? 193).map (·.bytes) = some 16 := by kernel_rfl
@[simp] theorem ty_e193 : telem Tryz.prog 193 = none := by kernel_rfl
@[simp] theorem ty_p193 : tplaces Tryz.prog 193 = some [(0, 1), (1, 1)] := by kernel_rfl
@[simp] theorem ty_f193_0 : tfield Tryz.prog 193 0 = some (0, 22) := by kernel_rfl
@[simp] theorem ty_f193_1 : tfield Tryz.prog 193 1 = some (1, 22) := by kernel_rfl
@[simp] theorem ty_s194 : tsize Tryz.prog 194 = some 2 := by kernel_rfl
@[simp] theorem ty_a194 : tagg Tryz.prog 194 = some true := by kernel_rfl
@[simp] theorem ty_z194 : tzero Tryz.prog 194 = some [.int .u64 0, .int .u64 0] := by kernel_rfl
@[simp] theorem ty_b194 : (Tryz.prog.info? 194).map (·.bytes) = some 16 := by kernel_rfl
@[simp] theorem ty_e194 : telem Tryz.prog 194 = none := by kernel_rfl
@[simp] theorem ty_p194 : tplaces Tryz.prog 194 = some [(0, 1), (1, 1)] := by kernel_rfl
@[simp] theorem ty_f194_0 : tfield Tryz.prog 194 0 = some (0, 22) := by kernel_rfl
@[simp] theorem ty_f194_1 : tfield Tryz.prog 194 1 = some (1, 22) := by kernel_rfl
@[simp] theorem ty_s204 : tsize Tryz.prog 204 = some 1 := by kernel_rfl
@[simp] theorem ty_a204 : tagg Tryz.prog 204 = some false := by kernel_rfl
@[simp] theorem ty_z204 : tzero Tryz.prog 204 = some [.nilFunc] := by kernel_rfl
@[simp] theorem ty_b204 : (Tryz.prog.info? 204).map (·.bytes) = some 8 := by kernel_rfl
@[simp] theorem ty_e204 : telem Tryz.prog 204 = none := by kernel_rfl
@[simp] theorem ty_s208 : tsize Tryz.prog 208 = some 1 := by kernel_rfl
@[simp] theorem ty_a208 : tagg Tryz.prog 208 = some false := by kernel_rfl
@[simp] theorem ty_z208 : tzero Tryz.prog 208 = some [.pointer none] := by kernel_rfl
@[simp] theorem ty_b208 : (Tryz.prog.info? 208).map (·.bytes) = some 8 := by kernel_rfl
@[simp] theorem ty_e208 : telem Tryz.prog 208 = none := by kernel_rfl
@[simp] theorem ty_s211 : tsize Tryz.prog 211 = some 1 := by kernel_rfl
@[simp] theorem ty_a211 : tagg Tryz.prog 211 = some false := by kernel_rfl
@[simp] theorem ty_z211 : tzero Tryz.prog 211 = some [.nilFunc] := by kernel_rfl
@[simp] theorem ty_b211 : (Tryz.prog.info? 211).map (·.bytes) = some 8 := by kernel_rfl
@[simp] theorem ty_e211 : telem Tryz.prog 211 = none := by kernel_rfl
@[simp] theorem ty_s219 : tsize Tryz.prog 219 = some 1 := by kernel_rfl
@[simp] theorem ty_a219 : tagg Tryz.prog 219 = some false := by kernel_rfl
@[simp] theorem ty_z219 : tzero Tryz.prog 219 = some [.int .u64 0] := by kernel_rfl
@[simp] theorem ty_b219 : (Tryz.prog.info? 219).map (·.bytes) = some 8 := by kernel_rfl
@[simp] theorem ty_zz219 : (Tryz.prog.info? 219).bind (·.zero) = some (.int .u64 0) := by kernel_rfl
@[simp] theorem ty_i219 : tint Tryz.prog 219 = some .u64 := by kernel_rfl
@[simp] theorem ty_e219 : telem Tryz.prog 219 = none := by kernel_rfl
@[simp] theorem ty_s221 : tsize Tryz.prog 221 = some 1 := by kernel_rfl
@[simp] theorem ty_a221 : tagg Tryz.prog 221 = some false := by kernel_rfl
@[simp] theorem ty_z221 : tzero Tryz.prog 221 = some [.nilFunc] := by kernel_rfl
@[simp] theorem ty_b221 : (Tryz.prog.info? 221).map (·.bytes) = some 8 := by kernel_rfl
@[simp] theorem ty_e221 : telem Tryz.prog 221 = none := by kernel_rfl
@[simp] theorem ty_s231 : tsize Tryz.prog 231 = some 1 := by kernel_rfl
@[simp] theorem ty_a231 : tagg Tryz.prog 231 = some false := by kernel_rfl
@[simp] theorem ty_z231 : tzero Tryz.prog 231 = some [.slice none 0 0] := by kernel_rfl
@[simp] theorem ty_b231 : (Tryz.prog.info? 231).map (·.bytes) = some 24 := by kernel_rfl
@[simp] theorem ty_e231 : telem Tryz.prog 231 = some 4 := by kernel_rfl
@[simp] theorem ty_s249 : tsize Tryz.prog 249 = some 4 := by kernel_rfl
@[simp] theorem ty_a249 : tagg Tryz.prog 249 = some true := by kernel_rfl
@[simp] theorem ty_z249 : tzero Tryz.prog 249 = some [.int .i64 0, .int .i64 0, .int .u64 0, .slice none 0 0] := by kernel_rfl
@[simp] theorem ty_b249 : (Tryz.prog.info? 249).map (·.bytes) = some 48 := by kernel_rfl
@[simp] theorem ty_e249 : telem Tryz.prog 249 = none := by kernel_rfl
@[simp] theorem ty_p249 : tplaces Tryz.prog 249 = some [(0, 3), (3, 1)] := by kernel_rfl
@[simp] theorem ty_f249_0 : tfield Tryz.prog 249 0 = some (0, 31) := by kernel_rfl
@[simp] theorem ty_f249_1 : tfield Tryz.prog 249 1 = some (3, 59) := by kernel_rfl
@[simp] theorem ty_s250 : tsize Tryz.prog 250 = some 4 := by kernel_rfl
@[simp] theorem ty_a250 : tagg Tryz.prog 250 = some true := by kernel_rfl
@[simp] theorem ty_z250 : tzero Tryz.prog 250 = some [.int .i64 0, .int .i64 0, .int .u64 0, .slice none 0 0] := by kernel_rfl
@[simp] theorem ty_b250 : (Tryz.prog.info? 250).map (·.bytes) = some 48 := by kernel_rfl
@[simp] theorem ty_e250 : telem Tryz.prog 250 = none := by kernel_rfl
@[simp] theorem ty_p250 : tplaces Tryz.prog 250 = some [(0, 3), (3, 1)] := by kernel_rfl
@[simp] theorem ty_f250_0 : tfield Tryz.prog 250 0 = some (0, 31) := by kernel_rfl
@[simp] theorem ty_f250_1 : tfield Tryz.prog 250 1 = some (3, 59) := by kernel_rfl
@[simp] theorem ty_s252 : tsize Tryz.prog 252 = some 1 := by kernel_rfl
@[simp] theorem ty_a252 : tagg Tryz.prog 252 = some false := by kernel_rfl
@[simp] theorem ty_z252 : tzero Tryz.prog 252 = some [.pointer none] := by kernel_rfl
@[simp] theorem ty_b252 : (Tryz.prog.info? 252).map (·.bytes) = some 8 := by kernel_rfl
@[simp] theorem ty_e252 : telem Tryz.prog 252 = none := by kernel_rfl
@[simp] theorem ty_s262 : tsize Tryz.prog 262 = some 1 := by kernel_rfl
@[simp] theorem ty_a262 : tagg Tryz.prog 262 = some false := by kernel_rfl
@[simp] theorem ty_z262 : tzero Tryz.prog 262 = some [.slice none 0 0] := by kernel_rfl
@[simp] theorem ty_b262 : (Tryz.prog.info? 262).map (·.bytes) = some 24 := by kernel_rfl
@[simp] theorem ty_e262 : telem Tryz.prog 262 = some 264 := by kernel_rfl
@[simp] theorem ty_s263 : tsize Tryz.prog 263 = some 2 := by kernel_rfl
@[simp] theorem ty_a263 : tagg Tryz.prog 263 = some true := by kernel_rfl
@[simp] theorem ty_z263 : tzero Tryz.prog 263 = some [.int .i64 0, .int .i64 0] := by kernel_rfl
@[simp] theorem ty_b263 : (Tryz.prog.info? 263).map (·.bytes) = some 16 := by kernel_rfl
@[simp] theorem ty_e263 : telem Tryz.prog 263 = none := by kernel_rfl
@[simp] theorem ty_p263 : tplaces Tryz.prog 263 = some [(0, 1), (1, 1)] := by kernel_rfl
@[simp] theorem ty_f263_0 : tfield Tryz.prog 263 0 = some (0, 3) := by kernel_rfl
@[simp] theorem ty_f263_1 : tfield Tryz.prog 263 1 = some (1, 3) := by kernel_rfl
@[simp] theorem ty_s264 : tsize Tryz.prog 264 = some 2 := by kernel_rfl
@[simp] theorem ty_a264 : tagg Tryz.prog 264 = some true := by kernel_rfl
@[simp] theorem ty_z264 : tzero Tryz.prog 264 = some [.int .i64 0, .int .i64 0] := by kernel_rfl
@[simp] theorem ty_b264 : (Tryz.prog.info? 264).map (·.bytes) = some 16 := by kernel_rfl
@[simp] theorem ty_e264 : telem Tryz.prog 264 = none := by kernel_rfl
@[simp] theorem ty_p264 : tplaces Tryz.prog 264 = some [(0, 1), (1, 1)] := by kernel_rfl
@[simp] theorem ty_f264_0 : tfield Tryz.prog 264 0 = some (0, 3) := by kernel_rfl
@[simp] theorem ty_f264_1 : tfield Tryz.prog 264 1 = some (1, 3) := by kernel_rfl
@[simp] theorem ty_s266 : tsize Tryz.prog 266 = some 1 := by kernel_rfl
@[simp] theorem ty_a266 : tagg Tryz.prog 266 = some false := by kernel_rfl
@[simp] theorem ty_z266 : tzero Tryz.prog 266 = some [.nilFunc] := by kernel_rfl
@[simp] theorem ty_b266 : (Tryz.prog.info? 266).map (·.bytes) = some 8 := by kernel_rfl
@[simp] theorem ty_e266 : telem Tryz.prog 266 = none := by kernel_rfl
@[simp] theorem ty_s267 : tsize Tryz.prog 267 = some 1 := by kernel_rfl
@[simp] theorem ty_a267 : tagg Tryz.prog 267 = some false := by kernel_rfl
@[simp] theorem ty_z267 : tzero Tryz.prog 267 = some [.pointer none] := by kernel_rfl
@[simp] theorem ty_b267 : (Tryz.prog.info? 267).map (·.bytes) = some 8 := by kernel_rfl
@[simp] theorem ty_e267 : telem Tryz.prog 267 = none := by kernel_rfl
@[simp] theorem ty_s276 : tsize Tryz.prog 276 = some 1 := by kernel_rfl
@[simp] theorem ty_a276 : tagg Tryz.prog 276 = some false := by kernel_rfl
@[simp] theorem ty_z276 : tzero Tryz.prog 276 = some [.nilFunc] := by kernel_rfl
@[simp] theorem ty_b276 : (Tryz.prog.info? 276).map (·.bytes) = some 8 := by kernel_rfl
@[simp] theorem ty_e276 : telem Tryz.prog 276 = none := by kernel_rfl
@[simp] theorem ty_s285 : tsize Tryz.prog 285 = some 1 := by kernel_rfl
@[simp] theorem ty_a285 : tagg Tryz.prog 285 = some false := by kernel_rfl
@[simp] theorem ty_z285 : tzero Tryz.prog 285 = some [.nilFunc] := by kernel_rfl
@[simp] theorem ty_b285 : (Tryz.prog.info? 285).map (·.bytes) = some 8 := by kernel_rfl
@[simp] theorem ty_e285 : telem Tryz.prog 285 = none := by kernel_rfl
@[simp] theorem ty_s286 : tsize Tryz.prog 286 = some 1 := by kernel_rfl
@[simp] theorem ty_a286 : tagg Tryz.prog 286 = some false := by kernel_rfl
@[simp] theorem ty_z286 : tzero Tryz.prog 286 = some [.slice none 0 0] := by kernel_rfl
@[simp] theorem ty_b286 : (Tryz.prog.info? 286).map (·.bytes) = some 24 := by kernel_rfl
@[simp] theorem ty_e286 : telem Tryz.prog 286 = some 440 := by kernel_rfl
@[simp] theorem ty_s287 : tsize Tryz.prog 287 = some 1 := by kernel_rfl
@[simp] theorem ty_a287 : tagg Tryz.prog 287 = some false := by kernel_rfl
@[simp] theorem ty_z287 : tzero Tryz.prog 287 = some [.slice none 0 0] := by kernel_rfl
@[simp] theorem ty_b287 : (Tryz.prog.info? 287).map (·.bytes) = some 24 := by kernel_rfl
@[simp] theorem ty_e287 : telem Tryz.prog 287 = some 472 := by kernel_rfl
@[simp] theorem ty_s288 : tsize Tryz.prog 288 = some 6 := by kernel_rfl
@[simp] theorem ty_a288 : tagg Tryz.prog 288 = some true := by kernel_rfl
@[simp] theorem ty_z288 : tzero Tryz.prog 288 = some [.slice none 0 0, .slice none 0 0, .slice none 0 0, .slice none 0 0, .int .i64 0, .slice none 0 0] := by kernel_rfl
@[simp] theorem ty_b288 : (Tryz.prog.info? 288).map (·.bytes) = some 128 := by kernel_rfl
@[simp] theorem ty_e288 : telem Tryz.prog 288 = none := by kernel_rfl
@[simp] theorem ty_p288 : tplaces Tryz.prog 288 = some [(0, 1), (1, 1), (2, 1), (3, 1), (4, 1), (5, 1)] := by kernel_rfl
@[simp] theorem ty_f288_0 : tfield Tryz.prog 288 0 = some (0, 39) := by kernel_rfl
@[simp] theorem ty_f288_1 : tfield Tryz.prog 288 1 = some (1, 60) := by kernel_rfl
@[simp] theorem ty_f288_2 : tfield Tryz.prog 288 2 = some (2, 60) := by kernel_rfl
@[simp] theorem ty_f288_3 : tfield Tryz.prog 288 3 = some (3, 286) := by kernel_rfl
@[simp] theorem ty_f288_4 : tfield Tryz.prog 288 4 = some (4, 3) := by kernel_rfl
@[simp] theorem ty_f288_5 : tfield Tryz.prog 288 5 = some (5, 287) := by kernel_rfl
@[simp] theorem ty_s289 : tsize Tryz.prog 289 = some 6 := by kernel_rfl
@[simp] theorem ty_a289 : tagg Tryz.prog 289 = some true := by kernel_rfl
@[simp] theorem ty_z289 : tzero Tryz.prog 289 = some [.slice none 0 0, .slice none 0 0, .slice none 0 0, .slice none 0 0, .int .i64 0, .slice none 0 0] := by kernel_rfl
@[simp] theorem ty_b289 : (Tryz.prog.info? 289).map (·.bytes) = some 128 := by kernel_rfl
@[simp] theorem ty_e289 : telem Tryz.prog 289 = none := by kernel_rfl
@[simp] theorem ty_p289 : tplaces Tryz.prog 289 = some [(0, 1), (1, 1), (2, 1), (3, 1), (4, 1), (5, 1)] := by kernel_rfl
@[simp] theorem ty_f289_0 : tfield Tryz.prog 289 0 = some (0, 39) := by kernel_rfl
@[simp] theorem ty_f289_1 : tfield Tryz.prog 289 1 = some (1, 60) := by kernel_rfl
@[simp] theorem ty_f289_2 : tfield Tryz.prog 289 2 = some (2, 60) := by kernel_rfl
@[simp] theorem ty_f289_3 : tfield Tryz.prog 289 3 = some (3, 286) := by kernel_rfl
@[simp] theorem ty_f289_4 : tfield Tryz.prog 289 4 = some (4, 3) := by kernel_rfl
@[simp] theorem ty_f289_5 : tfield Tryz.prog 289 5 = some (5, 287) := by kernel_rfl
@[simp] theorem ty_s294 : tsize Tryz.prog 294 = some 1 := by kernel_rfl
@[simp] theorem ty_a294 : tagg Tryz.prog 294 = some false := by kernel_rfl
@[simp] theorem ty_z294 : tzero Tryz.prog 294 = some [.slice none 0 0] := by kernel_rfl
@[simp] theorem ty_b294 : (Tryz.prog.info? 294).map (·.bytes) = some 24 := by kernel_rfl
@[simp] theorem ty_e294 : telem Tryz.prog 294 = some 194 := by kernel_rfl
@[simp] theorem ty_s302 : tsize Tryz.prog 302 = some 1 := by kernel_rfl
@[simp] theorem ty_a302 : tagg Tryz.prog 302 = some false := by kernel_rfl
@[simp] theorem ty_z302 : tzero Tryz.prog 302 = some [.nilFunc] := by kernel_rfl
@[simp] theorem ty_b302 : (Tryz.prog.info? 302).map (·.bytes) = some 8 := by kernel_rfl
@[simp] theorem ty_e302 : telem Tryz.prog 302 = none := by kernel_rfl
@[simp] theorem ty_s303 : tsize Tryz.prog 303 = some 1 := by kernel_rfl
@[simp] theorem ty_a303 : tagg Tryz.prog 303 = some true := by kernel_rfl
@[simp] theorem ty_z303 : tzero Tryz.prog 303 = some [.pointer none] := by kernel_rfl
@[simp] theorem ty_b303 : (Tryz.prog.info? 303).map (·.bytes) = some 8 := by kernel_rfl
@[simp] theorem ty_e303 : telem Tryz.prog 303 = none := by kernel_rfl
@[simp] theorem ty_p303 : tplaces Tryz.prog 303 = some [(0, 1)] := by kernel_rfl
@[simp] theorem ty_f303_0 : tfield Tryz.prog 303 0 = some (0, 47) := by kernel_rfl
@[simp] theorem ty_s304 : tsize Tryz.prog 304 = some 1 := by kernel_rfl
@[simp] theorem ty_a304 : tagg Tryz.prog 304 = some true := by kernel_rfl
@[simp] theorem ty_z304 : tzero Tryz.prog 304 = some [.pointer none] := by kernel_rfl
@[simp] theorem ty_b304 : (Tryz.prog.info? 304).map (·.bytes) = some 8 := by kernel_rfl
@[simp] theorem ty_e304 : telem Tryz.prog 304 = none := by kernel_rfl
@[simp] theorem ty_p304 : tplaces Tryz.prog 304 = some [(0, 1)] := by kernel_rfl
@[simp] theorem ty_f304_0 : tfield Tryz.prog 304 0 = some (0, 47) := by kernel_rfl
@[simp] theorem ty_s306 : tsize Tryz.prog 306 = some 1 := by kernel_rfl
@[simp] theorem ty_a306 : tagg Tryz.prog 306 = some false := by kernel_rfl
@[simp] theorem ty_z306 : tzero Tryz.prog 306 = some [.map none] := by kernel_rfl
@[simp] theorem ty_b306 : (Tryz.prog.info? 306).map (·.bytes) = some 8 := by kernel_rfl
@[simp] theorem ty_e306 : telem Tryz.prog 306 = none := by kernel_rfl
@[simp] theorem ty_s307 : tsize Tryz.prog 307 = some 4 := by kernel_rfl
@[simp] theorem ty_a307 : tagg Tryz.prog 307 = some true := by kernel_rfl
@[simp] theorem ty_z307 : tzero Tryz.prog 307 = some [.pointer none, .slice none 0 0, .map none, .map none] := by kernel_rfl
@[simp] theorem ty_b307 : (Tryz.prog.info? 307).map (·.bytes) = some 48 := by kernel_rfl
@[simp] theorem ty_e307 : telem Tryz.prog 307 = none := by kernel_rfl
@[simp] theorem ty_p307 : tplaces Tryz.prog 307 = some [(0, 1), (1, 1), (2, 1), (3, 1)] := by kernel_rfl
@[simp] theorem ty_f307_0 : tfield Tryz.prog 307 0 = some (0, 47) := by kernel_rfl
@[simp] theorem ty_f307_1 : tfield Tryz.prog 307 1 = some (1, 41) := by kernel_rfl
@[simp] theorem ty_f307_2 : tfield Tryz.prog 307 2 = some (2, 306) := by kernel_rfl
@[simp] theorem ty_f307_3 : tfield Tryz.prog 307 3 = some (3, 306) := by kernel_rfl
@[simp] theorem ty_s308 : tsize Tryz.prog 308 = some 4 := by kernel_rfl
@[simp] theorem ty_a308 : tagg Tryz.prog 308 = some true := by kernel_rfl
@[simp] theorem ty_z308 : tzero Tryz.prog 308 = some [.pointer none, .slice none 0 0, .map none, .map none] := by kernel_rfl
@[simp] theorem ty_b308 : (Tryz.prog.info? 308).map (·.bytes) = some 48 := by kernel_rfl
@[simp] theorem ty_e308 : telem Tryz.prog 308 = none := by kernel_rfl
@[simp] theorem ty_p308 : tplaces Tryz.prog 308 = some [(0, 1), (1, 1), (2, 1), (3, 1)] := by kernel_rfl
@[simp] theorem ty_f308_0 : tfield Tryz.prog 308 0 = some (0, 47) := by kernel_rfl
@[simp] theorem ty_f308_1 : tfield Tryz.prog 308 1 = some (1, 41) := by kernel_rfl
@[simp] theorem ty_f308_2 : tfield Tryz.prog 308 2 = some (2, 306) := by kernel_rfl
@[simp] theorem ty_f308_3 : tfield Tryz.prog 308 3 = some (3, 306) := by kernel_rfl
@[simp] theorem ty_s309 : tsize Tryz.prog 309 = some 1 := by kernel_rfl
@[simp] theorem ty_a309 : tagg Tryz.prog 309 = some false := by kernel_rfl
@[simp] theorem ty_z309 : tzero Tryz.prog 309 = some [.map none] := by kernel_rfl
@[simp] theorem ty_b309 : (Tryz.prog.info? 309).map (·.bytes) = some 8 := by kernel_rfl
@[simp] theorem ty_e309 : telem Tryz.prog 309 = none := by kernel_rfl
@[simp] theorem ty_s318 : tsize Tryz.prog 318 = some 1 := by kernel_rfl
@[simp] theorem ty_a318 : tagg Tryz.prog 318 = some false := by kernel_rfl
@[simp] theorem ty_z318 : tzero Tryz.prog 318 = some [.int .i64 0] := by kernel_rfl
@[simp] theorem ty_b318 : (Tryz.prog.info? 318).map (·.bytes) = some 8 := by kernel_rfl
@[simp] theorem ty_zz318 : (Tryz.prog.info? 318).bind (·.zero) = some (.int .i64 0) := by kernel_rfl
@[simp] theorem ty_i318 : tint Tryz.prog 318 = some .i64 := by kernel_rfl
@[simp] theorem ty_e318 : telem Tryz.prog 318 = none := by kernel_rfl
@[simp] theorem ty_s325 : tsize Tryz.prog 325 = some 1 := by kernel_rfl
@[simp] theorem ty_a325 : tagg Tryz.prog 325 = some false := by kernel_rfl
@[simp] theorem ty_z325 : tzero Tryz.prog 325 = some [.int .u32 0] := by kernel_rfl
@[simp] theorem ty_b325 : (Tryz.prog.info? 325).map (·.bytes) = some 4 := by kernel_rfl
@[simp] theorem ty_zz325 : (Tryz.prog.info? 325).bind (·.zero) = some (.int .u32 0) := by kernel_rfl
@[simp] theorem ty_i325 : tint Tryz.prog 325 = some .u32 := by kernel_rfl
@[simp] theorem ty_e325 : telem Tryz.prog 325 = none := by kernel_rfl
@[simp] theorem ty_s351 : tsize Tryz.prog 351 = some 1 := by kernel_rfl
@[simp] theorem ty_a351 : tagg Tryz.prog 351 = some false := by kernel_rfl
@[simp] theorem ty_z351 : tzero Tryz.prog 351 = some [.map none] := by kernel_rfl
@[simp] theorem ty_b351 : (Tryz.prog.info? 351).map (·.bytes) = some 8 := by kernel_rfl
@[simp] theorem ty_e351 : telem Tryz.prog 351 = none := by kernel_rfl
@[simp] theorem ty_s354 : tsize Tryz.prog 354 = some 1 := by kernel_rfl
@[simp] theorem ty_a354 : tagg Tryz.prog 354 = some false := by kernel_rfl
@[simp] theorem ty_z354 : tzero Tryz.prog 354 = some [.nilFunc] := by kernel_rfl
@[simp] theorem ty_b354 : (Tryz.prog.info? 354).map (·.bytes) = some 8 := by kernel_rfl
@[simp] theorem ty_e354 : telem Tryz.prog 354 = none := by kernel_rfl
@[simp] theorem ty_s355 : tsize Tryz.prog 355 = some 1 := by kernel_rfl
@[simp] theorem ty_a355 : tagg Tryz.prog 355 = some false := by kernel_rfl
@[simp] theorem ty_z355 : tzero Tryz.prog 355 = some [.nilFunc] := by kernel_rfl
@[simp] theorem ty_b355 : (Tryz.prog.info? 355).map (·.bytes) = some 8 := by kernel_rfl
@[simp] theorem ty_e355 : telem Tryz.prog 355 = none := by kernel_rfl
@[simp] theorem ty_s356 : tsize Tryz.prog 356 = some 1 := by kernel_rfl
@[simp] theorem ty_a356 : tagg Tryz.prog 356 = some false := by kernel_rfl
@[simp] theorem ty_z356 : tzero Tryz.prog 356 = some [.nilFunc] := by kernel_rfl
@[simp] theorem ty_b356 : (Tryz.prog.info? 356).map (·.bytes) = some 8 := by kernel_rfl
@[simp] theorem ty_e356 : telem Tryz.prog 356 = none := by kernel_rfl
@[simp] theorem ty_s363 : tsize Tryz.prog 363 = some 1 := by kernel_rfl
@[simp] theorem ty_a363 : tagg Tryz.prog 363 = some true := by kernel_rfl
@[simp] theorem ty_z363 : tzero Tryz.prog 363 = some [.slice none 0 0] := by kernel_rfl
@[simp] theorem ty_b363 : (Tryz.prog.info? 363).map (·.bytes) = some 24 := by kernel_rfl
@[simp] theorem ty_e363 : telem Tryz.prog 363 = none := by kernel_rfl
@[simp] theorem ty_p363 : tplaces Tryz.prog 363 = some [(0, 1)] := by kernel_rfl
@[simp] theorem ty_f363_0 : tfield Tryz.prog 363 0 = some (0, 59) := by kernel_rfl
@[simp] theorem ty_s364 : tsize Tryz.prog 364 = some 1 := by kernel_rfl
@[simp] theorem ty_a364 : tagg Tryz.prog 364 = some true := by kernel_rfl
@[simp] theorem ty_z364 : tzero Tryz.prog 364 = some [.slice none 0 0] := by kernel_rfl
@[simp] theorem ty_b364 : (Tryz.prog.info? 364).map (·.bytes) = some 24 := by kernel_rfl
@[simp] theorem ty_e364 : telem Tryz.prog 364 = none := by kernel_rfl
@[simp] theorem ty_p364 : tplaces Tryz.prog 364 = some [(0, 1)] := by kernel_rfl
@[simp] theorem ty_f364_0 : tfield Tryz.prog 364 0 = some (0, 59) := by kernel_rfl
@[simp] theorem ty_s366 : tsize Tryz.prog 366 = some 1 := by kernel_rfl
@[simp] theorem ty_a366 : tagg Tryz.prog 366 = some false := by kernel_rfl
@[simp] theorem ty_z366 : tzero Tryz.prog 366 = some [.nilFunc] := by kernel_rfl
@[simp] theorem ty_b366 : (Tryz.prog.info? 366).map (·.bytes) = some 8 := by kernel_rfl
@[simp] theorem ty_e366 : telem Tryz.prog 366 = none := by kernel_rfl
@[simp] theorem ty_s367 : tsize Tryz.prog 367 = some 1 := by kernel_rfl
@[simp] theorem ty_a367 : tagg Tryz.prog 367 = some false := by kernel_rfl
@[simp] theorem ty_z367 : tzero Tryz.prog 367 = some [.nilFunc] := by kernel_rfl
@[simp] theorem ty_b367 : (Tryz.prog.info? 367).map (·.bytes) = some 8 := by kernel_rfl
@[simp] theorem ty_e367 : telem Tryz.prog 367 = none := by kernel_rfl
@[simp] theorem ty_s371 : tsize Tryz.prog 371 = some 1 := by kernel_rfl
@[simp] theorem ty_a371 : tagg Tryz.prog 371 = some false := by kernel_rfl
@[simp] theorem ty_z371 : tzero Tryz.prog 371 = some [.nilFunc] := by kernel_rfl
@[simp] theorem ty_b371 : (Tryz.prog.info? 371).map (·.bytes) = some 8 := by kernel_rfl
@[simp] theorem ty_e371 : telem Tryz.prog 371 = none := by kernel_rfl
@[simp] theorem ty_s376 : tsize Tryz.prog 376 = some 1 := by kernel_rfl
@[simp] theorem ty_a376 : tagg Tryz.prog 376 = some false := by kernel_rfl
@[simp] theorem ty_z376 : tzero Tryz.prog 376 = some [.nilFunc] := by kernel_rfl
@[simp] theorem ty_b376 : (Tryz.prog.info? 376).map (·.bytes) = some 8 := by kernel_rfl
@[simp] theorem ty_e376 : telem Tryz.prog 376 = none := by kernel_rfl
@[simp] theorem ty_s382 : tsize Tryz.prog 382 = some 1 := by kernel_rfl
@[simp] theorem ty_a382 : tagg Tryz.prog 382 = some false := by kernel_rfl
@[simp] theorem ty_z382 : tzero Tryz.prog 382 = some [.map none] := by kernel_rfl
@[simp] theorem ty_b382 : (Tryz.prog.info? 382).map (·.bytes) = some 8 := by kernel_rfl
@[simp] theorem ty_e382 : telem Tryz.prog 382 = none := by kernel_rfl
@[simp] theorem ty_s384 : tsize Tryz.prog 384 = some 1 := by kernel_rfl
@[simp] theorem ty_a384 : tagg Tryz.prog 384 = some false := by kernel_rfl
@[simp] theorem ty_z384 : tzero Tryz.prog 384 = some [.nilFunc] := by kernel_rfl
@[simp] theorem ty_b384 : (Tryz.prog.info? 384).map (·.bytes) = some 8 := by kernel_rfl
@[simp] theorem ty_e384 : telem Tryz.prog 384 = none := by kernel_rfl
@[simp] theorem ty_s386 : tsize Tryz.prog 386 = some 1 := by kernel_rfl
@[simp] theorem ty_a386 : tagg Tryz.prog 386 = some false := by kernel_rfl
@[simp] theorem ty_z386 : tzero Tryz.prog 386 = some [.map none] := by kernel_rfl
@[simp] theorem ty_b386 : (Tryz.prog.info? 386).map (·.bytes) = some 8 := by kernel_rfl
@[simp] theorem ty_e386 : telem Tryz.prog 386 = none := by kernel_rfl
@[simp] theorem ty_s387 : tsize Tryz.prog 387 = some 1 := by kernel_rfl
@[simp] theorem ty_a387 : tagg Tryz.prog 387 = some false := by kernel_rfl
@[simp] theorem ty_z387 : tzero Tryz.prog 387 = some [.map none] := by kernel_rfl
@[simp] theorem ty_b387 : (Tryz.prog.info? 387).map (·.bytes) = some 8 := by kernel_rfl
@[simp] theorem ty_e387 : telem Tryz.prog 387 = none := by kernel_rfl
@[simp] theorem ty_s388 : tsize Tryz.prog 388 = some 5 := by kernel_rfl
@[simp] theorem ty_a388 : tagg Tryz.prog 388 = some true := by kernel_rfl
@[simp] theorem ty_z388 : tzero Tryz.prog 388 = some [.map none, .map none, .map none, .map none, .int .i64 0] := by kernel_rfl
@[simp] theorem ty_b388 : (Tryz.prog.info? 388).map (·.bytes) = some 40 := by kernel_rfl
@[simp] theorem ty_e388 : telem Tryz.prog 388 = none := by kernel_rfl
@[simp] theorem ty_p388 : tplaces Tryz.prog 388 = some [(0, 1), (1, 1), (2, 1), (3, 1), (4, 1)] := by kernel_rfl
@[simp] theorem ty_f388_0 : tfield Tryz.prog 388 0 = some (0, 386) := by kernel_rfl
@[simp] theorem ty_f388_1 : tfield Tryz.prog 388 1 = some (1, 351) := by kernel_rfl
@[simp] theorem ty_f388_2 : tfield Tryz.prog 388 2 = some (2, 351) := by kernel_rfl
@[simp] theorem ty_f388_3 : tfield Tryz.prog 388 3 = some (3, 387) := by kernel_rfl
@[simp] theorem ty_f388_4 : tfield Tryz.prog 388 4 = some (4, 3) := by kernel_rfl
@[simp] theorem ty_s389 : tsize Tryz.prog 389 = some 5 := by kernel_rfl
@[simp] theorem ty_a389 : tagg Tryz.prog 389 = some true := by kernel_rfl
@[simp] theorem ty_z389 : tzero Tryz.prog 389 = some [.map none, .map none, .map none, .map none, .int .i64 0] := by kernel_rfl
@[simp] theorem ty_b389 : (Tryz.prog.info? 389).map (·.bytes) = some 40 := by kernel_rfl
@[simp] theorem ty_e389 : telem Tryz.prog 389 = none := by kernel_rfl
@[simp] theorem ty_p389 : tplaces Tryz.prog 389 = some [(0, 1), (1, 1), (2, 1), (3, 1), (4, 1)] := by kernel_rfl
@[simp] theorem ty_f389_0 : tfield Tryz.prog 389 0 = some (0, 386) := by kernel_rfl
@[simp] theorem ty_f389_1 : tfield Tryz.prog 389 1 = some (1, 351) := by kernel_rfl
@[simp] theorem ty_f389_2 : tfield Tryz.prog 389 2 = some (2, 351) := by kernel_rfl
@[simp] theorem ty_f389_3 : tfield Tryz.prog 389 3 = some (3, 387) := by kernel_rfl
@[simp] theorem ty_f389_4 : tfield Tryz.prog 389 4 = some (4, 3) := by kernel_rfl
@[simp] theorem ty_s390 : tsize Tryz.prog 390 = some 1 := by kernel_rfl
@[simp] theorem ty_a390 : tagg Tryz.prog 390 = some false := by kernel_rfl
@[simp] theorem ty_z390 : tzero Tryz.prog 390 = some [.nilFunc] := by kernel_rfl
@[simp] theorem ty_b390 : (Tryz.prog.info? 390).map (·.bytes) = some 8 := by kernel_rfl
@[simp] theorem ty_e390 : telem Tryz.prog 390 = none := by kernel_rfl
@[simp] theorem ty_s391 : tsize Tryz.prog 391 = some 14 := by kernel_rfl
@[simp] theorem ty_a391 : tagg Tryz.prog 391 = some true := by kernel_rfl
@[simp] theorem ty_z391 : tzero Tryz.prog 391 = some [.nilFunc, .nilFunc, .nilFunc, .nilFunc, .nilFunc, .nilFunc, .nilFunc, .nilFunc, .nilFunc, .nilFunc, .nilFunc, .nilFunc, .nilFunc, .nilFunc] := by kernel_rfl
@[simp] theorem ty_b391 : (Tryz.prog.info? 391).map (·.bytes) = some 112 := by kernel_rfl
@[simp] theorem ty_e391 : telem Tryz.prog 391 = none := by kernel_rfl
@[simp] theorem ty_r391 : tarr Tryz.prog 391 = some (14, 390) := by kernel_rfl
@[simp] theorem ty_s392 : tsize Tryz.prog 392 = some 1 := by kernel_rfl
@[simp] theorem ty_a392 : tagg Tryz.prog 392 = some false := by kernel_rfl
@[simp] theorem ty_z392 : tzero Tryz.prog 392 = some [.pointer none] := by kernel_rfl
@[simp] theorem ty_b392 : (Tryz.prog.info? 392).map (·.bytes) = some 8 := by kernel_rfl
@[simp] theorem ty_e392 : telem Tryz.prog 392 = none := by kernel_rfl
@[simp] theorem ty_s394 : tsize Tryz.prog 394 = some 1 := by kernel_rfl
@[simp] theorem ty_a394 : tagg Tryz.prog 394 = some false := by kernel_rfl
@[simp] theorem ty_z394 : tzero Tryz.prog 394 = some [.pointer none] := by kernel_rfl
@[simp] theorem ty_b394 : (Tryz.prog.info? 394).map (·.bytes) = some 8 := by kernel_rfl
@[simp] theorem ty_e394 : telem Tryz.prog 394 = none := by kernel_rfl
@[simp] theorem ty_s395 : tsize Tryz.prog 395 = some 2 := by kernel_rfl
@[simp] theorem ty_a395 : tagg Tryz.prog 395 = some true := by kernel_rfl
@[simp] theorem ty_z395 : tzero Tryz.prog 395 = some [.int .i64 0, .pointer none] := by kernel_rfl
@[simp] theorem ty_b395 : (Tryz.prog.info? 395).map (·.bytes) = some 16 := by kernel_rfl
@[simp] theorem ty_e395 : telem Tryz.prog 395 = none := by kernel_rfl
@[simp] theorem ty_p395 : tplaces Tryz.prog 395 = some [(0, 1), (1, 1)] := by kernel_rfl
@[simp] theorem ty_f395_0 : tfield Tryz.prog 395 0 = some (0, 3) := by kernel_rfl
@[simp] theorem ty_f395_1 : tfield Tryz.prog 395 1 = some (1, 394) := by kernel_rfl
@[simp] theorem ty_s396 : tsize Tryz.prog 396 = some 2 := by kernel_rfl
@[simp] theorem ty_a396 : tagg Tryz.prog 396 = some true := by kernel_rfl
@[simp] theorem ty_z396 : tzero Tryz.prog 396 = some [.int .i64 0, .pointer none] := by kernel_rfl
@[simp] theorem ty_b396 : (Tryz.prog.info? 396).map (·.bytes) = some 16 := by kernel_rfl
@[simp] theorem ty_e396 : telem Tryz.prog 396 = none := by kernel_rfl
@[simp] theorem ty_p396 : tplaces Tryz.prog 396 = some [(0, 1), (1, 1)] := by kernel_rfl
@[simp] theorem ty_f396_0 : tfield Tryz.prog 396 0 = some (0, 3) := by kernel_rfl
@[simp] theorem ty_f396_1 : tfield Tryz.prog 396 1 = some (1, 394) := by kernel_rfl
@[simp] theorem ty_s397 : tsize Tryz.prog 397 = some 1 := by kernel_rfl
@[simp] theorem ty_a397 : tagg Tryz.prog 397 = some false := by kernel_rfl
@[simp] theorem ty_z397 : tzero Tryz.prog 397 = some [.map none] := by kernel_rfl
@[simp] theorem ty_b397 : (Tryz.prog.info? 397).map (·.bytes) = some 8 := by kernel_rfl
@[simp] theorem ty_e397 : telem Tryz.prog 397 = none := by kernel_rfl
@[simp] theorem ty_s398 : tsize Tryz.prog 398 = some 9 := by kernel_rfl
@[simp] theorem ty_a398 : tagg Tryz.prog 398 = some true := by kernel_rfl
@[simp] theorem ty_z398 : tzero Tryz.prog 398 = some [.int .i64 0, .int .i64 0, .int .u64 0, .slice none 0 0, .int .i64 0, .int .i64 0, .map none, .bool false, .int .i64 0] := by kernel_rfl
@[simp] theorem ty_b398 : (Tryz.prog.info? 398).map (·.bytes) = some 88 := by kernel_rfl
@[simp] theorem ty_e398 : telem Tryz.prog 398 = none := by kernel_rfl
@[simp] theorem ty_p398 : tplaces Tryz.prog 398 = some [(0, 3), (3, 1), (4, 1), (5, 1), (6, 1), (7, 1), (8, 1)] := by kernel_rfl
@[simp] theorem ty_f398_0 : tfield Tryz.prog 398 0 = some (0, 31) := by kernel_rfl
@[simp] theorem ty_f398_1 : tfield Tryz.prog 398 1 = some (3, 60) := by kernel_rfl
@[simp] theorem ty_f398_2 : tfield Tryz.prog 398 2 = some (4, 3) := by kernel_rfl
@[simp] theorem ty_f398_3 : tfield Tryz.prog 398 3 = some (5, 3) := by kernel_rfl
@[simp] theorem ty_f398_4 : tfield Tryz.prog 398 4 = some (6, 397) := by kernel_rfl
@[simp] theorem ty_f398_5 : tfield Tryz.prog 398 5 = some (7, 4) := by kernel_rfl
@[simp] theorem ty_f398_6 : tfield Tryz.prog 398 6 = some (8, 3) := by kernel_rfl
@[simp] theorem ty_s399 : tsize Tryz.prog 399 = some 9 := by kernel_rfl
@[simp] theorem ty_a399 : tagg Tryz.prog 399 = some true := by kernel_rfl
@[simp] theorem ty_z399 : tzero Tryz.prog 399 = some [.int .i64 0, .int .i64 0, .int .u64 0, .slice none 0 0, .int .i64 0, .int .i64 0, .map none, .bool false, .int .i64 0] := by kernel_rfl
@[simp] theorem ty_b399 : (Tryz.prog.info? 399).map (·.bytes) = some 88 := by kernel_rfl
@[simp] theorem ty_e399 : telem Tryz.prog 399 = none := by kernel_rfl
@[simp] theorem ty_p399 : tplaces Tryz.prog 399 = some [(0, 3), (3, 1), (4, 1), (5, 1), (6, 1), (7, 1), (8, 1)] := by kernel_rfl
@[simp] theorem ty_f399_0 : tfield Tryz.prog 399 0 = some (0, 31) := by kernel_rfl
@[simp] theorem ty_f399_1 : tfield Tryz.prog 399 1 = some (3, 60) := by kernel_rfl
@[simp] theorem ty_f399_2 : tfield Tryz.prog 399 2 = some (4, 3) := by kernel_rfl
@[simp] theorem ty_f399_3 : tfield Tryz.prog 399 3 = some (5, 3) := by kernel_rfl
@[simp] theorem ty_f399_4 : tfield Tryz.prog 399 4 = some (6, 397) := by kernel_rfl
@[simp] theorem ty_f399_5 : tfield Tryz.prog 399 5 = some (7, 4) := by kernel_rfl
@[simp] theorem ty_f399_6 : tfield Tryz.prog 399 6 = some (8, 3) := by kernel_rfl
@[simp] theorem ty_s402 : tsize Tryz.prog 402 = some 2 := by kernel_rfl
@[simp] theorem ty_a402 : tagg Tryz.prog 402 = some true := by kernel_rfl
@[simp] theorem ty_z402 : tzero Tryz.prog 402 = some [.int .i64 0, .int .i64 0] := by kernel_rfl
@[simp] theorem ty_b402 : (Tryz.prog.info? 402).map (·.bytes) = some 16 := by kernel_rfl
@[simp] theorem ty_e402 : telem Tryz.prog 402 = none := by kernel_rfl
@[simp] theorem ty_p402 : tplaces Tryz.prog 402 = some [(0, 1), (1, 1)] := by kernel_rfl
@[simp] theorem ty_f402_0 : tfield Tryz.prog 402 0 = some (0, 3) := by kernel_rfl
@[simp] theorem ty_f402_1 : tfield Tryz.prog 402 1 = some (1, 3) := by kernel_rfl
@[simp] theorem ty_s403 : tsize Tryz.prog 403 = some 2 := by kernel_rfl
@[simp] theorem ty_a403 : tagg Tryz.prog 403 = some true := by kernel_rfl
@[simp] theorem ty_z403 : tzero Tryz.prog 403 = some [.int .i64 0, .int .i64 0] := by kernel_rfl
@[simp] theorem ty_b403 : (Tryz.prog.info? 403).map (·.bytes) = some 16 := by kernel_rfl
@[simp] theorem ty_e403 : telem Tryz.prog 403 = none := by kernel_rfl
@[simp] theorem ty_p403 : tplaces Tryz.prog 403 = some [(0, 1), (1, 1)] := by kernel_rfl
@[simp] theorem ty_f403_0 : tfield Tryz.prog 403 0 = some (0, 3) := by kernel_rfl
@[simp] theorem ty_f403_1 : tfield Tryz.prog 403 1 = some (1, 3) := by kernel_rfl
@[simp] theorem ty_s408 : tsize Tryz.prog 408 = some 1 := by kernel_rfl
@[simp] theorem ty_a408 : tagg Tryz.prog 408 = some false := by kernel_rfl
@[simp] theorem ty_z408 : tzero Tryz.prog 408 = some [.nilFunc] := by kernel_rfl
@[simp] theorem ty_b408 : (Tryz.prog.info? 408).map (·.bytes) = some 8 := by kernel_rfl
@[simp] theorem ty_e408 : telem Tryz.prog 408 = none := by kernel_rfl
@[simp] theorem ty_s409 : tsize Tryz.prog 409 = some 1 := by kernel_rfl
@[simp] theorem ty_a409 : tagg Tryz.prog 409 = some false := by kernel_rfl
@[simp] theorem ty_z409 : tzero Tryz.prog 409 = some [.nilFunc] := by kernel_rfl
@[simp] theorem ty_b409 : (Tryz.prog.info? 409).map (·.bytes) = some 8 := by kernel_rfl
@[simp] theorem ty_e409 : telem Tryz.prog 409 = none := by kernel_rfl
@[simp] theorem ty_s417 : tsize Tryz.prog 417 = some 4 := by kernel_rfl
@[simp] theorem ty_a417 : tagg Tryz.prog 417 = some true := by kernel_rfl
@[simp] theorem ty_z417 : tzero Tryz.prog 417 = some [.slice none 0 0, .slice none 0 0, .slice none 0 0, .slice none 0 0] := by kernel_rfl
@[simp] theorem ty_b417 : (Tryz.prog.info? 417).map (·.bytes) = some 96 := by kernel_rfl
@[simp] theorem ty_e417 : telem Tryz.prog 417 = none := by kernel_rfl
@[simp] theorem ty_p417 : tplaces Tryz.prog 417 = some [(0, 1), (1, 1), (2, 1), (3, 1)] := by kernel_rfl
@[simp] theorem ty_f417_0 : tfield Tryz.prog 417 0 = some (0, 60) := by kernel_rfl
@[simp] theorem ty_f417_1 : tfield Tryz.prog 417 1 = some (1, 231) := by kernel_rfl
@[simp] theorem ty_f417_2 : tfield Tryz.prog 417 2 = some (2, 231) := by kernel_rfl
@[simp] theorem ty_f417_3 : tfield Tryz.prog 417 3 = some (3, 231) := by kernel_rfl
@[simp] theorem ty_s418 : tsize Tryz.prog 418 = some 4 := by kernel_rfl
@[simp] theorem ty_a418 : tagg Tryz.prog 418 = some true := by kernel_rfl
@[simp] theorem ty_z418 : tzero Tryz.prog 418 = some [.slice none 0 0, .slice none 0 0, .slice none 0 0, .slice none 0 0] := by kernel_rfl
@[simp] theorem ty_b418 : (Tryz.prog.info? 418).map (·.bytes) = some 96 := by kernel_rfl
@[simp] theorem ty_e418 : telem Tryz.prog 418 = none := by kernel_rfl
@[simp] theorem ty_p418 : tplaces Tryz.prog 418 = some [(0, 1), (1, 1), (2, 1), (3, 1)] := by kernel_rfl
@[simp] theorem ty_f418_0 : tfield Tryz.prog 418 0 = some (0, 60) := by kernel_rfl
@[simp] theorem ty_f418_1 : tfield Tryz.prog 418 1 = some (1, 231) := by kernel_rfl
@[simp] theorem ty_f418_2 : tfield Tryz.prog 418 2 = some (2, 231) := by kernel_rfl
@[simp] theorem ty_f418_3 : tfield Tryz.prog 418 3 = some (3, 231) := by kernel_rfl
@[simp] theorem ty_s430 : tsize Tryz.prog 430 = some 1 := by kernel_rfl
@[simp] theorem ty_a430 : tagg Tryz.prog 430 = some false := by kernel_rfl
@[simp] theorem ty_z430 : tzero Tryz.prog 430 = some [.int .u64 0] := by kernel_rfl
@[simp] theorem ty_b430 : (Tryz.prog.info? 430).map (·.bytes) = some 8 := by kernel_rfl
@[simp] theorem ty_zz430 : (Tryz.prog.info? 430).bind (·.zero) = some (.int .u64 0) := by kernel_rfl
@[simp] theorem ty_i430 : tint Tryz.prog 430 = some .u64 := by kernel_rfl
@[simp] theorem ty_e430 : telem Tryz.prog 430 = none := by kernel_rfl
@[simp] theorem ty_s433 : tsize Tryz.prog 433 = some 1 := by kernel_rfl
@[simp] theorem ty_a433 : tagg Tryz.prog 433 = some false := by kernel_rfl
@[simp] theorem ty_z433 : tzero Tryz.prog 433 = some [.pointer none] := by kernel_rfl
@[simp] theorem ty_b433 : (Tryz.prog.info? 433).map (·.bytes) = some 8 := by kernel_rfl
@[simp] theorem ty_e433 : telem Tryz.prog 433 = none := by kernel_rfl
@[simp] theorem ty_s439 : tsize Tryz.prog 439 = some 11 := by kernel_rfl
@[simp] theorem ty_a439 : tagg Tryz.prog 439 = some true := by kernel_rfl
@[simp] theorem ty_z439 : tzero Tryz.prog 439 = some [.int .i64 0, .int .i64 0, .bool false, .int .i64 0, .int .i64 0, .int .u64 0, .slice none 0 0, .int .i64 0, .int .i64 0, .bool false, .int .i64 0] := by kernel_rfl
@[simp] theorem ty_b439 : (Tryz.prog.info? 439).map (·.bytes) = some 104 := by kernel_rfl
@[simp] theorem ty_e439 : telem Tryz.prog 439 = none := by kernel_rfl
@[simp] theorem ty_p439 : tplaces Tryz.prog 439 = some [(0, 1), (1, 1), (2, 1), (3, 3), (6, 1), (7, 1), (8, 1), (9, 1), (10, 1)] := by kernel_rfl
@[simp] theorem ty_f439_0 : tfield Tryz.prog 439 0 = some (0, 3) := by kernel_rfl
@[simp] theorem ty_f439_1 : tfield Tryz.prog 439 1 = some (1, 3) := by kernel_rfl
@[simp] theorem ty_f439_2 : tfield Tryz.prog 439 2 = some (2, 4) := by kernel_rfl
@[simp] theorem ty_f439_3 : tfield Tryz.prog 439 3 = some (3, 31) := by kernel_rfl
@[simp] theorem ty_f439_4 : tfield Tryz.prog 439 4 = some (6, 60) := by kernel_rfl
@[simp] theorem ty_f439_5 : tfield Tryz.prog 439 5 = some (7, 3) := by kernel_rfl
@[simp] theorem ty_f439_6 : tfield Tryz.prog 439 6 = some (8, 3) := by kernel_rfl
@[simp] theorem ty_f439_7 : tfield Tryz.prog 439 7 = some (9, 4) := by kernel_rfl
@[simp] theorem ty_f439_8 : tfield Tryz.prog 439 8 = some (10, 3) := by kernel_rfl
@[simp] theorem ty_s440 : tsize Tryz.prog 440 = some 11 := by kernel_rfl
@[simp] theorem ty_a440 : tagg Tryz.prog 440 = some true := by kernel_rfl
@[simp] theorem ty_z440 : tzero Tryz.prog 440 = some [.int .i64 0, .int .i64 0, .bool false, .int .i64 0, .int .i64 0, .int .u64 0, .slice none 0 0, .int .i64 0, .int .i64 0, .bool false, .int .i64 0] := by kernel_rfl
@[simp] theorem ty_b440 : (Tryz.prog.info? 440).map (·.bytes) = some 104 := by kernel_rfl
@[simp] theorem ty_e440 : telem Tryz.prog 440 = none := by kernel_rfl
@[simp] theorem ty_p440 : tplaces Tryz.prog 440 = some [(0, 1), (1, 1), (2, 1), (3, 3), (6, 1), (7, 1), (8, 1), (9, 1), (10, 1)] := by kernel_rfl
@[simp] theorem ty_f440_0 : tfield Tryz.prog 440 0 = some (0, 3) := by kernel_rfl
@[simp] theorem ty_f440_1 : tfield Tryz.prog 440 1 = some (1, 3) := by kernel_rfl
@[simp] theorem ty_f440_2 : tfield Tryz.prog 440 2 = some (2, 4) := by kernel_rfl
@[simp] theorem ty_f440_3 : tfield Tryz.prog 440 3 = some (3, 31) := by kernel_rfl
@[simp] theorem ty_f440_4 : tfield Tryz.prog 440 4 = some (6, 60) := by kernel_rfl
@[simp] theorem ty_f440_5 : tfield Tryz.prog 440 5 = some (7, 3) := by kernel_rfl
@[simp] theorem ty_f440_6 : tfield Tryz.prog 440 6 = some (8, 3) := by kernel_rfl
@[simp] theorem ty_f440_7 : tfield Tryz.prog 440 7 = some (9, 4) := by kernel_rfl
@[simp] theorem ty_f440_8 : tfield Tryz.prog 440 8 = some (10, 3) := by kernel_rfl
@[simp] theorem ty_s471 : tsize Tryz.prog 471 = some 6 := by kernel_rfl
@[simp] theorem ty_a471 : tagg Tryz.prog 471 = some true := by kernel_rfl
@[simp] theorem ty_z471 : tzero Tryz.prog 471 = some [.int .i64 0, .int .i64 0, .int .u64 0, .int .i64 0, .int .i64 0, .int .i64 0] := by kernel_rfl
@[simp] theorem ty_b471 : (Tryz.prog.info? 471).map (·.bytes) = some 48 := by kernel_rfl
@[simp] theorem ty_e471 : telem Tryz.prog 471 = none := by kernel_rfl
@[simp] theorem ty_p471 : tplaces Tryz.prog 471 = some [(0, 3), (3, 1), (4, 1), (5, 1)] := by kernel_rfl
@[simp] theorem ty_f471_0 : tfield Tryz.prog 471 0 = some (0, 31) := by kernel_rfl
@[simp] theorem ty_f471_1 : tfield Tryz.prog 471 1 = some (3, 3) := by kernel_rfl
@[simp] theorem ty_f471_2 : tfield Tryz.prog 471 2 = some (4, 3) := by kernel_rfl
@[simp] theorem ty_f471_3 : tfield Tryz.prog 471 3 = some (5, 3) := by kernel_rfl
@[simp] theorem ty_s472 : tsize Tryz.prog 472 = some 6 := by kernel_rfl
@[simp] theorem ty_a472 : tagg Tryz.prog 472 = some true := by kernel_rfl
@[simp] theorem ty_z472 : tzero Tryz.prog 472 = some [.int .i64 0, .int .i64 0, .int .u64 0, .int .i64 0, .int .i64 0, .int .i64 0] := by kernel_rfl
@[simp] theorem ty_b472 : (Tryz.prog.info? 472).map (·.bytes) = some 48 := by kernel_rfl
@[simp] theorem ty_e472 : telem Tryz.prog 472 = none := by kernel_rfl
@[simp] theorem ty_p472 : tplaces Tryz.prog 472 = some [(0, 3), (3, 1), (4, 1), (5, 1)] := by kernel_rfl
@[simp] theorem ty_f472_0 : tfield Tryz.prog 472 0 = some (0, 31) := by kernel_rfl
@[simp] theorem ty_f472_1 : tfield Tryz.prog 472 1 = some (3, 3) := by kernel_rfl
@[simp] theorem ty_f472_2 : tfield Tryz.prog 472 2 = some (4, 3) := by kernel_rfl
@[simp] theorem ty_f472_3 : tfield Tryz.prog 472 3 = some (5, 3) := by kernel_rfl
end Go.Proofs.YtfnglmepfjaimaaGreatDoor
