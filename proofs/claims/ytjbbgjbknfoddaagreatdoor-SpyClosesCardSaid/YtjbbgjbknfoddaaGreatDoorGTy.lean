/- What the types of the translation are: facts that the kernel reckons. -/
import Derived.Test.YtjbbgjbknfoddaaGreatDoorGQ
import Derived.Test.YtjbbgjbknfoddaaGreatDoorRows
namespace Go.Proofs.YtjbbgjbknfoddaaGreatDoor
set_option linter.unusedVariables false
@[simp] theorem ty_s3 : tsize Tryz.prog 3 = some 1 := by kernel_rfl
@[simp] theorem ty_a3 : tagg Tryz.prog 3 = some false := by kernel_rfl
@[simp] theorem ty_z3 : tzero Tryz.prog 3 = some [.int .i64 0] := by kernel_rfl
@[simp] theorem ty_b3 : (Tryz.prog.info? 3).map (·.bytes) = some 8 := by kernel_rfl
@[simp] theorem ty_zz3 : (Tryz.prog.info? 3).bind (·.zero) = some (.int .i64 0) := by kernel_rfl
@[simp] theorem ty_i3 : tint Tryz.prog 3 = some .i64 := by kernel_rfl
@[simp] theorem ty_e3 : telem Tryz.prog 3 = none := by kernel_rfl
@[simp] theorem ty_s4 : tsize Tryz.prog 4 = some 1 := by kernel_rfl
@[simp] theorem ty_a4 : tagg Tryz.prog 4 = some false := by kernel_rfl
@[simp] theorem ty_z4 : tzero Tryz.prog 4 = some [.bool false] := by kernel_rfl
@[simp] theorem ty_b4 : (Tryz.prog.info? 4).map (·.bytes) = some 1 := by kernel_rfl
@[simp] theorem ty_e4 : telem Tryz.prog 4 = none := by kernel_rfl
@[simp] theorem ty_s5 : tsize Tryz.prog 5 = some 1 := by kernel_rfl
@[simp] theorem ty_a5 : tagg Tryz.prog 5 = some false := by kernel_rfl
@[simp] theorem ty_z5 : tzero Tryz.prog 5 = some [.int .u8 0] := by kernel_rfl
@[simp] theorem ty_b5 : (Tryz.prog.info? 5).map (·.bytes) = some 1 := by kernel_rfl
@[simp] theorem ty_zz5 : (Tryz.prog.info? 5).bind (·.zero) = some (.int .u8 0) := by kernel_rfl
@[simp] theorem ty_i5 : tint Tryz.prog 5 = some .u8 := by kernel_rfl
@[simp] theorem ty_e5 : telem Tryz.prog 5 = none := by kernel_rfl
@[simp] theorem ty_s9 : tsize Tryz.prog 9 = some 1 := by kernel_rfl
@[simp] theorem ty_a9 : tagg Tryz.prog 9 = some false := by kernel_rfl
@[simp] theorem ty_z9 : tzero Tryz.prog 9 = some [.string ⟨#[]⟩] := by kernel_rfl
@[simp] theorem ty_b9 : (Tryz.prog.info? 9).map (·.bytes) = some 16 := by kernel_rfl
@[simp] theorem ty_t9 : tstr Tryz.prog 9 = true := by kernel_rfl
@[simp] theorem ty_e9 : telem Tryz.prog 9 = none := by kernel_rfl
@[simp] theorem ty_s22 : tsize Tryz.prog 22 = some 1 := by kernel_rfl
@[simp] theorem ty_a22 : tagg Tryz.prog 22 = some false := by kernel_rfl
@[simp] theorem ty_z22 : tzero Tryz.prog 22 = some [.slice none 0 0] := by kernel_rfl
@[simp] theorem ty_b22 : (Tryz.prog.info? 22).map (·.bytes) = some 24 := by kernel_rfl
@[simp] theorem ty_e22 : telem Tryz.prog 22 = some 3 := by kernel_rfl
@[simp] theorem ty_s23 : tsize Tryz.prog 23 = some 1 := by kernel_rfl
@[simp] theorem ty_a23 : tagg Tryz.prog 23 = some false := by kernel_rfl
@[simp] theorem ty_z23 : tzero Tryz.prog 23 = some [.slice none 0 0] := by kernel_rfl
@[simp] theorem ty_b23 : (Tryz.prog.info? 23).map (·.bytes) = some 24 := by kernel_rfl
@[simp] theorem ty_e23 : telem Tryz.prog 23 = some 47 := by kernel_rfl
@[simp] theorem ty_s25 : tsize Tryz.prog 25 = some 1 := by kernel_rfl
@[simp] theorem ty_a25 : tagg Tryz.prog 25 = some false := by kernel_rfl
@[simp] theorem ty_z25 : tzero Tryz.prog 25 = some [.slice none 0 0] := by kernel_rfl
@[simp] theorem ty_b25 : (Tryz.prog.info? 25).map (·.bytes) = some 24 := by kernel_rfl
@[simp] theorem ty_e25 : telem Tryz.prog 25 = some 38 := by kernel_rfl
@[simp] theorem ty_s29 : tsize Tryz.prog 29 = some 1 := by kernel_rfl
@[simp] theorem ty_a29 : tagg Tryz.prog 29 = some false := by kernel_rfl
@[simp] theorem ty_z29 : tzero Tryz.prog 29 = some [.slice none 0 0] := by kernel_rfl
@[simp] theorem ty_b29 : (Tryz.prog.info? 29).map (·.bytes) = some 24 := by kernel_rfl
@[simp] theorem ty_e29 : telem Tryz.prog 29 = some 49 := by kernel_rfl
@[simp] theorem ty_s34 : tsize Tryz.prog 34 = some 1 := by kernel_rfl
@[simp] theorem ty_a34 : tagg Tryz.prog 34 = some false := by kernel_rfl
@[simp] theorem ty_z34 : tzero Tryz.prog 34 = some [.int .u64 0] := by kernel_rfl
@[simp] theorem ty_b34 : (Tryz.prog.info? 34).map (·.bytes) = some 8 := by kernel_rfl
@[simp] theorem ty_zz34 : (Tryz.prog.info? 34).bind (·.zero) = some (.int .u64 0) := by kernel_rfl
@[simp] theorem ty_i34 : tint Tryz.prog 34 = some .u64 := by kernel_rfl
@[simp] theorem ty_e34 : telem Tryz.prog 34 = none := by kernel_rfl
@[simp] theorem ty_s35 : tsize Tryz.prog 35 = some 3 := by kernel_rfl
@[simp] theorem ty_a35 : tagg Tryz.prog 35 = some true := by kernel_rfl
@[simp] theorem ty_z35 : tzero Tryz.prog 35 = some [.int .i64 0, .int .i64 0, .int .u64 0] := by kernel_rfl
@[simp] theorem ty_b35 : (Tryz.prog.info? 35).map (·.bytes) = some 24 := by kernel_rfl
@[simp] theorem ty_e35 : telem Tryz.prog 35 = none := by kernel_rfl
@[simp] theorem ty_p35 : tplaces Tryz.prog 35 = some [(0, 1), (1, 1), (2, 1)] := by kernel_rfl
@[simp] theorem ty_f35_0 : tfield Tryz.prog 35 0 = some (0, 3) := by kernel_rfl
@[simp] theorem ty_f35_1 : tfield Tryz.prog 35 1 = some (1, 3) := by kernel_rfl
@[simp] theorem ty_f35_2 : tfield Tryz.prog 35 2 = some (2, 34) := by kernel_rfl
@[simp] theorem ty_s36 : tsize Tryz.prog 36 = some 3 := by kernel_rfl
@[simp] theorem ty_a36 : tagg Tryz.prog 36 = some true := by kernel_rfl
@[simp] theorem ty_z36 : tzero Tryz.prog 36 = some [.int .i64 0, .int .i64 0, .int .u64 0] := by kernel_rfl
@[simp] theorem ty_b36 : (Tryz.prog.info? 36).map (·.bytes) = some 24 := by kernel_rfl
@[simp] theorem ty_e36 : telem Tryz.prog 36 = none := by kernel_rfl
@[simp] theorem ty_p36 : tplaces Tryz.prog 36 = some [(0, 1), (1, 1), (2, 1)] := by kernel_rfl
@[simp] theorem ty_f36_0 : tfield Tryz.prog 36 0 = some (0, 3) := by kernel_rfl
@[simp] theorem ty_f36_1 : tfield Tryz.prog 36 1 = some (1, 3) := by kernel_rfl
@[simp] theorem ty_f36_2 : tfield Tryz.prog 36 2 = some (2, 34) := by kernel_rfl
@[simp] theorem ty_s37 : tsize Tryz.prog 37 = some 6 := by kernel_rfl
@[simp] theorem ty_a37 : tagg Tryz.prog 37 = some true := by kernel_rfl
@[simp] theorem ty_z37 : tzero Tryz.prog 37 = some [.int .i64 0, .int .i64 0, .int .i64 0, .int .u64 0, .int .i64 0, .int .i64 0] := by kernel_rfl
@[simp] theorem ty_b37 : (Tryz.prog.info? 37).map (·.bytes) = some 48 := by kernel_rfl
@[simp] theorem ty_e37 : telem Tryz.prog 37 = none := by kernel_rfl
@[simp] theorem ty_p37 : tplaces Tryz.prog 37 = some [(0, 1), (1, 3), (4, 1), (5, 1)] := by kernel_rfl
@[simp] theorem ty_f37_0 : tfield Tryz.prog 37 0 = some (0, 3) := by kernel_rfl
@[simp] theorem ty_f37_1 : tfield Tryz.prog 37 1 = some (1, 36) := by kernel_rfl
@[simp] theorem ty_f37_2 : tfield Tryz.prog 37 2 = some (4, 3) := by kernel_rfl
@[simp] theorem ty_f37_3 : tfield Tryz.prog 37 3 = some (5, 3) := by kernel_rfl
@[simp] theorem ty_s38 : tsize Tryz.prog 38 = some 6 := by kernel_rfl
@[simp] theorem ty_a38 : tagg Tryz.prog 38 = some true := by kernel_rfl
@[simp] theorem ty_z38 : tzero Tryz.prog 38 = some [.int .i64 0, .int .i64 0, .int .i64 0, .int .u64 0, .int .i64 0, .int .i64 0] := by kernel_rfl
@[simp] theorem ty_b38 : (Tryz.prog.info? 38).map (·.bytes) = some 48 := by kernel_rfl
@[simp] theorem ty_e38 : telem Tryz.prog 38 = none := by kernel_rfl
@[simp] theorem ty_p38 : tplaces Tryz.prog 38 = some [(0, 1), (1, 3), (4, 1), (5, 1)] := by kernel_rfl
@[simp] theorem ty_f38_0 : tfield Tryz.prog 38 0 = some (0, 3) := by kernel_rfl
@[simp] theorem ty_f38_1 : tfield Tryz.prog 38 1 = some (1, 36) := by kernel_rfl
@[simp] theorem ty_f38_2 : tfield Tryz.prog 38 2 = some (4, 3) := by kernel_rfl
@[simp] theorem ty_f38_3 : tfield Tryz.prog 38 3 = some (5, 3) := by kernel_rfl
@[simp] theorem ty_s46 : tsize Tryz.prog 46 = some 7 := by kernel_rfl
@[simp] theorem ty_a46 : tagg Tryz.prog 46 = some true := by kernel_rfl
@[simp] theorem ty_z46 : tzero Tryz.prog 46 = some [.slice none 0 0, .int .i64 0, .int .i64 0, .int .i64 0, .int .u64 0, .int .i64 0, .int .i64 0] := by kernel_rfl
@[simp] theorem ty_b46 : (Tryz.prog.info? 46).map (·.bytes) = some 72 := by kernel_rfl
@[simp] theorem ty_e46 : telem Tryz.prog 46 = none := by kernel_rfl
@[simp] theorem ty_p46 : tplaces Tryz.prog 46 = some [(0, 1), (1, 6)] := by kernel_rfl
@[simp] theorem ty_f46_0 : tfield Tryz.prog 46 0 = some (0, 25) := by kernel_rfl
@[simp] theorem ty_f46_1 : tfield Tryz.prog 46 1 = some (1, 38) := by kernel_rfl
@[simp] theorem ty_s47 : tsize Tryz.prog 47 = some 7 := by kernel_rfl
@[simp] theorem ty_a47 : tagg Tryz.prog 47 = some true := by kernel_rfl
@[simp] theorem ty_z47 : tzero Tryz.prog 47 = some [.slice none 0 0, .int .i64 0, .int .i64 0, .int .i64 0, .int .u64 0, .int .i64 0, .int .i64 0] := by kernel_rfl
@[simp] theorem ty_b47 : (Tryz.prog.info? 47).map (·.bytes) = some 72 := by kernel_rfl
@[simp] theorem ty_e47 : telem Tryz.prog 47 = none := by kernel_rfl
@[simp] theorem ty_p47 : tplaces Tryz.prog 47 = some [(0, 1), (1, 6)] := by kernel_rfl
@[simp] theorem ty_f47_0 : tfield Tryz.prog 47 0 = some (0, 25) := by kernel_rfl
@[simp] theorem ty_f47_1 : tfield Tryz.prog 47 1 = some (1, 38) := by kernel_rfl
@[simp] theorem ty_s48 : tsize Tryz.prog 48 = some 1 := by kernel_rfl
@[simp] theorem ty_a48 : tagg Tryz.prog 48 = some false := by kernel_rfl
@[simp] theorem ty_z48 : tzero Tryz.prog 48 = some [.map none] := by kernel_rfl
@[simp] theorem ty_b48 : (Tryz.prog.info? 48).map (·.bytes) = some 8 := by kernel_rfl
@[simp] theorem ty_e48 : telem Tryz.prog 48 = none := by kernel_rfl
@[simp] theorem ty_s49 : tsize Tryz.prog 49 = some 7 := by kernel_rfl
@[simp] theorem ty_a49 : tagg Tryz.prog 49 = some true := by kernel_rfl
@[simp] theorem ty_z49 : tzero Tryz.prog 49 = some [.slice none 0 0, .int .i64 0, .int .i64 0, .int .i64 0, .int .u64 0, .int .i64 0, .int .i64 0] := by kernel_rfl
@[simp] theorem ty_b49 : (Tryz.prog.info? 49).map (·.bytes) = some 72 := by kernel_rfl
@[simp] theorem ty_e49 : telem Tryz.prog 49 = none := by kernel_rfl
@[simp] theorem ty_p49 : tplaces Tryz.prog 49 = some [(0, 1), (1, 6)] := by kernel_rfl
@[simp] theorem ty_f49_0 : tfield Tryz.prog 49 0 = some (0, 25) := by kernel_rfl
@[simp] theorem ty_f49_1 : tfield Tryz.prog 49 1 = some (1, 38) := by kernel_rfl
@[simp] theorem ty_s51 : tsize Tryz.prog 51 = some 1 := by kernel_rfl
@[simp] theorem ty_a51 : tagg Tryz.prog 51 = some false := by kernel_rfl
@[simp] theorem ty_z51 : tzero Tryz.prog 51 = some [.nilFunc] := by kernel_rfl
@[simp] theorem ty_b51 : (Tryz.prog.info? 51).map (·.bytes) = some 8 := by kernel_rfl
@[simp] theorem ty_e51 : telem Tryz.prog 51 = none := by kernel_rfl
@[simp] theorem ty_s52 : tsize Tryz.prog 52 = some 1 := by kernel_rfl
@[simp] theorem ty_a52 : tagg Tryz.prog 52 = some false := by kernel_rfl
@[simp] theorem ty_z52 : tzero Tryz.prog 52 = some [.nilFunc] := by kernel_rfl
@[simp] theorem ty_b52 : (Tryz.prog.info? 52).map (·.bytes) = some 8 := by kernel_rfl
@[simp] theorem ty_e52 : telem Tryz.prog 52 = none := by kernel_rfl
@[simp] theorem ty_s54 : tsize Tryz.prog 54 = some 1 := by kernel_rfl
@[simp] theorem ty_a54 : tagg Tryz.prog 54 = some false := by kernel_rfl
@[simp] theorem ty_z54 : tzero Tryz.prog 54 = some [.nilFunc] := by kernel_rfl
@[simp] theorem ty_b54 : (Tryz.prog.info? 54).map (·.bytes) = some 8 := by kernel_rfl
@[simp] theorem ty_e54 : telem Tryz.prog 54 = none := by kernel_rfl
@[simp] theorem ty_s56 : tsize Tryz.prog 56 = some 1 := by kernel_rfl
@[simp] theorem ty_a56 : tagg Tryz.prog 56 = some false := by kernel_rfl
@[simp] theorem ty_z56 : tzero Tryz.prog 56 = some [.pointer none] := by kernel_rfl
@[simp] theorem ty_b56 : (Tryz.prog.info? 56).map (·.bytes) = some 8 := by kernel_rfl
@[simp] theorem ty_e56 : telem Tryz.prog 56 = none := by kernel_rfl
@[simp] theorem ty_s57 : tsize Tryz.prog 57 = some 1 := by kernel_rfl
@[simp] theorem ty_a57 : tagg Tryz.prog 57 = some false := by kernel_rfl
@[simp] theorem ty_z57 : tzero Tryz.prog 57 = some [.slice none 0 0] := by kernel_rfl
@[simp] theorem ty_b57 : (Tryz.prog.info? 57).map (·.bytes) = some 24 := by kernel_rfl
@[simp] theorem ty_e57 : telem Tryz.prog 57 = some 131 := by kernel_rfl
@[simp] theorem ty_s58 : tsize Tryz.prog 58 = some 1 := by kernel_rfl
@[simp] theorem ty_a58 : tagg Tryz.prog 58 = some false := by kernel_rfl
@[simp] theorem ty_z58 : tzero Tryz.prog 58 = some [.slice none 0 0] := by kernel_rfl
@[simp] theorem ty_b58 : (Tryz.prog.info? 58).map (·.bytes) = some 24 := by kernel_rfl
@[simp] theorem ty_e58 : telem Tryz.prog 58 = some 88 := by kernel_rfl
@[simp] theorem ty_s59 : tsize Tryz.prog 59 = some 1 := by kernel_rfl
@[simp] theorem ty_a59 : tagg Tryz.prog 59 = some false := by kernel_rfl
@[simp] theorem ty_z59 : tzero Tryz.prog 59 = some [.slice none 0 0] := by kernel_rfl
@[simp] theorem ty_b59 : (Tryz.prog.info? 59).map (·.bytes) = some 24 := by kernel_rfl
@[simp] theorem ty_e59 : telem Tryz.prog 59 = some 36 := by kernel_rfl
@[simp] theorem ty_s60 : tsize Tryz.prog 60 = some 1 := by kernel_rfl
@[simp] theorem ty_a60 : tagg Tryz.prog 60 = some false := by kernel_rfl
@[simp] theorem ty_z60 : tzero Tryz.prog 60 = some [.slice none 0 0] := by kernel_rfl
@[simp] theorem ty_b60 : (Tryz.prog.info? 60).map (·.bytes) = some 24 := by kernel_rfl
@[simp] theorem ty_e60 : telem Tryz.prog 60 = some 22 := by kernel_rfl
@[simp] theorem ty_s61 : tsize Tryz.prog 61 = some 1 := by kernel_rfl
@[simp] theorem ty_a61 : tagg Tryz.prog 61 = some false := by kernel_rfl
@[simp] theorem ty_z61 : tzero Tryz.prog 61 = some [.slice none 0 0] := by kernel_rfl
@[simp] theorem ty_b61 : (Tryz.prog.info? 61).map (·.bytes) = some 24 := by kernel_rfl
@[simp] theorem ty_e61 : telem Tryz.prog 61 = some 203 := by kernel_rfl
@[simp] theorem ty_s62 : tsize Tryz.prog 62 = some 5 := by kernel_rfl
@[simp] theorem ty_a62 : tagg Tryz.prog 62 = some true := by kernel_rfl
@[simp] theorem ty_z62 : tzero Tryz.prog 62 = some [.slice none 0 0, .slice none 0 0, .slice none 0 0, .slice none 0 0, .slice none 0 0] := by kernel_rfl
@[simp] theorem ty_b62 : (Tryz.prog.info? 62).map (·.bytes) = some 120 := by kernel_rfl
@[simp] theorem ty_e62 : telem Tryz.prog 62 = none := by kernel_rfl
@[simp] theorem ty_p62 : tplaces Tryz.prog 62 = some [(0, 1), (1, 1), (2, 1), (3, 1), (4, 1)] := by kernel_rfl
@[simp] theorem ty_f62_0 : tfield Tryz.prog 62 0 = some (0, 57) := by kernel_rfl
@[simp] theorem ty_f62_1 : tfield Tryz.prog 62 1 = some (1, 58) := by kernel_rfl
@[simp] theorem ty_f62_2 : tfield Tryz.prog 62 2 = some (2, 59) := by kernel_rfl
@[simp] theorem ty_f62_3 : tfield Tryz.prog 62 3 = some (3, 60) := by kernel_rfl
@[simp] theorem ty_f62_4 : tfield Tryz.prog 62 4 = some (4, 61) := by kernel_rfl
@[simp] theorem ty_s63 : tsize Tryz.prog 63 = some 5 := by kernel_rfl
@[simp] theorem ty_a63 : tagg Tryz.prog 63 = some true := by kernel_rfl
@[simp] theorem ty_z63 : tzero Tryz.prog 63 = some [.slice none 0 0, .slice none 0 0, .slice none 0 0, .slice none 0 0, .slice none 0 0] := by kernel_rfl
@[simp] theorem ty_b63 : (Tryz.prog.info? 63).map (·.bytes) = some 120 := by kernel_rfl
@[simp] theorem ty_e63 : telem Tryz.prog 63 = none := by kernel_rfl
@[simp] theorem ty_p63 : tplaces Tryz.prog 63 = some [(0, 1), (1, 1), (2, 1), (3, 1), (4, 1)] := by kernel_rfl
@[simp] theorem ty_f63_0 : tfield Tryz.prog 63 0 = some (0, 57) := by kernel_rfl
@[simp] theorem ty_f63_1 : tfield Tryz.prog 63 1 = some (1, 58) := by kernel_rfl
@[simp] theorem ty_f63_2 : tfield Tryz.prog 63 2 = some (2, 59) := by kernel_rfl
@[simp] theorem ty_f63_3 : tfield Tryz.prog 63 3 = some (3, 60) := by kernel_rfl
@[simp] theorem ty_f63_4 : tfield Tryz.prog 63 4 = some (4, 61) := by kernel_rfl
@[simp] theorem ty_s75 : tsize Tryz.prog 75 = some 1 := by kernel_rfl
@[simp] theorem ty_a75 : tagg Tryz.prog 75 = some false := by kernel_rfl
@[simp] theorem ty_z75 : tzero Tryz.prog 75 = some [.pointer none] := by kernel_rfl
@[simp] theorem ty_b75 : (Tryz.prog.info? 75).map (·.bytes) = some 8 := by kernel_rfl
@[simp] theorem ty_e75 : telem Tryz.prog 75 = none := by kernel_rfl
@[simp] theorem ty_s76 : tsize Tryz.prog 76 = some 3 := by kernel_rfl
@[simp] theorem ty_a76 : tagg Tryz.prog 76 = some true := by kernel_rfl
@[simp] theorem ty_z76 : tzero Tryz.prog 76 = some [.pointer none, .slice none 0 0, .slice none 0 0] := by kernel_rfl
@[simp] theorem ty_b76 : (Tryz.prog.info? 76).map (·.bytes) = some 56 := by kernel_rfl
@[simp] theorem ty_e76 : telem Tryz.prog 76 = none := by kernel_rfl
@[simp] theorem ty_p76 : tplaces Tryz.prog 76 = some [(0, 1), (1, 1), (2, 1)] := by kernel_rfl
@[simp] theorem ty_f76_0 : tfield Tryz.prog 76 0 = some (0, 56) := by kernel_rfl
@[simp] theorem ty_f76_1 : tfield Tryz.prog 76 1 = some (1, 59) := by kernel_rfl
@[simp] theorem ty_f76_2 : tfield Tryz.prog 76 2 = some (2, 29) := by kernel_rfl
@[simp] theorem ty_s77 : tsize Tryz.prog 77 = some 3 := by kernel_rfl
@[simp] theorem ty_a77 : tagg Tryz.prog 77 = some true := by kernel_rfl
@[simp] theorem ty_z77 : tzero Tryz.prog 77 = some [.pointer none, .slice none 0 0, .slice none 0 0] := by kernel_rfl
@[simp] theorem ty_b77 : (Tryz.prog.info? 77).map (·.bytes) = some 56 := by kernel_rfl
@[simp] theorem ty_e77 : telem Tryz.prog 77 = none := by kernel_rfl
@[simp] theorem ty_p77 : tplaces Tryz.prog 77 = some [(0, 1), (1, 1), (2, 1)] := by kernel_rfl
@[simp] theorem ty_f77_0 : tfield Tryz.prog 77 0 = some (0, 56) := by kernel_rfl
@[simp] theorem ty_f77_1 : tfield Tryz.prog 77 1 = some (1, 59) := by kernel_rfl
@[simp] theorem ty_f77_2 : tfield Tryz.prog 77 2 = some (2, 29) := by kernel_rfl
@[simp] theorem ty_s79 : tsize Tryz.prog 79 = some 1 := by kernel_rfl
@[simp] theorem ty_a79 : tagg Tryz.prog 79 = some false := by kernel_rfl
@[simp] theorem ty_z79 : tzero Tryz.prog 79 = some [.nilFunc] := by kernel_rfl
@[simp] theorem ty_b79 : (Tryz.prog.info? 79).map (·.bytes) = some 8 := by kernel_rfl
@[simp] theorem ty_e79 : telem Tryz.prog 79 = none := by kernel_rfl
@[simp] theorem ty_s80 : tsize Tryz.prog 80 = some 1 := by kernel_rfl
@[simp] theorem ty_a80 : tagg Tryz.prog 80 = some false := by kernel_rfl
@[simp] theorem ty_z80 : tzero Tryz.prog 80 = some [.slice none 0 0] := by kernel_rfl
@[simp] theorem ty_b80 : (Tryz.prog.info? 80).map (·.bytes) = some 24 := by kernel_rfl
@[simp] theorem ty_e80 : telem Tryz.prog 80 = some 184 := by kernel_rfl
@[simp] theorem ty_s81 : tsize Tryz.prog 81 = some 1 := by kernel_rfl
@[simp] theorem ty_a81 : tagg Tryz.prog 81 = some false := by kernel_rfl
@[simp] theorem ty_z81 : tzero Tryz.prog 81 = some [.slice none 0 0] := by kernel_rfl
@[simp] theorem ty_b81 : (Tryz.prog.info? 81).map (·.bytes) = some 24 := by kernel_rfl
@[simp] theorem ty_e81 : telem Tryz.prog 81 = some 5 := by kernel_rfl
@[simp] theorem ty_s82 : tsize Tryz.prog 82 = some 1 := by kernel_rfl
@[simp] theorem ty_a82 : tagg Tryz.prog 82 = some false := by kernel_rfl
@[simp] theorem ty_z82 : tzero Tryz.prog 82 = some [.slice none 0 0] := by kernel_rfl
@[simp] theorem ty_b82 : (Tryz.prog.info? 82).map (·.bytes) = some 24 := by kernel_rfl
@[simp] theorem ty_e82 : telem Tryz.prog 82 = some 34 := by kernel_rfl
@[simp] theorem ty_s83 : tsize Tryz.prog 83 = some 1 := by kernel_rfl
@[simp] theorem ty_a83 : tagg Tryz.prog 83 = some false := by kernel_rfl
@[simp] theorem ty_z83 : tzero Tryz.prog 83 = some [.slice none 0 0] := by kernel_rfl
@[simp] theorem ty_b83 : (Tryz.prog.info? 83).map (·.bytes) = some 24 := by kernel_rfl
@[simp] theorem ty_e83 : telem Tryz.prog 83 = some 135 := by kernel_rfl
@[simp] theorem ty_s84 : tsize Tryz.prog 84 = some 1 := by kernel_rfl
@[simp] theorem ty_a84 : tagg Tryz.prog 84 = some false := by kernel_rfl
@[simp] theorem ty_z84 : tzero Tryz.prog 84 = some [.slice none 0 0] := by kernel_rfl
@[simp] theorem ty_b84 : (Tryz.prog.info? 84).map (·.bytes) = some 24 := by kernel_rfl
@[simp] theorem ty_e84 : telem Tryz.prog 84 = some 269 := by kernel_rfl
@[simp] theorem ty_s85 : tsize Tryz.prog 85 = some 2 := by kernel_rfl
@[simp] theorem ty_a85 : tagg Tryz.prog 85 = some true := by kernel_rfl
@[simp] theorem ty_z85 : tzero Tryz.prog 85 = some [.int .u64 0, .int .u64 0] := by kernel_rfl
@[simp] theorem ty_b85 : (Tryz.prog.info? 85).map (·.bytes) = some 16 := by kernel_rfl
@[simp] theorem ty_e85 : telem Tryz.prog 85 = none := by kernel_rfl
@[simp] theorem ty_p85 : tplaces Tryz.prog 85 = some [(0, 1), (1, 1)] := by kernel_rfl
@[simp] theorem ty_f85_0 : tfield Tryz.prog 85 0 = some (0, 34) := by kernel_rfl
@[simp] theorem ty_f85_1 : tfield Tryz.prog 85 1 = some (1, 34) := by kernel_rfl
@[simp] theorem ty_s86 : tsize Tryz.prog 86 = some 2 := by kernel_rfl
@[simp] theorem ty_a86 : tagg Tryz.prog 86 = some true := by kernel_rfl
@[simp] theorem ty_z86 : tzero Tryz.prog 86 = some [.int .u64 0, .int .u64 0] := by kernel_rfl
@[simp] theorem ty_b86 : (Tryz.prog.info? 86).map (·.bytes) = some 16 := by kernel_rfl
@[simp] theorem ty_e86 : telem Tryz.prog 86 = none := by kernel_rfl
@[simp] theorem ty_p86 : tplaces Tryz.prog 86 = some [(0, 1), (1, 1)] := by kernel_rfl
@[simp] theorem ty_f86_0 : tfield Tryz.prog 86 0 = some (0, 34) := by kernel_rfl
@[simp] theorem ty_f86_1 : tfield Tryz.prog 86 1 = some (1, 34) := by kernel_rfl
@[simp] theorem ty_s87 : tsize Tryz.prog 87 = some 27 := by kernel_rfl
@[simp] theorem ty_a87 : tagg Tryz.prog 87 = some true := by kernel_rfl
@[simp] theorem ty_z87 : tzero Tryz.prog 87 = some [.int .i64 0, .int .i64 0, .int .i64 0, .int .i64 0, .slice none 0 0, .int .i64 0, .int .i64 0, .int .i64 0, .int .i64 0, .slice none 0 0, .int .i64 0, .int .i64 0, .int .u64 0, .int .i64 0, .slice none 0 0, .slice none 0 0, .int .i64 0, .int .i64 0, .int .u64 0, .slice none 0 0, .int .i64 0, .int .i64 0, .slice none 0 0, .int .u64 0, .slice none 0 0, .int .u64 0, .int .u64 0] := by kernel_rfl
@[simp] theorem ty_b87 : (Tryz.prog.info? 87).map (·.bytes) = some 328 := by kernel_rfl
@[simp] theorem ty_e87 : telem Tryz.prog 87 = none := by kernel_rfl
@[simp] theorem ty_p87 : tplaces Tryz.prog 87 = some [(0, 1), (1, 1), (2, 1), (3, 1), (4, 1), (5, 1), (6, 1), (7, 1), (8, 1), (9, 1), (10, 3), (13, 1), (14, 1), (15, 1), (16, 3), (19, 1), (20, 1), (21, 1), (22, 1), (23, 1), (24, 1), (25, 2)] := by kernel_rfl
@[simp] theorem ty_f87_0 : tfield Tryz.prog 87 0 = some (0, 3) := by kernel_rfl
@[simp] theorem ty_f87_1 : tfield Tryz.prog 87 1 = some (1, 3) := by kernel_rfl
@[simp] theorem ty_f87_2 : tfield Tryz.prog 87 2 = some (2, 3) := by kernel_rfl
@[simp] theorem ty_f87_3 : tfield Tryz.prog 87 3 = some (3, 3) := by kernel_rfl
@[simp] theorem ty_f87_4 : tfield Tryz.prog 87 4 = some (4, 59) := by kernel_rfl
@[simp] theorem ty_f87_5 : tfield Tryz.prog 87 5 = some (5, 3) := by kernel_rfl
@[simp] theorem ty_f87_6 : tfield Tryz.prog 87 6 = some (6, 3) := by kernel_rfl
@[simp] theorem ty_f87_7 : tfield Tryz.prog 87 7 = some (7, 3) := by kernel_rfl
@[simp] theorem ty_f87_8 : tfield Tryz.prog 87 8 = some (8, 3) := by kernel_rfl
@[simp] theorem ty_f87_9 : tfield Tryz.prog 87 9 = some (9, 80) := by kernel_rfl
@[simp] theorem ty_f87_10 : tfield Tryz.prog 87 10 = some (10, 36) := by kernel_rfl
@[simp] theorem ty_f87_11 : tfield Tryz.prog 87 11 = some (13, 3) := by kernel_rfl
@[simp] theorem ty_f87_12 : tfield Tryz.prog 87 12 = some (14, 81) := by kernel_rfl
@[simp] theorem ty_f87_13 : tfield Tryz.prog 87 13 = some (15, 82) := by kernel_rfl
@[simp] theorem ty_f87_14 : tfield Tryz.prog 87 14 = some (16, 36) := by kernel_rfl
@[simp] theorem ty_f87_15 : tfield Tryz.prog 87 15 = some (19, 22) := by kernel_rfl
@[simp] theorem ty_f87_16 : tfield Tryz.prog 87 16 = some (20, 3) := by kernel_rfl
@[simp] theorem ty_f87_17 : tfield Tryz.prog 87 17 = some (21, 3) := by kernel_rfl
@[simp] theorem ty_f87_18 : tfield Tryz.prog 87 18 = some (22, 83) := by kernel_rfl
@[simp] theorem ty_f87_19 : tfield Tryz.prog 87 19 = some (23, 34) := by kernel_rfl
@[simp] theorem ty_f87_20 : tfield Tryz.prog 87 20 = some (24, 84) := by kernel_rfl
@[simp] theorem ty_f87_21 : tfield Tryz.prog 87 21 = some (25, 86) := by kernel_rfl
@[simp] theorem ty_s88 : tsize Tryz.prog 88 = some 27 := by kernel_rfl
@[simp] theorem ty_a88 : tagg Tryz.prog 88 = some true := by kernel_rfl
@[simp] theorem ty_z88 : tzero Tryz.prog 88 = some [.int .i64 0, .int .i64 0, .int .i64 0, .int .i64 0, .slice none 0 0, .int .i64 0, .int .i64 0, .int .i64 0, .int .i64 0, .slice none 0 0, .int .i64 0, .int .i64 0, .int .u64 0, .int .i64 0, .slice none 0 0, .slice none 0 0, .int .i64 0, .int .i64 0, .int .u64 0, .slice none 0 0, .int .i64 0, .int .i64 0, .slice none 0 0, .int .u64 0, .slice none 0 0, .int .u64 0, .int .u64 0] := by kernel_rfl
@[simp] theorem ty_b88 : (Tryz.prog.info? 88).map (·.bytes) = some 328 := by kernel_rfl
@[simp] theorem ty_e88 : telem Tryz.prog 88 = none := by kernel_rfl
@[simp] theorem ty_p88 : tplaces Tryz.prog 88 = some [(0, 1), (1, 1), (2, 1), (3, 1), (4, 1), (5, 1), (6, 1), (7, 1), (8, 1), (9, 1), (10, 3), (13, 1), (14, 1), (15, 1), (16, 3), (19, 1), (20, 1), (21, 1), (22, 1), (23, 1), (24, 1), (25, 2)] := by kernel_rfl
@[simp] theorem ty_f88_0 : tfield Tryz.prog 88 0 = some (0, 3) := by kernel_rfl
@[simp] theorem ty_f88_1 : tfield Tryz.prog 88 1 = some (1, 3) := by kernel_rfl
@[simp] theorem ty_f88_2 : tfield Tryz.prog 88 2 = some (2, 3) := by kernel_rfl
@[simp] theorem ty_f88_3 : tfield Tryz.prog 88 3 = some (3, 3) := by kernel_rfl
@[simp] theorem ty_f88_4 : tfield Tryz.prog 88 4 = some (4, 59) := by kernel_rfl
@[simp] theorem ty_f88_5 : tfield Tryz.prog 88 5 = some (5, 3) := by kernel_rfl
@[simp] theorem ty_f88_6 : tfield Tryz.prog 88 6 = some (6, 3) := by kernel_rfl
@[simp] theorem ty_f88_7 : tfield Tryz.prog 88 7 = some (7, 3) := by kernel_rfl
@[simp] theorem ty_f88_8 : tfield Tryz.prog 88 8 = some (8, 3) := by kernel_rfl
@[simp] theorem ty_f88_9 : tfield Tryz.prog 88 9 = some (9, 80) := by kernel_rfl
@[simp] theorem ty_f88_10 : tfield Tryz.prog 88 10 = some (10, 36) := by kernel_rfl
@[simp] theorem ty_f88_11 : tfield Tryz.prog 88 11 = some (13, 3) := by kernel_rfl
@[simp] theorem ty_f88_12 : tfield Tryz.prog 88 12 = some (14, 81) := by kernel_rfl
@[simp] theorem ty_f88_13 : tfield Tryz.prog 88 13 = some (15, 82) := by kernel_rfl
@[simp] theorem ty_f88_14 : tfield Tryz.prog 88 14 = some (16, 36) := by kernel_rfl
@[simp] theorem ty_f88_15 : tfield Tryz.prog 88 15 = some (19, 22) := by kernel_rfl
@[simp] theorem ty_f88_16 : tfield Tryz.prog 88 16 = some (20, 3) := by kernel_rfl
@[simp] theorem ty_f88_17 : tfield Tryz.prog 88 17 = some (21, 3) := by kernel_rfl
@[simp] theorem ty_f88_18 : tfield Tryz.prog 88 18 = some (22, 83) := by kernel_rfl
@[simp] theorem ty_f88_19 : tfield Tryz.prog 88 19 = some (23, 34) := by kernel_rfl
@[simp] theorem ty_f88_20 : tfield Tryz.prog 88 20 = some (24, 84) := by kernel_rfl
@[simp] theorem ty_f88_21 : tfield Tryz.prog 88 21 = some (25, 86) := by kernel_rfl
@[simp] theorem ty_s92 : tsize Tryz.prog 92 = some 1 := by kernel_rfl
@[simp] theorem ty_a92 : tagg Tryz.prog 92 = some false := by kernel_rfl
@[simp] theorem ty_z92 : tzero Tryz.prog 92 = some [.nilFunc] := by kernel_rfl
@[simp] theorem ty_b92 : (Tryz.prog.info? 92).map (·.bytes) = some 8 := by kernel_rfl
@[simp] theorem ty_e92 : telem Tryz.prog 92 = none := by kernel_rfl
@[simp] theorem ty_s94 : tsize Tryz.prog 94 = some 1 := by kernel_rfl
@[simp] theorem ty_a94 : tagg Tryz.prog 94 = some false := by kernel_rfl
@[simp] theorem ty_z94 : tzero Tryz.prog 94 = some [.nilFunc] := by kernel_rfl
@[simp] theorem ty_b94 : (Tryz.prog.info? 94).map (·.bytes) = some 8 := by kernel_rfl
@[simp] theorem ty_e94 : telem Tryz.prog 94 = none := by kernel_rfl
@[simp] theorem ty_s98 : tsize Tryz.prog 98 = some 1 := by kernel_rfl
@[simp] theorem ty_a98 : tagg Tryz.prog 98 = some false := by kernel_rfl
@[simp] theorem ty_z98 : tzero Tryz.prog 98 = some [.int .u64 0] := by kernel_rfl
@[simp] theorem ty_b98 : (Tryz.prog.info? 98).map (·.bytes) = some 8 := by kernel_rfl
@[simp] theorem ty_zz98 : (Tryz.prog.info? 98).bind (·.zero) = some (.int .u64 0) := by kernel_rfl
@[simp] theorem ty_i98 : tint Tryz.prog 98 = some .u64 := by kernel_rfl
@[simp] theorem ty_e98 : telem Tryz.prog 98 = none := by kernel_rfl
@[simp] theorem ty_s100 : tsize Tryz.prog 100 = some 1 := by kernel_rfl
@[simp] theorem ty_a100 : tagg Tryz.prog 100 = some false := by kernel_rfl
@[simp] theorem ty_z100 : tzero Tryz.prog 100 = some [.nilFunc] := by kernel_rfl
@[simp] theorem ty_b100 : (Tryz.prog.info? 100).map (·.bytes) = some 8 := by kernel_rfl
@[simp] theorem ty_e100 : telem Tryz.prog 100 = none := by kernel_rfl
@[simp] theorem ty_s110 : tsize Tryz.prog 110 = some 1 := by kernel_rfl
@[simp] theorem ty_a110 : tagg Tryz.prog 110 = some false := by kernel_rfl
@[simp] theorem ty_z110 : tzero Tryz.prog 110 = some [.int .i64 0] := by kernel_rfl
@[simp] theorem ty_b110 : (Tryz.prog.info? 110).map (·.bytes) = some 8 := by kernel_rfl
@[simp] theorem ty_zz110 : (Tryz.prog.info? 110).bind (·.zero) = some (.int .i64 0) := by kernel_rfl
@[simp] theorem ty_i110 : tint Tryz.prog 110 = some .i64 := by kernel_rfl
@[simp] theorem ty_e110 : telem Tryz.prog 110 = none := by kernel_rfl
@[simp] theorem ty_s124 : tsize Tryz.prog 124 = some 2 := by kernel_rfl
@[simp] theorem ty_a124 : tagg Tryz.prog 124 = some true := by kernel_rfl
@[simp] theorem ty_z124 : tzero Tryz.prog 124 = some [.int .u64 0, .int .u64 0] := by kernel_rfl
@[simp] theorem ty_b124 : (Tryz.prog.info? 124).map (·.bytes) = some 16 := by kernel_rfl
@[simp] theorem ty_e124 : telem Tryz.prog 124 = none := by kernel_rfl
@[simp] theorem ty_p124 : tplaces Tryz.prog 124 = some [(0, 1), (1, 1)] := by kernel_rfl
@[simp] theorem ty_f124_0 : tfield Tryz.prog 124 0 = some (0, 34) := by kernel_rfl
@[simp] theorem ty_f124_1 : tfield Tryz.prog 124 1 = some (1, 34) := by kernel_rfl
@[simp] theorem ty_s125 : tsize Tryz.prog 125 = some 2 := by kernel_rfl
@[simp] theorem ty_a125 : tagg Tryz.prog 125 = some true := by kernel_rfl
@[simp] theorem ty_z125 : tzero Tryz.prog 125 = some [.int .u64 0, .int .u64 0] := by kernel_rfl
@[simp] theorem ty_b125 : (Tryz.prog.info? 125).map (·.bytes) = some 16 := by kernel_rfl
@[simp] theorem ty_e125 : telem Tryz.prog 125 = none := by kernel_rfl
@[simp] theorem ty_p125 : tplaces Tryz.prog 125 = some [(0, 1), (1, 1)] := by kernel_rfl
@[simp] theorem ty_f125_0 : tfield Tryz.prog 125 0 = some (0, 34) := by kernel_rfl
@[simp] theorem ty_f125_1 : tfield Tryz.prog 125 1 = some (1, 34) := by kernel_rfl
@[simp] theorem ty_s130 : tsize Tryz.prog 130 = some 5 := by kernel_rfl
@[simp] theorem ty_a130 : tagg Tryz.prog 130 = some true := by kernel_rfl
@[simp] theorem ty_z130 : tzero Tryz.prog 130 = some [.int .i64 0, .int .i64 0, .int .u64 0, .int .u64 0, .int .u64 0] := by kernel_rfl
@[simp] theorem ty_b130 : (Tryz.prog.info? 130).map (·.bytes) = some 40 := by kernel_rfl
@[simp] theorem ty_e130 : telem Tryz.prog 130 = none := by kernel_rfl
@[simp] theorem ty_p130 : tplaces Tryz.prog 130 = some [(0, 1), (1, 1), (2, 1), (3, 1), (4, 1)] := by kernel_rfl
@[simp] theorem ty_f130_0 : tfield Tryz.prog 130 0 = some (0, 3) := by kernel_rfl
@[simp] theorem ty_f130_1 : tfield Tryz.prog 130 1 = some (1, 3) := by kernel_rfl
@[simp] theorem ty_f130_2 : tfield Tryz.prog 130 2 = some (2, 34) := by kernel_rfl
@[simp] theorem ty_f130_3 : tfield Tryz.prog 130 3 = some (3, 34) := by kernel_rfl
@[simp] theorem ty_f130_4 : tfield Tryz.prog 130 4 = some (4, 34) := by kernel_rfl
@[simp] theorem ty_s131 : tsize Tryz.prog 131 = some 5 := by kernel_rfl
@[simp] theorem ty_a131 : tagg Tryz.prog 131 = some true := by kernel_rfl
@[simp] theorem ty_z131 : tzero Tryz.prog 131 = some [.int .i64 0, .int .i64 0, .int .u64 0, .int .u64 0, .int .u64 0] := by kernel_rfl
@[simp] theorem ty_b131 : (Tryz.prog.info? 131).map (·.bytes) = some 40 := by kernel_rfl
@[simp] theorem ty_e131 : telem Tryz.prog 131 = none := by kernel_rfl
@[simp] theorem ty_p131 : tplaces Tryz.prog 131 = some [(0, 1), (1, 1), (2, 1), (3, 1), (4, 1)] := by kernel_rfl
@[simp] theorem ty_f131_0 : tfield Tryz.prog 131 0 = some (0, 3) := by kernel_rfl
@[simp] theorem ty_f131_1 : tfield Tryz.prog 131 1 = some (1, 3) := by kernel_rfl
@[simp] theorem ty_f131_2 : tfield Tryz.prog 131 2 = some (2, 34) := by kernel_rfl
@[simp] theorem ty_f131_3 : tfield Tryz.prog 131 3 = some (3, 34) := by kernel_rfl
@[simp] theorem ty_f131_4 : tfield Tryz.prog 131 4 = some (4, 34) := by kernel_rfl
@[simp] theorem ty_s134 : tsize Tryz.prog 134 = some 4 := by kernel_rfl
@[simp] theorem ty_a134 : tagg Tryz.prog 134 = some true := by kernel_rfl
@[simp] theorem ty_z134 : tzero Tryz.prog 134 = some [.int .u64 0, .int .u64 0, .int .u64 0, .int .u64 0] := by kernel_rfl
@[simp] theorem ty_b134 : (Tryz.prog.info? 134).map (·.bytes) = some 32 := by kernel_rfl
@[simp] theorem ty_e134 : telem Tryz.prog 134 = none := by kernel_rfl
@[simp] theorem ty_p134 : tplaces Tryz.prog 134 = some [(0, 1), (1, 1), (2, 1), (3, 1)] := by kernel_rfl
@[simp] theorem ty_f134_0 : tfield Tryz.prog 134 0 = some (0, 34) := by kernel_rfl
@[simp] theorem ty_f134_1 : tfield Tryz.prog 134 1 = some (1, 34) := by kernel_rfl
@[simp] theorem ty_f134_2 : tfield Tryz.prog 134 2 = some (2, 34) := by kernel_rfl
@[simp] theorem ty_f134_3 : tfield Tryz.prog 134 3 = some (3, 34) := by kernel_rfl
@[simp] theorem ty_s135 : tsize Tryz.prog 135 = some 4 := by kernel_rfl
@[simp] theorem ty_a135 : tagg Tryz.prog 135 = some true := by kernel_rfl
@[simp] theorem ty_z135 : tzero Tryz.prog 135 = some [.int .u64 0, .int .u64 0, .int .u64 0, .int .u64 0] := by kernel_rfl
@[simp] theorem ty_b135 : (Tryz.prog.info? 135).map (·.bytes) = some 32 := by kernel_rfl
@[simp] theorem ty_e135 : telem Tryz.prog 135 = none := by kernel_rfl
@[simp] theorem ty_p135 : tplaces Tryz.prog 135 = some [(0, 1), (1, 1), (2, 1), (3, 1)] := by kernel_rfl
@[simp] theorem ty_f135_0 : tfield Tryz.prog 135 0 = some (0, 34) := by kernel_rfl
@[simp] theorem ty_f135_1 : tfield Tryz.prog 135 1 = some (1, 34) := by kernel_rfl
@[simp] theorem ty_f135_2 : tfield Tryz.prog 135 2 = some (2, 34) := by kernel_rfl
@[simp] theorem ty_f135_3 : tfield Tryz.prog 135 3 = some (3, 34) := by kernel_rfl
@[simp] theorem ty_s141 : tsize Tryz.prog 141 = some 1 := by kernel_rfl
@[simp] theorem ty_a141 : tagg Tryz.prog 141 = some false := by kernel_rfl
@[simp] theorem ty_z141 : tzero Tryz.prog 141 = some [.nilFunc] := by kernel_rfl
@[simp] theorem ty_b141 : (Tryz.prog.info? 141).map (·.bytes) = some 8 := by kernel_rfl
@[simp] theorem ty_e141 : telem Tryz.prog 141 = none := by kernel_rfl
@[simp] theorem ty_s148 : tsize Tryz.prog 148 = some 1 := by kernel_rfl
@[simp] theorem ty_a148 : tagg Tryz.prog 148 = some false := by kernel_rfl
@[simp] theorem ty_z148 : tzero Tryz.prog 148 = some [.slice none 0 0] := by kernel_rfl
@[simp] theorem ty_b148 : (Tryz.prog.info? 148).map (·.bytes) = some 24 := by kernel_rfl
@[simp] theorem ty_e148 : telem Tryz.prog 148 = some 151 := by kernel_rfl
@[simp] theorem ty_s150 : tsize Tryz.prog 150 = some 6 := by kernel_rfl
@[simp] theorem ty_a150 : tagg Tryz.prog 150 = some true := by kernel_rfl
@[simp] theorem ty_z150 : tzero Tryz.prog 150 = some [.slice none 0 0, .int .u64 0, .int .i64 0, .int .i64 0, .int .u64 0, .int .i64 0] := by kernel_rfl
@[simp] theorem ty_b150 : (Tryz.prog.info? 150).map (·.bytes) = some 64 := by kernel_rfl
@[simp] theorem ty_e150 : telem Tryz.prog 150 = none := by kernel_rfl
@[simp] theorem ty_p150 : tplaces Tryz.prog 150 = some [(0, 1), (1, 1), (2, 3), (5, 1)] := by kernel_rfl
@[simp] theorem ty_f150_0 : tfield Tryz.prog 150 0 = some (0, 22) := by kernel_rfl
@[simp] theorem ty_f150_1 : tfield Tryz.prog 150 1 = some (1, 34) := by kernel_rfl
@[simp] theorem ty_f150_2 : tfield Tryz.prog 150 2 = some (2, 36) := by kernel_rfl
@[simp] theorem ty_f150_3 : tfield Tryz.prog 150 3 = some (5, 3) := by kernel_rfl
@[simp] theorem ty_s151 : tsize Tryz.prog 151 = some 6 := by kernel_rfl
@[simp] theorem ty_a151 : tagg Tryz.prog 151 = some true := by kernel_rfl
@[simp] theorem ty_z151 : tzero Tryz.prog 151 = some [.slice none 0 0, .int .u64 0, .int .i64 0, .int .i64 0, .int .u64 0, .int .i64 0] := by kernel_rfl
@[simp] theorem ty_b151 : (Tryz.prog.info? 151).map (·.bytes) = some 64 := by kernel_rfl
@[simp] theorem ty_e151 : telem Tryz.prog 151 = none := by kernel_rfl
@[simp] theorem ty_p151 : tplaces Tryz.prog 151 = some [(0, 1), (1, 1), (2, 3), (5, 1)] := by kernel_rfl
@[simp] theorem ty_f151_0 : tfield Tryz.prog 151 0 = some (0, 22) := by kernel_rfl
@[simp] theorem ty_f151_1 : tfield Tryz.prog 151 1 = some (1, 34) := by kernel_rfl
@[simp] theorem ty_f151_2 : tfield Tryz.prog 151 2 = some (2, 36) := by kernel_rfl
@[simp] theorem ty_f151_3 : tfield Tryz.prog 151 3 = some (5, 3) := by kernel_rfl
@[simp] theorem ty_s152 : tsize Tryz.prog 152 = some 1 := by kernel_rfl
@[simp] theorem ty_a152 : tagg Tryz.prog 152 = some false := by kernel_rfl
@[simp] theorem ty_z152 : tzero Tryz.prog 152 = some [.pointer none] := by kernel_rfl
@[simp] theorem ty_b152 : (Tryz.prog.info? 152).map (·.bytes) = some 8 := by kernel_rfl
@[simp] theorem ty_e152 : telem Tryz.prog 152 = none := by kernel_rfl
@[simp] theorem ty_s156 : tsize Tryz.prog 156 = some 1 := by kernel_rfl
@[simp] theorem ty_a156 : tagg Tryz.prog 156 = some false := by kernel_rfl
@[simp] theorem ty_z156 : tzero Tryz.prog 156 = some [.map none] := by kernel_rfl
@[simp] theorem ty_b156 : (Tryz.prog.info? 156).map (·.bytes) = some 8 := by kernel_rfl
@[simp] theorem ty_e156 : telem Tryz.prog 156 = none := by kernel_rfl
@[simp] theorem ty_s157 : tsize Tryz.prog 157 = some 1 := by kernel_rfl
@[simp] theorem ty_a157 : tagg Tryz.prog 157 = some false := by kernel_rfl
@[simp] theorem ty_z157 : tzero Tryz.prog 157 = some [.slice none 0 0] := by kernel_rfl
@[simp] theorem ty_b157 : (Tryz.prog.info? 157).map (·.bytes) = some 24 := by kernel_rfl
@[simp] theorem ty_e157 : telem Tryz.prog 157 = some 163 := by kernel_rfl
@[simp] theorem ty_s158 : tsize Tryz.prog 158 = some 3 := by kernel_rfl
@[simp] theorem ty_a158 : tagg Tryz.prog 158 = some true := by kernel_rfl
@[simp] theorem ty_z158 : tzero Tryz.prog 158 = some [.slice none 0 0, .map none, .slice none 0 0] := by kernel_rfl
@[simp] theorem ty_b158 : (Tryz.prog.info? 158).map (·.bytes) = some 56 := by kernel_rfl
@[simp] theorem ty_e158 : telem Tryz.prog 158 = none := by kernel_rfl
@[simp] theorem ty_p158 : tplaces Tryz.prog 158 = some [(0, 1), (1, 1), (2, 1)] := by kernel_rfl
@[simp] theorem ty_f158_0 : tfield Tryz.prog 158 0 = some (0, 57) := by kernel_rfl
@[simp] theorem ty_f158_1 : tfield Tryz.prog 158 1 = some (1, 156) := by kernel_rfl
@[simp] theorem ty_f158_2 : tfield Tryz.prog 158 2 = some (2, 157) := by kernel_rfl
@[simp] theorem ty_s159 : tsize Tryz.prog 159 = some 3 := by kernel_rfl
@[simp] theorem ty_a159 : tagg Tryz.prog 159 = some true := by kernel_rfl
@[simp] theorem ty_z159 : tzero Tryz.prog 159 = some [.slice none 0 0, .map none, .slice none 0 0] := by kernel_rfl
@[simp] theorem ty_b159 : (Tryz.prog.info? 159).map (·.bytes) = some 56 := by kernel_rfl
@[simp] theorem ty_e159 : telem Tryz.prog 159 = none := by kernel_rfl
@[simp] theorem ty_p159 : tplaces Tryz.prog 159 = some [(0, 1), (1, 1), (2, 1)] := by kernel_rfl
@[simp] theorem ty_f159_0 : tfield Tryz.prog 159 0 = some (0, 57) := by kernel_rfl
@[simp] theorem ty_f159_1 : tfield Tryz.prog 159 1 = some (1, 156) := by kernel_rfl
@[simp] theorem ty_f159_2 : tfield Tryz.prog 159 2 = some (2, 157) := by kernel_rfl
@[simp] theorem ty_s160 : tsize Tryz.prog 160 = some 4 := by kernel_rfl
@[simp] theorem ty_a160 : tagg Tryz.prog 160 = some true := by kernel_rfl
@[simp] theorem ty_z160 : tzero Tryz.prog 160 = some [.int .u64 0, .int .u64 0, .int .u64 0, .int .u64 0] := by kernel_rfl
@[simp] theorem ty_b160 : (Tryz.prog.info? 160).map (·.bytes) = some 32 := by kernel_rfl
@[simp] theorem ty_e160 : telem Tryz.prog 160 = none := by kernel_rfl
@[simp] theorem ty_r160 : tarr Tryz.prog 160 = some (4, 34) := by kernel_rfl
@[simp] theorem ty_s161 : tsize Tryz.prog 161 = some 4 := by kernel_rfl
@[simp] theorem ty_a161 : tagg Tryz.prog 161 = some true := by kernel_rfl
@[simp] theorem ty_z161 : tzero Tryz.prog 161 = some [.int .u64 0, .int .u64 0, .int .u64 0, .int .u64 0] := by kernel_rfl
@[simp] theorem ty_b161 : (Tryz.prog.info? 161).map (·.bytes) = some 32 := by kernel_rfl
@[simp] theorem ty_e161 : telem Tryz.prog 161 = none := by kernel_rfl
@[simp] theorem ty_r161 : tarr Tryz.prog 161 = some (4, 34) := by kernel_rfl
@[simp] theorem ty_s162 : tsize Tryz.prog 162 = some 35 := by kernel_rfl
@[simp] theorem ty_a162 : tagg Tryz.prog 162 = some true := by kernel_rfl
@[simp] theorem ty_z162 : tzero Tryz.prog 162 = some [.int .i64 0, .int .i64 0, .int .i64 0, .int .i64 0, .slice none 0 0, .int .i64 0, .int .i64 0, .int .i64 0, .int .i64 0, .slice none 0 0, .int .i64 0, .int .i64 0, .int .u64 0, .int .i64 0, .slice none 0 0, .slice none 0 0, .int .i64 0, .int .i64 0, .int .u64 0, .slice none 0 0, .int .i64 0, .int .i64 0, .slice none 0 0, .int .u64 0, .slice none 0 0, .int .u64 0, .int .u64 0, .int .i64 0, .int .i64 0, .int .u64 0, .int .u64 0, .int .u64 0, .int .u64 0, .int .u64 0, .int .i64 0] := by kernel_rfl
@[simp] theorem ty_b162 : (Tryz.prog.info? 162).map (·.bytes) = some 392 := by kernel_rfl
@[simp] theorem ty_e162 : telem Tryz.prog 162 = none := by kernel_rfl
@[simp] theorem ty_p162 : tplaces Tryz.prog 162 = some [(0, 27), (27, 3), (30, 4), (34, 1)] := by kernel_rfl
@[simp] theorem ty_f162_0 : tfield Tryz.prog 162 0 = some (0, 88) := by kernel_rfl
@[simp] theorem ty_f162_1 : tfield Tryz.prog 162 1 = some (27, 36) := by kernel_rfl
@[simp] theorem ty_f162_2 : tfield Tryz.prog 162 2 = some (30, 161) := by kernel_rfl
@[simp] theorem ty_f162_3 : tfield Tryz.prog 162 3 = some (34, 3) := by kernel_rfl
@[simp] theorem ty_s163 : tsize Tryz.prog 163 = some 35 := by kernel_rfl
@[simp] theorem ty_a163 : tagg Tryz.prog 163 = some true := by kernel_rfl
@[simp] theorem ty_z163 : tzero Tryz.prog 163 = some [.int .i64 0, .int .i64 0, .int .i64 0, .int .i64 0, .slice none 0 0, .int .i64 0, .int .i64 0, .int .i64 0, .int .i64 0, .slice none 0 0, .int .i64 0, .int .i64 0, .int .u64 0, .int .i64 0, .slice none 0 0, .slice none 0 0, .int .i64 0, .int .i64 0, .int .u64 0, .slice none 0 0, .int .i64 0, .int .i64 0, .slice none 0 0, .int .u64 0, .slice none 0 0, .int .u64 0, .int .u64 0, .int .i64 0, .int .i64 0, .int .u64 0, .int .u64 0, .int .u64 0, .int .u64 0, .int .u64 0, .int .i64 0] := by kernel_rfl
@[simp] theorem ty_b163 : (Tryz.prog.info? 163).map (·.bytes) = some 392 := by kernel_rfl
@[simp] theorem ty_e163 : telem Tryz.prog 163 = none := by kernel_rfl
@[simp] theorem ty_p163 : tplaces Tryz.prog 163 = some [(0, 27), (27, 3), (30, 4), (34, 1)] := by kernel_rfl
@[simp] theorem ty_f163_0 : tfield Tryz.prog 163 0 = some (0, 88) := by kernel_rfl
@[simp] theorem ty_f163_1 : tfield Tryz.prog 163 1 = some (27, 36) := by kernel_rfl
@[simp] theorem ty_f163_2 : tfield Tryz.prog 163 2 = some (30, 161) := by kernel_rfl
@[simp] theorem ty_f163_3 : tfield Tryz.prog 163 3 = some (34, 3) := by kernel_rfl
@[simp] theorem ty_s164 : tsize Tryz.prog 164 = some 1 := by kernel_rfl
@[simp] theorem ty_a164 : tagg Tryz.prog 164 = some false := by kernel_rfl
@[simp] theorem ty_z164 : tzero Tryz.prog 164 = some [.nilFunc] := by kernel_rfl
@[simp] theorem ty_b164 : (Tryz.prog.info? 164).map (·.bytes) = some 8 := by kernel_rfl
@[simp] theorem ty_e164 : telem Tryz.prog 164 = none := by kernel_rfl
@[simp] theorem ty_s172 : tsize Tryz.prog 172 = some 1 := by kernel_rfl
@[simp] theorem ty_a172 : tagg Tryz.prog 172 = some false := by kernel_rfl
@[simp] theorem ty_z172 : tzero Tryz.prog 172 = some [.int .i64 0] := by kernel_rfl
@[simp] theorem ty_b172 : (Tryz.prog.info? 172).map (·.bytes) = some 8 := by kernel_rfl
@[simp] theorem ty_zz172 : (Tryz.prog.info? 172).bind (·.zero) = some (.int .i64 0) := by kernel_rfl
@[simp] theorem ty_i172 : tint Tryz.prog 172 = some .i64 := by kernel_rfl
@[simp] theorem ty_e172 : telem Tryz.prog 172 = none := by kernel_rfl
@[simp] theorem ty_s179 : tsize Tryz.prog 179 = some 1 := by kernel_rfl
@[simp] theorem ty_a179 : tagg Tryz.prog 179 = some false := by kernel_rfl
@[simp] theorem ty_z179 : tzero Tryz.prog 179 = some [.int .u32 0] := by kernel_rfl
@[simp] theorem ty_b179 : (Tryz.prog.info? 179).map (·.bytes) = some 4 := by kernel_rfl
@[simp] theorem ty_zz179 : (Tryz.prog.info? 179).bind (·.zero) = some (.int .u32 0) := by kernel_rfl
@[simp] theorem ty_i179 : tint Tryz.prog 179 = some .u32 := by kernel_rfl
@[simp] theorem ty_e179 : telem Tryz.prog 179 = none := by kernel_rfl
@[simp] theorem ty_s181 : tsize Tryz.prog 181 = some 1 := by kernel_rfl
@[simp] theorem ty_a181 : tagg Tryz.prog 181 = some false := by kernel_rfl
@[simp] theorem ty_z181 : tzero Tryz.prog 181 = some [.nilFunc] := by kernel_rfl
@[simp] theorem ty_b181 : (Tryz.prog.info? 181).map (·.bytes) = some 8 := by kernel_rfl
@[simp] theorem ty_e181 : telem Tryz.prog 181 = none := by kernel_rfl
@[simp] theorem ty_s183 : tsize Tryz.prog 183 = some 2 := by kernel_rfl
@[simp] theorem ty_a183 : tagg Tryz.prog 183 = some true := by kernel_rfl
@[simp] theorem ty_z183 : tzero Tryz.prog 183 = some [.int .u64 0, .slice none 0 0] := by kernel_rfl
@[simp] theorem ty_b183 : (Tryz.prog.info? 183).map (·.bytes) = some 32 := by kernel_rfl
@[simp] theorem ty_e183 : telem Tryz.prog 183 = none := by kernel_rfl
@[simp] theorem ty_p183 : tplaces Tryz.prog 183 = some [(0, 1), (1, 1)] := by kernel_rfl
@[simp] theorem ty_f183_0 : tfield Tryz.prog 183 0 = some (0, 34) := by kernel_rfl
@[simp] theorem ty_f183_1 : tfield Tryz.prog 183 1 = some (1, 83) := by kernel_rfl
@[simp] theorem ty_s184 : tsize Tryz.prog 184 = some 2 := by kernel_rfl
@[simp] theorem ty_a184 : tagg Tryz.prog 184 = some true := by kernel_rfl
@[simp] theorem ty_z184 : tzero Tryz.prog 184 = some [.int .u64 0, .slice none 0 0] := by kernel_rfl
@[simp] theorem ty_b184 : (Tryz.prog.info? 184).map (·.bytes) = some 32 := by kernel_rfl
@[simp] theorem ty_e184 : telem Tryz.prog 184 = none := by kernel_rfl
@[simp] theorem ty_p184 : tplaces Tryz.prog 184 = some [(0, 1), (1, 1)] := by kernel_rfl
@[simp] theorem ty_f184_0 : tfield Tryz.prog 184 0 = some (0, 34) := by kernel_rfl
@[simp] theorem ty_f184_1 : tfield Tryz.prog 184 1 = some (1, 83) := by kernel_rfl
@[simp] theorem ty_s195 : tsize Tryz.prog 195 = some 1 := by kernel_rfl
@[simp] theorem ty_a195 : tagg Tryz.prog 195 = some false := by kernel_rfl
@[simp] theorem ty_z195 : tzero Tryz.prog 195 = some [.slice none 0 0] := by kernel_rfl
@[simp] theorem ty_b195 : (Tryz.prog.info? 195).map (·.bytes) = some 24 := by kernel_rfl
@[simp] theorem ty_e195 : telem Tryz.prog 195 = some 378 := by kernel_rfl
@[simp] theorem ty_s196 : tsize Tryz.prog 196 = some 1 := by kernel_rfl
@[simp] theorem ty_a196 : tagg Tryz.prog 196 = some false := by kernel_rfl
@[simp] theorem ty_z196 : tzero Tryz.prog 196 = some [.slice none 0 0] := by kernel_rfl
@[simp] theorem ty_b196 : (Tryz.prog.info? 196).map (·.bytes) = some 24 := by kernel_rfl
@[simp] theorem ty_e196 : telem Tryz.prog 196 = some 433 := by kernel_rfl
@[simp] theorem ty_s197 : tsize Tryz.prog 197 = some 6 := by kernel_rfl
@[simp] theorem ty_a197 : tagg Tryz.prog 197 = some true := by kernel_rfl
@[simp] theorem ty_z197 : tzero Tryz.prog 197 = some [.slice none 0 0, .slice none 0 0, .slice none 0 0, .slice none 0 0, .int .i64 0, .slice none 0 0] := by kernel_rfl
@[simp] theorem ty_b197 : (Tryz.prog.info? 197).map (·.bytes) = some 128 := by kernel_rfl
@[simp] theorem ty_e197 : telem Tryz.prog 197 = none := by kernel_rfl
@[simp] theorem ty_p197 : tplaces Tryz.prog 197 = some [(0, 1), (1, 1), (2, 1), (3, 1), (4, 1), (5, 1)] := by kernel_rfl
@[simp] theorem ty_f197_0 : tfield Tryz.prog 197 0 = some (0, 57) := by kernel_rfl
@[simp] theorem ty_f197_1 : tfield Tryz.prog 197 1 = some (1, 22) := by kernel_rfl
@[simp] theorem ty_f197_2 : tfield Tryz.prog 197 2 = some (2, 22) := by kernel_rfl
@[simp] theorem ty_f197_3 : tfield Tryz.prog 197 3 = some (3, 195) := by kernel_rfl
@[simp] theorem ty_f197_4 : tfield Tryz.prog 197 4 = some (4, 3) := by kernel_rfl
@[simp] theorem ty_f197_5 : tfield Tryz.prog 197 5 = some (5, 196) := by kernel_rfl
@[simp] theorem ty_s198 : tsize Tryz.prog 198 = some 6 := by kernel_rfl
@[simp] theorem ty_a198 : tagg Tryz.prog 198 = some true := by kernel_rfl
@[simp] theorem ty_z198 : tzero Tryz.prog 198 = some [.slice none 0 0, .slice none 0 0, .slice none 0 0, .slice none 0 0, .int .i64 0, .slice none 0 0] := by kernel_rfl
@[simp] theorem ty_b198 : (Tryz.prog.info? 198).map (·.bytes) = some 128 := by kernel_rfl
@[simp] theorem ty_e198 : telem Tryz.prog 198 = none := by kernel_rfl
@[simp] theorem ty_p198 : tplaces Tryz.prog 198 = some [(0, 1), (1, 1), (2, 1), (3, 1), (4, 1), (5, 1)] := by kernel_rfl
@[simp] theorem ty_f198_0 : tfield Tryz.prog 198 0 = some (0, 57) := by kernel_rfl
@[simp] theorem ty_f198_1 : tfield Tryz.prog 198 1 = some (1, 22) := by kernel_rfl
@[simp] theorem ty_f198_2 : tfield Tryz.prog 198 2 = some (2, 22) := by kernel_rfl
@[simp] theorem ty_f198_3 : tfield Tryz.prog 198 3 = some (3, 195) := by kernel_rfl
@[simp] theorem ty_f198_4 : tfield Tryz.prog 198 4 = some (4, 3) := by kernel_rfl
@[simp] theorem ty_f198_5 : tfield Tryz.prog 198 5 = some (5, 196) := by kernel_rfl
@[simp] theorem ty_s203 : tsize Tryz.prog 203 = some 1 := by kernel_rfl
@[simp] theorem ty_a203 : tagg Tryz.prog 203 = some false := by kernel_rfl
@[simp] theorem ty_z203 : tzero Tryz.prog 203 = some [.slice none 0 0] := by kernel_rfl
@[simp] theorem ty_b203 : (Tryz.prog.info? 203).map (·.bytes) = some 24 := by kernel_rfl
@[simp] theorem ty_e203 : telem Tryz.prog 203 = some 4 := by kernel_rfl
@[simp] theorem ty_s210 : tsize Tryz.prog 210 = some 1 := by kernel_rfl
@[simp] theorem ty_a210 : tagg Tryz.prog 210 = some false := by kernel_rfl
@[simp] theorem ty_z210 : tzero Tryz.prog 210 = some [.slice none 0 0] := by kernel_rfl
@[simp] theorem ty_b210 : (Tryz.prog.info? 210).map (·.bytes) = some 24 := by kernel_rfl
@[simp] theorem ty_e210 : telem Tryz.prog 210 = some 125 := by kernel_rfl
@[simp] theorem ty_s219 : tsize Tryz.prog 219 = some 1 := by kernel_rfl
@[simp] theorem ty_a219 : tagg Tryz.prog 219 = some false := by kernel_rfl
@[simp] theorem ty_z219 : tzero Tryz.prog 219 = some [.nilFunc] := by kernel_rfl
@[simp] theorem ty_b219 : (Tryz.prog.info? 219).map (·.bytes) = some 8 := by kernel_rfl
@[simp] theorem ty_e219 : telem Tryz.prog 219 = none := by kernel_rfl
@[simp] theorem ty_s224 : tsize Tryz.prog 224 = some 1 := by kernel_rfl
@[simp] theorem ty_a224 : tagg Tryz.prog 224 = some false := by kernel_rfl
@[simp] theorem ty_z224 : tzero Tryz.prog 224 = some [.nilFunc] := by kernel_rfl
@[simp] theorem ty_b224 : (Tryz.prog.info? 224).map (·.bytes) = some 8 := by kernel_rfl
@[simp] theorem ty_e224 : telem Tryz.prog 224 = none := by kernel_rfl
@[simp] theorem ty_s227 : tsize Tryz.prog 227 = some 1 := by kernel_rfl
@[simp] theorem ty_a227 : tagg Tryz.prog 227 = some false := by kernel_rfl
@[simp] theorem ty_z227 : tzero Tryz.prog 227 = some [.nilFunc] := by kernel_rfl
@[simp] theorem ty_b227 : (Tryz.prog.info? 227).map (·.bytes) = some 8 := by kernel_rfl
@[simp] theorem ty_e227 : telem Tryz.prog 227 = none := by kernel_rfl
@[simp] theorem ty_s228 : tsize Tryz.prog 228 = some 1 := by kernel_rfl
@[simp] theorem ty_a228 : tagg Tryz.prog 228 = some true := by kernel_rfl
@[simp] theorem ty_z228 : tzero Tryz.prog 228 = some [.pointer none] := by kernel_rfl
@[simp] theorem ty_b228 : (Tryz.prog.info? 228).map (·.bytes) = some 8 := by kernel_rfl
@[simp] theorem ty_e228 : telem Tryz.prog 228 = none := by kernel_rfl
@[simp] theorem ty_p228 : tplaces Tryz.prog 228 = some [(0, 1)] := by kernel_rfl
@[simp] theorem ty_f228_0 : tfield Tryz.prog 228 0 = some (0, 56) := by kernel_rfl
@[simp] theorem ty_s229 : tsize Tryz.prog 229 = some 1 := by kernel_rfl
@[simp] theorem ty_a229 : tagg Tryz.prog 229 = some true := by kernel_rfl
@[simp] theorem ty_z229 : tzero Tryz.prog 229 = some [.pointer none] := by kernel_rfl
@[simp] theorem ty_b229 : (Tryz.prog.info? 229).map (·.bytes) = some 8 := by kernel_rfl
@[simp] theorem ty_e229 : telem Tryz.prog 229 = none := by kernel_rfl
@[simp] theorem ty_p229 : tplaces Tryz.prog 229 = some [(0, 1)] := by kernel_rfl
@[simp] theorem ty_f229_0 : tfield Tryz.prog 229 0 = some (0, 56) := by kernel_rfl
@[simp] theorem ty_s232 : tsize Tryz.prog 232 = some 1 := by kernel_rfl
@[simp] theorem ty_a232 : tagg Tryz.prog 232 = some false := by kernel_rfl
@[simp] theorem ty_z232 : tzero Tryz.prog 232 = some [.slice none 0 0] := by kernel_rfl
@[simp] theorem ty_b232 : (Tryz.prog.info? 232).map (·.bytes) = some 24 := by kernel_rfl
@[simp] theorem ty_e232 : telem Tryz.prog 232 = some 234 := by kernel_rfl
@[simp] theorem ty_s233 : tsize Tryz.prog 233 = some 2 := by kernel_rfl
@[simp] theorem ty_a233 : tagg Tryz.prog 233 = some true := by kernel_rfl
@[simp] theorem ty_z233 : tzero Tryz.prog 233 = some [.int .i64 0, .int .i64 0] := by kernel_rfl
@[simp] theorem ty_b233 : (Tryz.prog.info? 233).map (·.bytes) = some 16 := by kernel_rfl
@[simp] theorem ty_e233 : telem Tryz.prog 233 = none := by kernel_rfl
@[simp] theorem ty_p233 : tplaces Tryz.prog 233 = some [(0, 1), (1, 1)] := by kernel_rfl
@[simp] theorem ty_f233_0 : tfield Tryz.prog 233 0 = some (0, 3) := by kernel_rfl
@[simp] theorem ty_f233_1 : tfield Tryz.prog 233 1 = some (1, 3) := by kernel_rfl
@[simp] theorem ty_s234 : tsize Tryz.prog 234 = some 2 := by kernel_rfl
@[simp] theorem ty_a234 : tagg Tryz.prog 234 = some true := by kernel_rfl
@[simp] theorem ty_z234 : tzero Tryz.prog 234 = some [.int .i64 0, .int .i64 0] := by kernel_rfl
@[simp] theorem ty_b234 : (Tryz.prog.info? 234).map (·.bytes) = some 16 := by kernel_rfl
@[simp] theorem ty_e234 : telem Tryz.prog 234 = none := by kernel_rfl
@[simp] theorem ty_p234 : tplaces Tryz.prog 234 = some [(0, 1), (1, 1)] := by kernel_rfl
@[simp] theorem ty_f234_0 : tfield Tryz.prog 234 0 = some (0, 3) := by kernel_rfl
@[simp] theorem ty_f234_1 : tfield Tryz.prog 234 1 = some (1, 3) := by kernel_rfl
@[simp] theorem ty_s236 : tsize Tryz.prog 236 = some 1 := by kernel_rfl
@[simp] theorem ty_a236 : tagg Tryz.prog 236 = some false := by kernel_rfl
@[simp] theorem ty_z236 : tzero Tryz.prog 236 = some [.nilFunc] := by kernel_rfl
@[simp] theorem ty_b236 : (Tryz.prog.info? 236).map (·.bytes) = some 8 := by kernel_rfl
@[simp] theorem ty_e236 : telem Tryz.prog 236 = none := by kernel_rfl
@[simp] theorem ty_s237 : tsize Tryz.prog 237 = some 1 := by kernel_rfl
@[simp] theorem ty_a237 : tagg Tryz.prog 237 = some false := by kernel_rfl
@[simp] theorem ty_z237 : tzero Tryz.prog 237 = some [.pointer none] := by kernel_rfl
@[simp] theorem ty_b237 : (Tryz.prog.info? 237).map (·.bytes) = some 8 := by kernel_rfl
@[simp] theorem ty_e237 : telem Tryz.prog 237 = none := by kernel_rfl
@[simp] theorem ty_s249 : tsize Tryz.prog 249 = some 1 := by kernel_rfl
@[simp] theorem ty_a249 : tagg Tryz.prog 249 = some false := by kernel_rfl
@[simp] theorem ty_z249 : tzero Tryz.prog 249 = some [.nilFunc] := by kernel_rfl
@[simp] theorem ty_b249 : (Tryz.prog.info? 249).map (·.bytes) = some 8 := by kernel_rfl
@[simp] theorem ty_e249 : telem Tryz.prog 249 = none := by kernel_rfl
@[simp] theorem ty_s254 : tsize Tryz.prog 254 = some 1 := by kernel_rfl
@[simp] theorem ty_a254 : tagg Tryz.prog 254 = some false := by kernel_rfl
@[simp] theorem ty_z254 : tzero Tryz.prog 254 = some [.map none] := by kernel_rfl
@[simp] theorem ty_b254 : (Tryz.prog.info? 254).map (·.bytes) = some 8 := by kernel_rfl
@[simp] theorem ty_e254 : telem Tryz.prog 254 = none := by kernel_rfl
@[simp] theorem ty_s255 : tsize Tryz.prog 255 = some 4 := by kernel_rfl
@[simp] theorem ty_a255 : tagg Tryz.prog 255 = some true := by kernel_rfl
@[simp] theorem ty_z255 : tzero Tryz.prog 255 = some [.pointer none, .slice none 0 0, .map none, .map none] := by kernel_rfl
@[simp] theorem ty_b255 : (Tryz.prog.info? 255).map (·.bytes) = some 48 := by kernel_rfl
@[simp] theorem ty_e255 : telem Tryz.prog 255 = none := by kernel_rfl
@[simp] theorem ty_p255 : tplaces Tryz.prog 255 = some [(0, 1), (1, 1), (2, 1), (3, 1)] := by kernel_rfl
@[simp] theorem ty_f255_0 : tfield Tryz.prog 255 0 = some (0, 56) := by kernel_rfl
@[simp] theorem ty_f255_1 : tfield Tryz.prog 255 1 = some (1, 59) := by kernel_rfl
@[simp] theorem ty_f255_2 : tfield Tryz.prog 255 2 = some (2, 254) := by kernel_rfl
@[simp] theorem ty_f255_3 : tfield Tryz.prog 255 3 = some (3, 254) := by kernel_rfl
@[simp] theorem ty_s256 : tsize Tryz.prog 256 = some 4 := by kernel_rfl
@[simp] theorem ty_a256 : tagg Tryz.prog 256 = some true := by kernel_rfl
@[simp] theorem ty_z256 : tzero Tryz.prog 256 = some [.pointer none, .slice none 0 0, .map none, .map none] := by kernel_rfl
@[simp] theorem ty_b256 : (Tryz.prog.info? 256).map (·.bytes) = some 48 := by kernel_rfl
@[simp] theorem ty_e256 : telem Tryz.prog 256 = none := by kernel_rfl
@[simp] theorem ty_p256 : tplaces Tryz.prog 256 = some [(0, 1), (1, 1), (2, 1), (3, 1)] := by kernel_rfl
@[simp] theorem ty_f256_0 : tfield Tryz.prog 256 0 = some (0, 56) := by kernel_rfl
@[simp] theorem ty_f256_1 : tfield Tryz.prog 256 1 = some (1, 59) := by kernel_rfl
@[simp] theorem ty_f256_2 : tfield Tryz.prog 256 2 = some (2, 254) := by kernel_rfl
@[simp] theorem ty_f256_3 : tfield Tryz.prog 256 3 = some (3, 254) := by kernel_rfl
@[simp] theorem ty_s257 : tsize Tryz.prog 257 = some 1 := by kernel_rfl
@[simp] theorem ty_a257 : tagg Tryz.prog 257 = some false := by kernel_rfl
@[simp] theorem ty_z257 : tzero Tryz.prog 257 = some [.map none] := by kernel_rfl
@[simp] theorem ty_b257 : (Tryz.prog.info? 257).map (·.bytes) = some 8 := by kernel_rfl
@[simp] theorem ty_e257 : telem Tryz.prog 257 = none := by kernel_rfl
@[simp] theorem ty_s268 : tsize Tryz.prog 268 = some 4 := by kernel_rfl
@[simp] theorem ty_a268 : tagg Tryz.prog 268 = some true := by kernel_rfl
@[simp] theorem ty_z268 : tzero Tryz.prog 268 = some [.int .i64 0, .int .i64 0, .int .u64 0, .slice none 0 0] := by kernel_rfl
@[simp] theorem ty_b268 : (Tryz.prog.info? 268).map (·.bytes) = some 48 := by kernel_rfl
@[simp] theorem ty_e268 : telem Tryz.prog 268 = none := by kernel_rfl
@[simp] theorem ty_p268 : tplaces Tryz.prog 268 = some [(0, 3), (3, 1)] := by kernel_rfl
@[simp] theorem ty_f268_0 : tfield Tryz.prog 268 0 = some (0, 36) := by kernel_rfl
@[simp] theorem ty_f268_1 : tfield Tryz.prog 268 1 = some (3, 81) := by kernel_rfl
@[simp] theorem ty_s269 : tsize Tryz.prog 269 = some 4 := by kernel_rfl
@[simp] theorem ty_a269 : tagg Tryz.prog 269 = some true := by kernel_rfl
@[simp] theorem ty_z269 : tzero Tryz.prog 269 = some [.int .i64 0, .int .i64 0, .int .u64 0, .slice none 0 0] := by kernel_rfl
@[simp] theorem ty_b269 : (Tryz.prog.info? 269).map (·.bytes) = some 48 := by kernel_rfl
@[simp] theorem ty_e269 : telem Tryz.prog 269 = none := by kernel_rfl
@[simp] theorem ty_p269 : tplaces Tryz.prog 269 = some [(0, 3), (3, 1)] := by kernel_rfl
@[simp] theorem ty_f269_0 : tfield Tryz.prog 269 0 = some (0, 36) := by kernel_rfl
@[simp] theorem ty_f269_1 : tfield Tryz.prog 269 1 = some (3, 81) := by kernel_rfl
@[simp] theorem ty_s272 : tsize Tryz.prog 272 = some 1 := by kernel_rfl
@[simp] theorem ty_a272 : tagg Tryz.prog 272 = some false := by kernel_rfl
@[simp] theorem ty_z272 : tzero Tryz.prog 272 = some [.nilFunc] := by kernel_rfl
@[simp] theorem ty_b272 : (Tryz.prog.info? 272).map (·.bytes) = some 8 := by kernel_rfl
@[simp] theorem ty_e272 : telem Tryz.prog 272 = none := by kernel_rfl
@[simp] theorem ty_s278 : tsize Tryz.prog 278 = some 1 := by kernel_rfl
@[simp] theorem ty_a278 : tagg Tryz.prog 278 = some false := by kernel_rfl
@[simp] theorem ty_z278 : tzero Tryz.prog 278 = some [.int .u64 0] := by kernel_rfl
@[simp] theorem ty_b278 : (Tryz.prog.info? 278).map (·.bytes) = some 8 := by kernel_rfl
@[simp] theorem ty_zz278 : (Tryz.prog.info? 278).bind (·.zero) = some (.int .u64 0) := by kernel_rfl
@[simp] theorem ty_i278 : tint Tryz.prog 278 = some .u64 := by kernel_rfl
@[simp] theorem ty_e278 : telem Tryz.prog 278 = none := by kernel_rfl
@[simp] theorem ty_s281 : tsize Tryz.prog 281 = some 1 := by kernel_rfl
@[simp] theorem ty_a281 : tagg Tryz.prog 281 = some false := by kernel_rfl
@[simp] theorem ty_z281 : tzero Tryz.prog 281 = some [.pointer none] := by kernel_rfl
@[simp] theorem ty_b281 : (Tryz.prog.info? 281).map (·.bytes) = some 8 := by kernel_rfl
@[simp] theorem ty_e281 : telem Tryz.prog 281 = none := by kernel_rfl
@[simp] theorem ty_s289 : tsize Tryz.prog 289 = some 4 := by kernel_rfl
@[simp] theorem ty_a289 : tagg Tryz.prog 289 = some true := by kernel_rfl
@[simp] theorem ty_z289 : tzero Tryz.prog 289 = some [.slice none 0 0, .slice none 0 0, .slice none 0 0, .slice none 0 0] := by kernel_rfl
@[simp] theorem ty_b289 : (Tryz.prog.info? 289).map (·.bytes) = some 96 := by kernel_rfl
@[simp] theorem ty_e289 : telem Tryz.prog 289 = none := by kernel_rfl
@[simp] theorem ty_p289 : tplaces Tryz.prog 289 = some [(0, 1), (1, 1), (2, 1), (3, 1)] := by kernel_rfl
@[simp] theorem ty_f289_0 : tfield Tryz.prog 289 0 = some (0, 22) := by kernel_rfl
@[simp] theorem ty_f289_1 : tfield Tryz.prog 289 1 = some (1, 203) := by kernel_rfl
@[simp] theorem ty_f289_2 : tfield Tryz.prog 289 2 = some (2, 203) := by kernel_rfl
@[simp] theorem ty_f289_3 : tfield Tryz.prog 289 3 = some (3, 203) := by kernel_rfl
@[simp] theorem ty_s290 : tsize Tryz.prog 290 = some 4 := by kernel_rfl
@[simp] theorem ty_a290 : tagg Tryz.prog 290 = some true := by kernel_rfl
@[simp] theorem ty_z290 : tzero Tryz.prog 290 = some [.slice none 0 0, .slice none 0 0, .slice none 0 0, .slice none 0 0] := by kernel_rfl
@[simp] theorem ty_b290 : (Tryz.prog.info? 290).map (·.bytes) = some 96 := by kernel_rfl
@[simp] theorem ty_e290 : telem Tryz.prog 290 = none := by kernel_rfl
@[simp] theorem ty_p290 : tplaces Tryz.prog 290 = some [(0, 1), (1, 1), (2, 1), (3, 1)] := by kernel_rfl
@[simp] theorem ty_f290_0 : tfield Tryz.prog 290 0 = some (0, 22) := by kernel_rfl
@[simp] theorem ty_f290_1 : tfield Tryz.prog 290 1 = some (1, 203) := by kernel_rfl
@[simp] theorem ty_f290_2 : tfield Tryz.prog 290 2 = some (2, 203) := by kernel_rfl
@[simp] theorem ty_f290_3 : tfield Tryz.prog 290 3 = some (3, 203) := by kernel_rfl
@[simp] theorem ty_s311 : tsize Tryz.prog 311 = some 14 := by kernel_rfl
@[simp] theorem ty_a311 : tagg Tryz.prog 311 = some true := by kernel_rfl
@[simp] theorem ty_z311 : tzero Tryz.prog 311 = some [.int .i64 0, .int .i64 0, .int .i64 0, .int .i64 0, .int .i64 0, .int .i64 0, .int .i64 0, .int .i64 0, .int .i64 0, .int .i64 0, .int .i64 0, .int .i64 0, .int .i64 0, .int .i64 0] := by kernel_rfl
@[simp] theorem ty_b311 : (Tryz.prog.info? 311).map (·.bytes) = some 112 := by kernel_rfl
@[simp] theorem ty_e311 : telem Tryz.prog 311 = none := by kernel_rfl
@[simp] theorem ty_r311 : tarr Tryz.prog 311 = some (14, 3) := by kernel_rfl
@[simp] theorem ty_s314 : tsize Tryz.prog 314 = some 1 := by kernel_rfl
@[simp] theorem ty_a314 : tagg Tryz.prog 314 = some false := by kernel_rfl
@[simp] theorem ty_z314 : tzero Tryz.prog 314 = some [.pointer none] := by kernel_rfl
@[simp] theorem ty_b314 : (Tryz.prog.info? 314).map (·.bytes) = some 8 := by kernel_rfl
@[simp] theorem ty_e314 : telem Tryz.prog 314 = none := by kernel_rfl
@[simp] theorem ty_s321 : tsize Tryz.prog 321 = some 1 := by kernel_rfl
@[simp] theorem ty_a321 : tagg Tryz.prog 321 = some false := by kernel_rfl
@[simp] theorem ty_z321 : tzero Tryz.prog 321 = some [.map none] := by kernel_rfl
@[simp] theorem ty_b321 : (Tryz.prog.info? 321).map (·.bytes) = some 8 := by kernel_rfl
@[simp] theorem ty_e321 : telem Tryz.prog 321 = none := by kernel_rfl
@[simp] theorem ty_s323 : tsize Tryz.prog 323 = some 1 := by kernel_rfl
@[simp] theorem ty_a323 : tagg Tryz.prog 323 = some false := by kernel_rfl
@[simp] theorem ty_z323 : tzero Tryz.prog 323 = some [.nilFunc] := by kernel_rfl
@[simp] theorem ty_b323 : (Tryz.prog.info? 323).map (·.bytes) = some 8 := by kernel_rfl
@[simp] theorem ty_e323 : telem Tryz.prog 323 = none := by kernel_rfl
@[simp] theorem ty_s325 : tsize Tryz.prog 325 = some 1 := by kernel_rfl
@[simp] theorem ty_a325 : tagg Tryz.prog 325 = some false := by kernel_rfl
@[simp] theorem ty_z325 : tzero Tryz.prog 325 = some [.map none] := by kernel_rfl
@[simp] theorem ty_b325 : (Tryz.prog.info? 325).map (·.bytes) = some 8 := by kernel_rfl
@[simp] theorem ty_e325 : telem Tryz.prog 325 = none := by kernel_rfl
@[simp] theorem ty_s326 : tsize Tryz.prog 326 = some 1 := by kernel_rfl
@[simp] theorem ty_a326 : tagg Tryz.prog 326 = some false := by kernel_rfl
@[simp] theorem ty_z326 : tzero Tryz.prog 326 = some [.map none] := by kernel_rfl
@[simp] theorem ty_b326 : (Tryz.prog.info? 326).map (·.bytes) = some 8 := by kernel_rfl
@[simp] theorem ty_e326 : telem Tryz.prog 326 = none := by kernel_rfl
@[simp] theorem ty_s327 : tsize Tryz.prog 327 = some 1 := by kernel_rfl
@[simp] theorem ty_a327 : tagg Tryz.prog 327 = some false := by kernel_rfl
@[simp] theorem ty_z327 : tzero Tryz.prog 327 = some [.map none] := by kernel_rfl
@[simp] theorem ty_b327 : (Tryz.prog.info? 327).map (·.bytes) = some 8 := by kernel_rfl
@[simp] theorem ty_e327 : telem Tryz.prog 327 = none := by kernel_rfl
@[simp] theorem ty_s328 : tsize Tryz.prog 328 = some 5 := by kernel_rfl
@[simp] theorem ty_a328 : tagg Tryz.prog 328 = some true := by kernel_rfl
@[simp] theorem ty_z328 : tzero Tryz.prog 328 = some [.map none, .map none, .map none, .map none, .int .i64 0] := by kernel_rfl
@[simp] theorem ty_b328 : (Tryz.prog.info? 328).map (·.bytes) = some 40 := by kernel_rfl
@[simp] theorem ty_e328 : telem Tryz.prog 328 = none := by kernel_rfl
@[simp] theorem ty_p328 : tplaces Tryz.prog 328 = some [(0, 1), (1, 1), (2, 1), (3, 1), (4, 1)] := by kernel_rfl
@[simp] theorem ty_f328_0 : tfield Tryz.prog 328 0 = some (0, 325) := by kernel_rfl
@[simp] theorem ty_f328_1 : tfield Tryz.prog 328 1 = some (1, 326) := by kernel_rfl
@[simp] theorem ty_f328_2 : tfield Tryz.prog 328 2 = some (2, 326) := by kernel_rfl
@[simp] theorem ty_f328_3 : tfield Tryz.prog 328 3 = some (3, 327) := by kernel_rfl
@[simp] theorem ty_f328_4 : tfield Tryz.prog 328 4 = some (4, 3) := by kernel_rfl
@[simp] theorem ty_s329 : tsize Tryz.prog 329 = some 5 := by kernel_rfl
@[simp] theorem ty_a329 : tagg Tryz.prog 329 = some true := by kernel_rfl
@[simp] theorem ty_z329 : tzero Tryz.prog 329 = some [.map none, .map none, .map none, .map none, .int .i64 0] := by kernel_rfl
@[simp] theorem ty_b329 : (Tryz.prog.info? 329).map (·.bytes) = some 40 := by kernel_rfl
@[simp] theorem ty_e329 : telem Tryz.prog 329 = none := by kernel_rfl
@[simp] theorem ty_p329 : tplaces Tryz.prog 329 = some [(0, 1), (1, 1), (2, 1), (3, 1), (4, 1)] := by kernel_rfl
@[simp] theorem ty_f329_0 : tfield Tryz.prog 329 0 = some (0, 325) := by kernel_rfl
@[simp] theorem ty_f329_1 : tfield Tryz.prog 329 1 = some (1, 326) := by kernel_rfl
@[simp] theorem ty_f329_2 : tfield Tryz.prog 329 2 = some (2, 326) := by kernel_rfl
@[simp] theorem ty_f329_3 : tfield Tryz.prog 329 3 = some (3, 327) := by kernel_rfl
@[simp] theorem ty_f329_4 : tfield Tryz.prog 329 4 = some (4, 3) := by kernel_rfl
@[simp] theorem ty_s330 : tsize Tryz.prog 330 = some 1 := by kernel_rfl
@[simp] theorem ty_a330 : tagg Tryz.prog 330 = some false := by kernel_rfl
@[simp] theorem ty_z330 : tzero Tryz.prog 330 = some [.nilFunc] := by kernel_rfl
@[simp] theorem ty_b330 : (Tryz.prog.info? 330).map (·.bytes) = some 8 := by kernel_rfl
@[simp] theorem ty_e330 : telem Tryz.prog 330 = none := by kernel_rfl
@[simp] theorem ty_s331 : tsize Tryz.prog 331 = some 14 := by kernel_rfl
@[simp] theorem ty_a331 : tagg Tryz.prog 331 = some true := by kernel_rfl
@[simp] theorem ty_z331 : tzero Tryz.prog 331 = some [.nilFunc, .nilFunc, .nilFunc, .nilFunc, .nilFunc, .nilFunc, .nilFunc, .nilFunc, .nilFunc, .nilFunc, .nilFunc, .nilFunc, .nilFunc, .nilFunc] := by kernel_rfl
@[simp] theorem ty_b331 : (Tryz.prog.info? 331).map (·.bytes) = some 112 := by kernel_rfl
@[simp] theorem ty_e331 : telem Tryz.prog 331 = none := by kernel_rfl
@[simp] theorem ty_r331 : tarr Tryz.prog 331 = some (14, 330) := by kernel_rfl
@[simp] theorem ty_s332 : tsize Tryz.prog 332 = some 1 := by kernel_rfl
@[simp] theorem ty_a332 : tagg Tryz.prog 332 = some false := by kernel_rfl
@[simp] theorem ty_z332 : tzero Tryz.prog 332 = some [.pointer none] := by kernel_rfl
@[simp] theorem ty_b332 : (Tryz.prog.info? 332).map (·.bytes) = some 8 := by kernel_rfl
@[simp] theorem ty_e332 : telem Tryz.prog 332 = none := by kernel_rfl
@[simp] theorem ty_s334 : tsize Tryz.prog 334 = some 1 := by kernel_rfl
@[simp] theorem ty_a334 : tagg Tryz.prog 334 = some false := by kernel_rfl
@[simp] theorem ty_z334 : tzero Tryz.prog 334 = some [.pointer none] := by kernel_rfl
@[simp] theorem ty_b334 : (Tryz.prog.info? 334).map (·.bytes) = some 8 := by kernel_rfl
@[simp] theorem ty_e334 : telem Tryz.prog 334 = none := by kernel_rfl
@[simp] theorem ty_s335 : tsize Tryz.prog 335 = some 2 := by kernel_rfl
@[simp] theorem ty_a335 : tagg Tryz.prog 335 = some true := by kernel_rfl
@[simp] theorem ty_z335 : tzero Tryz.prog 335 = some [.int .i64 0, .pointer none] := by kernel_rfl
@[simp] theorem ty_b335 : (Tryz.prog.info? 335).map (·.bytes) = some 16 := by kernel_rfl
@[simp] theorem ty_e335 : telem Tryz.prog 335 = none := by kernel_rfl
@[simp] theorem ty_p335 : tplaces Tryz.prog 335 = some [(0, 1), (1, 1)] := by kernel_rfl
@[simp] theorem ty_f335_0 : tfield Tryz.prog 335 0 = some (0, 3) := by kernel_rfl
@[simp] theorem ty_f335_1 : tfield Tryz.prog 335 1 = some (1, 334) := by kernel_rfl
@[simp] theorem ty_s336 : tsize Tryz.prog 336 = some 2 := by kernel_rfl
@[simp] theorem ty_a336 : tagg Tryz.prog 336 = some true := by kernel_rfl
@[simp] theorem ty_z336 : tzero Tryz.prog 336 = some [.int .i64 0, .pointer none] := by kernel_rfl
@[simp] theorem ty_b336 : (Tryz.prog.info? 336).map (·.bytes) = some 16 := by kernel_rfl
@[simp] theorem ty_e336 : telem Tryz.prog 336 = none := by kernel_rfl
@[simp] theorem ty_p336 : tplaces Tryz.prog 336 = some [(0, 1), (1, 1)] := by kernel_rfl
@[simp] theorem ty_f336_0 : tfield Tryz.prog 336 0 = some (0, 3) := by kernel_rfl
@[simp] theorem ty_f336_1 : tfield Tryz.prog 336 1 = some (1, 334) := by kernel_rfl
@[simp] theorem ty_s337 : tsize Tryz.prog 337 = some 1 := by kernel_rfl
@[simp] theorem ty_a337 : tagg Tryz.prog 337 = some false := by kernel_rfl
@[simp] theorem ty_z337 : tzero Tryz.prog 337 = some [.map none] := by kernel_rfl
@[simp] theorem ty_b337 : (Tryz.prog.info? 337).map (·.bytes) = some 8 := by kernel_rfl
@[simp] theorem ty_e337 : telem Tryz.prog 337 = none := by kernel_rfl
@[simp] theorem ty_s338 : tsize Tryz.prog 338 = some 9 := by kernel_rfl
@[simp] theorem ty_a338 : tagg Tryz.prog 338 = some true := by kernel_rfl
@[simp] theorem ty_z338 : tzero Tryz.prog 338 = some [.int .i64 0, .int .i64 0, .int .u64 0, .slice none 0 0, .int .i64 0, .int .i64 0, .map none, .bool false, .int .i64 0] := by kernel_rfl
@[simp] theorem ty_b338 : (Tryz.prog.info? 338).map (·.bytes) = some 88 := by kernel_rfl
@[simp] theorem ty_e338 : telem Tryz.prog 338 = none := by kernel_rfl
@[simp] theorem ty_p338 : tplaces Tryz.prog 338 = some [(0, 3), (3, 1), (4, 1), (5, 1), (6, 1), (7, 1), (8, 1)] := by kernel_rfl
@[simp] theorem ty_f338_0 : tfield Tryz.prog 338 0 = some (0, 36) := by kernel_rfl
@[simp] theorem ty_f338_1 : tfield Tryz.prog 338 1 = some (3, 22) := by kernel_rfl
@[simp] theorem ty_f338_2 : tfield Tryz.prog 338 2 = some (4, 3) := by kernel_rfl
@[simp] theorem ty_f338_3 : tfield Tryz.prog 338 3 = some (5, 3) := by kernel_rfl
@[simp] theorem ty_f338_4 : tfield Tryz.prog 338 4 = some (6, 337) := by kernel_rfl
@[simp] theorem ty_f338_5 : tfield Tryz.prog 338 5 = some (7, 4) := by kernel_rfl
@[simp] theorem ty_f338_6 : tfield Tryz.prog 338 6 = some (8, 3) := by kernel_rfl
@[simp] theorem ty_s339 : tsize Tryz.prog 339 = some 9 := by kernel_rfl
@[simp] theorem ty_a339 : tagg Tryz.prog 339 = some true := by kernel_rfl
@[simp] theorem ty_z339 : tzero Tryz.prog 339 = some [.int .i64 0, .int .i64 0, .int .u64 0, .slice none 0 0, .int .i64 0, .int .i64 0, .map none, .bool false, .int .i64 0] := by kernel_rfl
@[simp] theorem ty_b339 : (Tryz.prog.info? 339).map (·.bytes) = some 88 := by kernel_rfl
@[simp] theorem ty_e339 : telem Tryz.prog 339 = none := by kernel_rfl
@[simp] theorem ty_p339 : tplaces Tryz.prog 339 = some [(0, 3), (3, 1), (4, 1), (5, 1), (6, 1), (7, 1), (8, 1)] := by kernel_rfl
@[simp] theorem ty_f339_0 : tfield Tryz.prog 339 0 = some (0, 36) := by kernel_rfl
@[simp] theorem ty_f339_1 : tfield Tryz.prog 339 1 = some (3, 22) := by kernel_rfl
@[simp] theorem ty_f339_2 : tfield Tryz.prog 339 2 = some (4, 3) := by kernel_rfl
@[simp] theorem ty_f339_3 : tfield Tryz.prog 339 3 = some (5, 3) := by kernel_rfl
@[simp] theorem ty_f339_4 : tfield Tryz.prog 339 4 = some (6, 337) := by kernel_rfl
@[simp] theorem ty_f339_5 : tfield Tryz.prog 339 5 = some (7, 4) := by kernel_rfl
@[simp] theorem ty_f339_6 : tfield Tryz.prog 339 6 = some (8, 3) := by kernel_rfl
@[simp] theorem ty_s342 : tsize Tryz.prog 342 = some 2 := by kernel_rfl
@[simp] theorem ty_a342 : tagg Tryz.prog 342 = some true := by kernel_rfl
@[simp] theorem ty_z342 : tzero Tryz.prog 342 = some [.int .i64 0, .int .i64 0] := by kernel_rfl
@[simp] theorem ty_b342 : (Tryz.prog.info? 342).map (·.bytes) = some 16 := by kernel_rfl
@[simp] theorem ty_e342 : telem Tryz.prog 342 = none := by kernel_rfl
@[simp] theorem ty_p342 : tplaces Tryz.prog 342 = some [(0, 1), (1, 1)] := by kernel_rfl
@[simp] theorem ty_f342_0 : tfield Tryz.prog 342 0 = some (0, 3) := by kernel_rfl
@[simp] theorem ty_f342_1 : tfield Tryz.prog 342 1 = some (1, 3) := by kernel_rfl
@[simp] theorem ty_s343 : tsize Tryz.prog 343 = some 2 := by kernel_rfl
@[simp] theorem ty_a343 : tagg Tryz.prog 343 = some true := by kernel_rfl
@[simp] theorem ty_z343 : tzero Tryz.prog 343 = some [.int .i64 0, .int .i64 0] := by kernel_rfl
@[simp] theorem ty_b343 : (Tryz.prog.info? 343).map (·.bytes) = some 16 := by kernel_rfl
@[simp] theorem ty_e343 : telem Tryz.prog 343 = none := by kernel_rfl
@[simp] theorem ty_p343 : tplaces Tryz.prog 343 = some [(0, 1), (1, 1)] := by kernel_rfl
@[simp] theorem ty_f343_0 : tfield Tryz.prog 343 0 = some (0, 3) := by kernel_rfl
@[simp] theorem ty_f343_1 : tfield Tryz.prog 343 1 = some (1, 3) := by kernel_rfl
@[simp] theorem ty_s348 : tsize Tryz.prog 348 = some 1 := by kernel_rfl
@[simp] theorem ty_a348 : tagg Tryz.prog 348 = some false := by kernel_rfl
@[simp] theorem ty_z348 : tzero Tryz.prog 348 = some [.nilFunc] := by kernel_rfl
@[simp] theorem ty_b348 : (Tryz.prog.info? 348).map (·.bytes) = some 8 := by kernel_rfl
@[simp] theorem ty_e348 : telem Tryz.prog 348 = none := by kernel_rfl
@[simp] theorem ty_s349 : tsize Tryz.prog 349 = some 1 := by kernel_rfl
@[simp] theorem ty_a349 : tagg Tryz.prog 349 = some false := by kernel_rfl
@[simp] theorem ty_z349 : tzero Tryz.prog 349 = some [.nilFunc] := by kernel_rfl
@[simp] theorem ty_b349 : (Tryz.prog.info? 349).map (·.bytes) = some 8 := by kernel_rfl
@[simp] theorem ty_e349 : telem Tryz.prog 349 = none := by kernel_rfl
@[simp] theorem ty_s377 : tsize Tryz.prog 377 = some 11 := by kernel_rfl
@[simp] theorem ty_a377 : tagg Tryz.prog 377 = some true := by kernel_rfl
@[simp] theorem ty_z377 : tzero Tryz.prog 377 = some [.int .i64 0, .int .i64 0, .bool false, .int .i64 0, .int .i64 0, .int .u64 0, .slice none 0 0, .int .i64 0, .int .i64 0, .bool false, .int .i64 0] := by kernel_rfl
@[simp] theorem ty_b377 : (Tryz.prog.info? 377).map (·.bytes) = some 104 := by kernel_rfl
@[simp] theorem ty_e377 : telem Tryz.prog 377 = none := by kernel_rfl
@[simp] theorem ty_p377 : tplaces Tryz.prog 377 = some [(0, 1), (1, 1), (2, 1), (3, 3), (6, 1), (7, 1), (8, 1), (9, 1), (10, 1)] := by kernel_rfl
@[simp] theorem ty_f377_0 : tfield Tryz.prog 377 0 = some (0, 3) := by kernel_rfl
@[simp] theorem ty_f377_1 : tfield Tryz.prog 377 1 = some (1, 3) := by kernel_rfl
@[simp] theorem ty_f377_2 : tfield Tryz.prog 377 2 = some (2, 4) := by kernel_rfl
@[simp] theorem ty_f377_3 : tfield Tryz.prog 377 3 = some (3, 36) := by kernel_rfl
@[simp] theorem ty_f377_4 : tfield Tryz.prog 377 4 = some (6, 22) := by kernel_rfl
@[simp] theorem ty_f377_5 : tfield Tryz.prog 377 5 = some (7, 3) := by kernel_rfl
@[simp] theorem ty_f377_6 : tfield Tryz.prog 377 6 = some (8, 3) := by kernel_rfl
@[simp] theorem ty_f377_7 : tfield Tryz.prog 377 7 = some (9, 4) := by kernel_rfl
@[simp] theorem ty_f377_8 : tfield Tryz.prog 377 8 = some (10, 3) := by kernel_rfl
@[simp] theorem ty_s378 : tsize Tryz.prog 378 = some 11 := by kernel_rfl
@[simp] theorem ty_a378 : tagg Tryz.prog 378 = some true := by kernel_rfl
@[simp] theorem ty_z378 : tzero Tryz.prog 378 = some [.int .i64 0, .int .i64 0, .bool false, .int .i64 0, .int .i64 0, .int .u64 0, .slice none 0 0, .int .i64 0, .int .i64 0, .bool false, .int .i64 0] := by kernel_rfl
@[simp] theorem ty_b378 : (Tryz.prog.info? 378).map (·.bytes) = some 104 := by kernel_rfl
@[simp] theorem ty_e378 : telem Tryz.prog 378 = none := by kernel_rfl
@[simp] theorem ty_p378 : tplaces Tryz.prog 378 = some [(0, 1), (1, 1), (2, 1), (3, 3), (6, 1), (7, 1), (8, 1), (9, 1), (10, 1)] := by kernel_rfl
@[simp] theorem ty_f378_0 : tfield Tryz.prog 378 0 = some (0, 3) := by kernel_rfl
@[simp] theorem ty_f378_1 : tfield Tryz.prog 378 1 = some (1, 3) := by kernel_rfl
@[simp] theorem ty_f378_2 : tfield Tryz.prog 378 2 = some (2, 4) := by kernel_rfl
@[simp] theorem ty_f378_3 : tfield Tryz.prog 378 3 = some (3, 36) := by kernel_rfl
@[simp] theorem ty_f378_4 : tfield Tryz.prog 378 4 = some (6, 22) := by kernel_rfl
@[simp] theorem ty_f378_5 : tfield Tryz.prog 378 5 = some (7, 3) := by kernel_rfl
@[simp] theorem ty_f378_6 : tfield Tryz.prog 378 6 = some (8, 3) := by kernel_rfl
@[simp] theorem ty_f378_7 : tfield Tryz.prog 378 7 = some (9, 4) := by kernel_rfl
@[simp] theorem ty_f378_8 : tfield Tryz.prog 378 8 = some (10, 3) := by kernel_rfl
@[simp] theorem ty_s389 : tsize Tryz.prog 389 = some 1 := by kernel_rfl
@[simp] theorem ty_a389 : tagg Tryz.prog 389 = some false := by kernel_rfl
@[simp] theorem ty_z389 : tzero Tryz.prog 389 = some [.nilFunc] := by kernel_rfl
@[simp] theorem ty_b389 : (Tryz.prog.info? 389).map (·.bytes) = some 8 := by kernel_rfl
@[simp] theorem ty_e389 : telem Tryz.prog 389 = none := by kernel_rfl
@[simp] theorem ty_s390 : tsize Tryz.prog 390 = some 1 := by kernel_rfl
@[simp] theorem ty_a390 : tagg Tryz.prog 390 = some false := by kernel_rfl
@[simp] theorem ty_z390 : tzero Tryz.prog 390 = some [.nilFunc] := by kernel_rfl
@[simp] theorem ty_b390 : (Tryz.prog.info? 390).map (·.bytes) = some 8 := by kernel_rfl
@[simp] theorem ty_e390 : telem Tryz.prog 390 = none := by kernel_rfl
@[simp] theorem ty_s391 : tsize Tryz.prog 391 = some 1 := by kernel_rfl
@[simp] theorem ty_a391 : tagg Tryz.prog 391 = some false := by kernel_rfl
@[simp] theorem ty_z391 : tzero Tryz.prog 391 = some [.nilFunc] := by kernel_rfl
@[simp] theorem ty_b391 : (Tryz.prog.info? 391).map (·.bytes) = some 8 := by kernel_rfl
@[simp] theorem ty_e391 : telem Tryz.prog 391 = none := by kernel_rfl
@[simp] theorem ty_s398 : tsize Tryz.prog 398 = some 1 := by kernel_rfl
@[simp] theorem ty_a398 : tagg Tryz.prog 398 = some false := by kernel_rfl
@[simp] theorem ty_z398 : tzero Tryz.prog 398 = some [.nilFunc] := by kernel_rfl
@[simp] theorem ty_b398 : (Tryz.prog.info? 398).map (·.bytes) = some 8 := by kernel_rfl
@[simp] theorem ty_e398 : telem Tryz.prog 398 = none := by kernel_rfl
@[simp] theorem ty_s399 : tsize Tryz.prog 399 = some 1 := by kernel_rfl
@[simp] theorem ty_a399 : tagg Tryz.prog 399 = some false := by kernel_rfl
@[simp] theorem ty_z399 : tzero Tryz.prog 399 = some [.nilFunc] := by kernel_rfl
@[simp] theorem ty_b399 : (Tryz.prog.info? 399).map (·.bytes) = some 8 := by kernel_rfl
@[simp] theorem ty_e399 : telem Tryz.prog 399 = none := by kernel_rfl
@[simp] theorem ty_s401 : tsize Tryz.prog 401 = some 1 := by kernel_rfl
@[simp] theorem ty_a401 : tagg Tryz.prog 401 = some true := by kernel_rfl
@[simp] theorem ty_z401 : tzero Tryz.prog 401 = some [.slice none 0 0] := by kernel_rfl
@[simp] theorem ty_b401 : (Tryz.prog.info? 401).map (·.bytes) = some 24 := by kernel_rfl
@[simp] theorem ty_e401 : telem Tryz.prog 401 = none := by kernel_rfl
@[simp] theorem ty_p401 : tplaces Tryz.prog 401 = some [(0, 1)] := by kernel_rfl
@[simp] theorem ty_f401_0 : tfield Tryz.prog 401 0 = some (0, 81) := by kernel_rfl
@[simp] theorem ty_s402 : tsize Tryz.prog 402 = some 1 := by kernel_rfl
@[simp] theorem ty_a402 : tagg Tryz.prog 402 = some true := by kernel_rfl
@[simp] theorem ty_z402 : tzero Tryz.prog 402 = some [.slice none 0 0] := by kernel_rfl
@[simp] theorem ty_b402 : (Tryz.prog.info? 402).map (·.bytes) = some 24 := by kernel_rfl
@[simp] theorem ty_e402 : telem Tryz.prog 402 = none := by kernel_rfl
@[simp] theorem ty_p402 : tplaces Tryz.prog 402 = some [(0, 1)] := by kernel_rfl
@[simp] theorem ty_f402_0 : tfield Tryz.prog 402 0 = some (0, 81) := by kernel_rfl
@[simp] theorem ty_s404 : tsize Tryz.prog 404 = some 1 := by kernel_rfl
@[simp] theorem ty_a404 : tagg Tryz.prog 404 = some false := by kernel_rfl
@[simp] theorem ty_z404 : tzero Tryz.prog 404 = some [.nilFunc] := by kernel_rfl
@[simp] theorem ty_b404 : (Tryz.prog.info? 404).map (·.bytes) = some 8 := by kernel_rfl
@[simp] theorem ty_e404 : telem Tryz.prog 404 = none := by kernel_rfl
@[simp] theorem ty_s405 : tsize Tryz.prog 405 = some 1 := by kernel_rfl
@[simp] theorem ty_a405 : tagg Tryz.prog 405 = some false := by kernel_rfl
@[simp] theorem ty_z405 : tzero Tryz.prog 405 = some [.nilFunc] := by kernel_rfl
@[simp] theorem ty_b405 : (Tryz.prog.info? 405).map (·.bytes) = some 8 := by kernel_rfl
@[simp] theorem ty_e405 : telem Tryz.prog 405 = none := by kernel_rfl
@[simp] theorem ty_s409 : tsize Tryz.prog 409 = some 1 := by kernel_rfl
@[simp] theorem ty_a409 : tagg Tryz.prog 409 = some false := by kernel_rfl
@[simp] theorem ty_z409 : tzero Tryz.prog 409 = some [.nilFunc] := by kernel_rfl
@[simp] theorem ty_b409 : (Tryz.prog.info? 409).map (·.bytes) = some 8 := by kernel_rfl
@[simp] theorem ty_e409 : telem Tryz.prog 409 = none := by kernel_rfl
@[simp] theorem ty_s414 : tsize Tryz.prog 414 = some 1 := by kernel_rfl
@[simp] theorem ty_a414 : tagg Tryz.prog 414 = some false := by kernel_rfl
@[simp] theorem ty_z414 : tzero Tryz.prog 414 = some [.nilFunc] := by kernel_rfl
@[simp] theorem ty_b414 : (Tryz.prog.info? 414).map (·.bytes) = some 8 := by kernel_rfl
@[simp] theorem ty_e414 : telem Tryz.prog 414 = none := by kernel_rfl
@[simp] theorem ty_s432 : tsize Tryz.prog 432 = some 6 := by kernel_rfl
@[simp] theorem ty_a432 : tagg Tryz.prog 432 = some true := by kernel_rfl
@[simp] theorem ty_z432 : tzero Tryz.prog 432 = some [.int .i64 0, .int .i64 0, .int .u64 0, .int .i64 0, .int .i64 0, .int .i64 0] := by kernel_rfl
@[simp] theorem ty_b432 : (Tryz.prog.info? 432).map (·.bytes) = some 48 := by kernel_rfl
@[simp] theorem ty_e432 : telem Tryz.prog 432 = none := by kernel_rfl
@[simp] theorem ty_p432 : tplaces Tryz.prog 432 = some [(0, 3), (3, 1), (4, 1), (5, 1)] := by kernel_rfl
@[simp] theorem ty_f432_0 : tfield Tryz.prog 432 0 = some (0, 36) := by kernel_rfl
@[simp] theorem ty_f432_1 : tfield Tryz.prog 432 1 = some (3, 3) := by kernel_rfl
@[simp] theorem ty_f432_2 : tfield Tryz.prog 432 2 = some (4, 3) := by kernel_rfl
@[simp] theorem ty_f432_3 : tfield Tryz.prog 432 3 = some (5, 3) := by kernel_rfl
@[simp] theorem ty_s433 : tsize Tryz.prog 433 = some 6 := by kernel_rfl
@[simp] theorem ty_a433 : tagg Tryz.prog 433 = some true := by kernel_rfl
@[simp] theorem ty_z433 : tzero Tryz.prog 433 = some [.int .i64 0, .int .i64 0, .int .u64 0, .int .i64 0, .int .i64 0, .int .i64 0] := by kernel_rfl
@[simp] theorem ty_b433 : (Tryz.prog.info? 433).map (·.bytes) = some 48 := by kernel_rfl
@[simp] theorem ty_e433 : telem Tryz.prog 433 = none := by kernel_rfl
@[simp] theorem ty_p433 : tplaces Tryz.prog 433 = some [(0, 3), (3, 1), (4, 1), (5, 1)] := by kernel_rfl
@[simp] theorem ty_f433_0 : tfield Tryz.prog 433 0 = some (0, 36) := by kernel_rfl
@[simp] theorem ty_f433_1 : tfield Tryz.prog 433 1 = some (3, 3) := by kernel_rfl
@[simp] theorem ty_f433_2 : tfield Tryz.prog 433 2 = some (4, 3) := by kernel_rfl
@[simp] theorem ty_f433_3 : tfield Tryz.prog 433 3 = some (5, 3) := by kernel_rfl
@[simp] theorem ty_s438 : tsize Tryz.prog 438 = some 2 := by kernel_rfl
@[simp] theorem ty_a438 : tagg Tryz.prog 438 = some true := by kernel_rfl
@[simp] theorem ty_z438 : tzero Tryz.prog 438 = some [.int .u64 0, .int .u64 0] := by kernel_rfl
@[simp] theorem ty_b438 : (Tryz.prog.info? 438).map (·.bytes) = some 16 := by kernel_rfl
@[simp] theorem ty_e438 : telem Tryz.prog 438 = none := by kernel_rfl
@[simp] theorem ty_p438 : tplaces Tryz.prog 438 = some [(0, 1), (1, 1)] := by kernel_rfl
@[simp] theorem ty_f438_0 : tfield Tryz.prog 438 0 = some (0, 34) := by kernel_rfl
@[simp] theorem ty_f438_1 : tfield Tryz.prog 438 1 = some (1, 34) := by kernel_rfl
@[simp] theorem ty_s439 : tsize Tryz.prog 439 = some 2 := by kernel_rfl
@[simp] theorem ty_a439 : tagg Tryz.prog 439 = some true := by kernel_rfl
@[simp] theorem ty_z439 : tzero Tryz.prog 439 = some [.int .u64 0, .int .u64 0] := by kernel_rfl
@[simp] theorem ty_b439 : (Tryz.prog.info? 439).map (·.bytes) = some 16 := by kernel_rfl
@[simp] theorem ty_e439 : telem Tryz.prog 439 = none := by kernel_rfl
@[simp] theorem ty_p439 : tplaces Tryz.prog 439 = some [(0, 1), (1, 1)] := by kernel_rfl
@[simp] theorem ty_f439_0 : tfield Tryz.prog 439 0 = some (0, 34) := by kernel_rfl
@[simp] theorem ty_f439_1 : tfield Tryz.prog 439 1 = some (1, 34) := by kernel_rfl
end Go.Proofs.YtjbbgjbknfoddaaGreatDoor
