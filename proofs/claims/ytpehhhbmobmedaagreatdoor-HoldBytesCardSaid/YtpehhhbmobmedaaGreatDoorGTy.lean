/- What the types of the translation are: facts that the kernel reckons. -/
import Derived.Test.YtpehhhbmobmedaaGreatDoorGQ
import Derived.Test.YtpehhhbmobmedaaGreatDoorRows
namespace Go.Proofs.YtpehhhbmobmedaaGreatDoor
set_option linter.unusedVariables false
set_option linter.unusedSimpArgs false
set_option linter.unusedSectionVars false
@[simp] theorem ty_s3:tsize Tryz.prog 3 = some 1:=by kernel_rfl
@[simp] theorem ty_a3:tagg Tryz.prog 3 = some false:=by kernel_rfl
@[simp] theorem ty_z3:tzero Tryz.prog 3 = some [.int .i64 0]:=by kernel_rfl
@[simp] theorem ty_b3:(Tryz.prog.info? 3).map (·.bytes) = some 8:=by kernel_rfl
@[simp] theorem ty_zz3:(Tryz.prog.info? 3).bind (·.zero) = some (.int .i64 0):=by kernel_rfl
@[simp] theorem ty_i3:tint Tryz.prog 3 = some .i64:=by kernel_rfl
@[simp] theorem ty_e3:telem Tryz.prog 3 = none:=by kernel_rfl
@[simp] theorem ty_s4:tsize Tryz.prog 4 = some 1:=by kernel_rfl
@[simp] theorem ty_a4:tagg Tryz.prog 4 = some false:=by kernel_rfl
@[simp] theorem ty_z4:tzero Tryz.prog 4 = some [.bool false]:=by kernel_rfl
@[simp] theorem ty_b4:(Tryz.prog.info? 4).map (·.bytes) = some 1:=by kernel_rfl
@[simp] theorem ty_e4:telem Tryz.prog 4 = none:=by kernel_rfl
@[simp] theorem ty_s5:tsize Tryz.prog 5 = some 1:=by kernel_rfl
@[simp] theorem ty_a5:tagg Tryz.prog 5 = some false:=by kernel_rfl
@[simp] theorem ty_z5:tzero Tryz.prog 5 = some [.int .u8 0]:=by kernel_rfl
@[simp] theorem ty_b5:(Tryz.prog.info? 5).map (·.bytes) = some 1:=by kernel_rfl
@[simp] theorem ty_zz5:(Tryz.prog.info? 5).bind (·.zero) = some (.int .u8 0):=by kernel_rfl
@[simp] theorem ty_i5:tint Tryz.prog 5 = some .u8:=by kernel_rfl
@[simp] theorem ty_e5:telem Tryz.prog 5 = none:=by kernel_rfl
@[simp] theorem ty_s9:tsize Tryz.prog 9 = some 1:=by kernel_rfl
@[simp] theorem ty_a9:tagg Tryz.prog 9 = some false:=by kernel_rfl
@[simp] theorem ty_z9:tzero Tryz.prog 9 = some [.string ⟨#[]⟩]:=by kernel_rfl
@[simp] theorem ty_b9:(Tryz.prog.info? 9).map (·.bytes) = some 16:=by kernel_rfl
@[simp] theorem ty_t9:tstr Tryz.prog 9 = true:=by kernel_rfl
@[simp] theorem ty_e9:telem Tryz.prog 9 = none:=by kernel_rfl
@[simp] theorem ty_s22:tsize Tryz.prog 22 = some 1:=by kernel_rfl
@[simp] theorem ty_a22:tagg Tryz.prog 22 = some false:=by kernel_rfl
@[simp] theorem ty_z22:tzero Tryz.prog 22 = some [.slice none 0 0]:=by kernel_rfl
@[simp] theorem ty_b22:(Tryz.prog.info? 22).map (·.bytes) = some 24:=by kernel_rfl
@[simp] theorem ty_e22:telem Tryz.prog 22 = some 5:=by kernel_rfl
@[simp] theorem ty_s23:tsize Tryz.prog 23 = some 1:=by kernel_rfl
@[simp] theorem ty_a23:tagg Tryz.prog 23 = some false:=by kernel_rfl
@[simp] theorem ty_z23:tzero Tryz.prog 23 = some [.int .u64 0]:=by kernel_rfl
@[simp] theorem ty_b23:(Tryz.prog.info? 23).map (·.bytes) = some 8:=by kernel_rfl
@[simp] theorem ty_zz23:(Tryz.prog.info? 23).bind (·.zero) = some (.int .u64 0):=by kernel_rfl
@[simp] theorem ty_i23:tint Tryz.prog 23 = some .u64:=by kernel_rfl
@[simp] theorem ty_e23:telem Tryz.prog 23 = none:=by kernel_rfl
@[simp] theorem ty_s24:tsize Tryz.prog 24 = some 1:=by kernel_rfl
@[simp] theorem ty_a24:tagg Tryz.prog 24 = some false:=by kernel_rfl
@[simp] theorem ty_z24:tzero Tryz.prog 24 = some [.slice none 0 0]:=by kernel_rfl
@[simp] theorem ty_b24:(Tryz.prog.info? 24).map (·.bytes) = some 24:=by kernel_rfl
@[simp] theorem ty_e24:telem Tryz.prog 24 = some 3:=by kernel_rfl
@[simp] theorem ty_s25:tsize Tryz.prog 25 = some 1:=by kernel_rfl
@[simp] theorem ty_a25:tagg Tryz.prog 25 = some false:=by kernel_rfl
@[simp] theorem ty_z25:tzero Tryz.prog 25 = some [.slice none 0 0]:=by kernel_rfl
@[simp] theorem ty_b25:(Tryz.prog.info? 25).map (·.bytes) = some 24:=by kernel_rfl
@[simp] theorem ty_e25:telem Tryz.prog 25 = some 128:=by kernel_rfl
@[simp] theorem ty_s26:tsize Tryz.prog 26 = some 1:=by kernel_rfl
@[simp] theorem ty_a26:tagg Tryz.prog 26 = some false:=by kernel_rfl
@[simp] theorem ty_z26:tzero Tryz.prog 26 = some [.slice none 0 0]:=by kernel_rfl
@[simp] theorem ty_b26:(Tryz.prog.info? 26).map (·.bytes) = some 24:=by kernel_rfl
@[simp] theorem ty_e26:telem Tryz.prog 26 = some 68:=by kernel_rfl
@[simp] theorem ty_s27:tsize Tryz.prog 27 = some 1:=by kernel_rfl
@[simp] theorem ty_a27:tagg Tryz.prog 27 = some false:=by kernel_rfl
@[simp] theorem ty_z27:tzero Tryz.prog 27 = some [.slice none 0 0]:=by kernel_rfl
@[simp] theorem ty_b27:(Tryz.prog.info? 27).map (·.bytes) = some 24:=by kernel_rfl
@[simp] theorem ty_e27:telem Tryz.prog 27 = some 61:=by kernel_rfl
@[simp] theorem ty_s28:tsize Tryz.prog 28 = some 1:=by kernel_rfl
@[simp] theorem ty_a28:tagg Tryz.prog 28 = some false:=by kernel_rfl
@[simp] theorem ty_z28:tzero Tryz.prog 28 = some [.slice none 0 0]:=by kernel_rfl
@[simp] theorem ty_b28:(Tryz.prog.info? 28).map (·.bytes) = some 24:=by kernel_rfl
@[simp] theorem ty_e28:telem Tryz.prog 28 = some 24:=by kernel_rfl
@[simp] theorem ty_s29:tsize Tryz.prog 29 = some 1:=by kernel_rfl
@[simp] theorem ty_a29:tagg Tryz.prog 29 = some false:=by kernel_rfl
@[simp] theorem ty_z29:tzero Tryz.prog 29 = some [.slice none 0 0]:=by kernel_rfl
@[simp] theorem ty_b29:(Tryz.prog.info? 29).map (·.bytes) = some 24:=by kernel_rfl
@[simp] theorem ty_e29:telem Tryz.prog 29 = some 131:=by kernel_rfl
@[simp] theorem ty_s30:tsize Tryz.prog 30 = some 5:=by kernel_rfl
@[simp] theorem ty_a30:tagg Tryz.prog 30 = some true:=by kernel_rfl
@[simp] theorem ty_z30:tzero Tryz.prog 30 = some [.slice none 0 0,.slice none 0 0,.slice none 0 0,.slice none 0 0,.slice none 0 0]:=by kernel_rfl
@[simp] theorem ty_b30:(Tryz.prog.info? 30).map (·.bytes) = some 120:=by kernel_rfl
@[simp] theorem ty_e30:telem Tryz.prog 30 = none:=by kernel_rfl
@[simp] theorem ty_p30:tplaces Tryz.prog 30 = some [(0,1),(1,1),(2,1),(3,1),(4,1)]:=by kernel_rfl
@[simp] theorem ty_f30_0:tfield Tryz.prog 30 0 = some (0,25):=by kernel_rfl
@[simp] theorem ty_f30_1:tfield Tryz.prog 30 1 = some (1,26):=by kernel_rfl
@[simp] theorem ty_f30_2:tfield Tryz.prog 30 2 = some (2,27):=by kernel_rfl
@[simp] theorem ty_f30_3:tfield Tryz.prog 30 3 = some (3,28):=by kernel_rfl
@[simp] theorem ty_f30_4:tfield Tryz.prog 30 4 = some (4,29):=by kernel_rfl
@[simp] theorem ty_s31:tsize Tryz.prog 31 = some 5:=by kernel_rfl
@[simp] theorem ty_a31:tagg Tryz.prog 31 = some true:=by kernel_rfl
@[simp] theorem ty_z31:tzero Tryz.prog 31 = some [.slice none 0 0,.slice none 0 0,.slice none 0 0,.slice none 0 0,.slice none 0 0]:=by kernel_rfl
@[simp] theorem ty_b31:(Tryz.prog.info? 31).map (·.bytes) = some 120:=by kernel_rfl
@[simp] theorem ty_e31:telem Tryz.prog 31 = none:=by kernel_rfl
@[simp] theorem ty_p31:tplaces Tryz.prog 31 = some [(0,1),(1,1),(2,1),(3,1),(4,1)]:=by kernel_rfl
@[simp] theorem ty_f31_0:tfield Tryz.prog 31 0 = some (0,25):=by kernel_rfl
@[simp] theorem ty_f31_1:tfield Tryz.prog 31 1 = some (1,26):=by kernel_rfl
@[simp] theorem ty_f31_2:tfield Tryz.prog 31 2 = some (2,27):=by kernel_rfl
@[simp] theorem ty_f31_3:tfield Tryz.prog 31 3 = some (3,28):=by kernel_rfl
@[simp] theorem ty_f31_4:tfield Tryz.prog 31 4 = some (4,29):=by kernel_rfl
@[simp] theorem ty_s33:tsize Tryz.prog 33 = some 1:=by kernel_rfl
@[simp] theorem ty_a33:tagg Tryz.prog 33 = some false:=by kernel_rfl
@[simp] theorem ty_z33:tzero Tryz.prog 33 = some [.pointer none]:=by kernel_rfl
@[simp] theorem ty_b33:(Tryz.prog.info? 33).map (·.bytes) = some 8:=by kernel_rfl
@[simp] theorem ty_e33:telem Tryz.prog 33 = none:=by kernel_rfl
@[simp] theorem ty_s34:tsize Tryz.prog 34 = some 1:=by kernel_rfl
@[simp] theorem ty_a34:tagg Tryz.prog 34 = some false:=by kernel_rfl
@[simp] theorem ty_z34:tzero Tryz.prog 34 = some [.slice none 0 0]:=by kernel_rfl
@[simp] theorem ty_b34:(Tryz.prog.info? 34).map (·.bytes) = some 24:=by kernel_rfl
@[simp] theorem ty_e34:telem Tryz.prog 34 = some 81:=by kernel_rfl
@[simp] theorem ty_s35:tsize Tryz.prog 35 = some 2:=by kernel_rfl
@[simp] theorem ty_a35:tagg Tryz.prog 35 = some true:=by kernel_rfl
@[simp] theorem ty_z35:tzero Tryz.prog 35 = some [.int .i64 0,.slice none 0 0]:=by kernel_rfl
@[simp] theorem ty_b35:(Tryz.prog.info? 35).map (·.bytes) = some 32:=by kernel_rfl
@[simp] theorem ty_e35:telem Tryz.prog 35 = none:=by kernel_rfl
@[simp] theorem ty_p35:tplaces Tryz.prog 35 = some [(0,1),(1,1)]:=by kernel_rfl
@[simp] theorem ty_f35_0:tfield Tryz.prog 35 0 = some (0,3):=by kernel_rfl
@[simp] theorem ty_f35_1:tfield Tryz.prog 35 1 = some (1,34):=by kernel_rfl
@[simp] theorem ty_s36:tsize Tryz.prog 36 = some 2:=by kernel_rfl
@[simp] theorem ty_a36:tagg Tryz.prog 36 = some true:=by kernel_rfl
@[simp] theorem ty_z36:tzero Tryz.prog 36 = some [.int .i64 0,.slice none 0 0]:=by kernel_rfl
@[simp] theorem ty_b36:(Tryz.prog.info? 36).map (·.bytes) = some 32:=by kernel_rfl
@[simp] theorem ty_e36:telem Tryz.prog 36 = none:=by kernel_rfl
@[simp] theorem ty_p36:tplaces Tryz.prog 36 = some [(0,1),(1,1)]:=by kernel_rfl
@[simp] theorem ty_f36_0:tfield Tryz.prog 36 0 = some (0,3):=by kernel_rfl
@[simp] theorem ty_f36_1:tfield Tryz.prog 36 1 = some (1,34):=by kernel_rfl
@[simp] theorem ty_s42:tsize Tryz.prog 42 = some 1:=by kernel_rfl
@[simp] theorem ty_a42:tagg Tryz.prog 42 = some false:=by kernel_rfl
@[simp] theorem ty_z42:tzero Tryz.prog 42 = some [.slice none 0 0]:=by kernel_rfl
@[simp] theorem ty_b42:(Tryz.prog.info? 42).map (·.bytes) = some 24:=by kernel_rfl
@[simp] theorem ty_e42:telem Tryz.prog 42 = some 22:=by kernel_rfl
@[simp] theorem ty_s43:tsize Tryz.prog 43 = some 1:=by kernel_rfl
@[simp] theorem ty_a43:tagg Tryz.prog 43 = some false:=by kernel_rfl
@[simp] theorem ty_z43:tzero Tryz.prog 43 = some [.int .i64 0]:=by kernel_rfl
@[simp] theorem ty_b43:(Tryz.prog.info? 43).map (·.bytes) = some 8:=by kernel_rfl
@[simp] theorem ty_zz43:(Tryz.prog.info? 43).bind (·.zero) = some (.int .i64 0):=by kernel_rfl
@[simp] theorem ty_i43:tint Tryz.prog 43 = some .i64:=by kernel_rfl
@[simp] theorem ty_e43:telem Tryz.prog 43 = none:=by kernel_rfl
@[simp] theorem ty_s49:tsize Tryz.prog 49 = some 1:=by kernel_rfl
@[simp] theorem ty_a49:tagg Tryz.prog 49 = some false:=by kernel_rfl
@[simp] theorem ty_z49:tzero Tryz.prog 49 = some [.slice none 0 0]:=by kernel_rfl
@[simp] theorem ty_b49:(Tryz.prog.info? 49).map (·.bytes) = some 24:=by kernel_rfl
@[simp] theorem ty_e49:telem Tryz.prog 49 = some 105:=by kernel_rfl
@[simp] theorem ty_s59:tsize Tryz.prog 59 = some 1:=by kernel_rfl
@[simp] theorem ty_a59:tagg Tryz.prog 59 = some false:=by kernel_rfl
@[simp] theorem ty_z59:tzero Tryz.prog 59 = some [.slice none 0 0]:=by kernel_rfl
@[simp] theorem ty_b59:(Tryz.prog.info? 59).map (·.bytes) = some 24:=by kernel_rfl
@[simp] theorem ty_e59:telem Tryz.prog 59 = some 119:=by kernel_rfl
@[simp] theorem ty_s60:tsize Tryz.prog 60 = some 3:=by kernel_rfl
@[simp] theorem ty_a60:tagg Tryz.prog 60 = some true:=by kernel_rfl
@[simp] theorem ty_z60:tzero Tryz.prog 60 = some [.int .i64 0,.int .i64 0,.int .u64 0]:=by kernel_rfl
@[simp] theorem ty_b60:(Tryz.prog.info? 60).map (·.bytes) = some 24:=by kernel_rfl
@[simp] theorem ty_e60:telem Tryz.prog 60 = none:=by kernel_rfl
@[simp] theorem ty_p60:tplaces Tryz.prog 60 = some [(0,1),(1,1),(2,1)]:=by kernel_rfl
@[simp] theorem ty_f60_0:tfield Tryz.prog 60 0 = some (0,3):=by kernel_rfl
@[simp] theorem ty_f60_1:tfield Tryz.prog 60 1 = some (1,3):=by kernel_rfl
@[simp] theorem ty_f60_2:tfield Tryz.prog 60 2 = some (2,23):=by kernel_rfl
@[simp] theorem ty_s61:tsize Tryz.prog 61 = some 3:=by kernel_rfl
@[simp] theorem ty_a61:tagg Tryz.prog 61 = some true:=by kernel_rfl
@[simp] theorem ty_z61:tzero Tryz.prog 61 = some [.int .i64 0,.int .i64 0,.int .u64 0]:=by kernel_rfl
@[simp] theorem ty_b61:(Tryz.prog.info? 61).map (·.bytes) = some 24:=by kernel_rfl
@[simp] theorem ty_e61:telem Tryz.prog 61 = none:=by kernel_rfl
@[simp] theorem ty_p61:tplaces Tryz.prog 61 = some [(0,1),(1,1),(2,1)]:=by kernel_rfl
@[simp] theorem ty_f61_0:tfield Tryz.prog 61 0 = some (0,3):=by kernel_rfl
@[simp] theorem ty_f61_1:tfield Tryz.prog 61 1 = some (1,3):=by kernel_rfl
@[simp] theorem ty_f61_2:tfield Tryz.prog 61 2 = some (2,23):=by kernel_rfl
@[simp] theorem ty_s62:tsize Tryz.prog 62 = some 1:=by kernel_rfl
@[simp] theorem ty_a62:tagg Tryz.prog 62 = some false:=by kernel_rfl
@[simp] theorem ty_z62:tzero Tryz.prog 62 = some [.slice none 0 0]:=by kernel_rfl
@[simp] theorem ty_b62:(Tryz.prog.info? 62).map (·.bytes) = some 24:=by kernel_rfl
@[simp] theorem ty_e62:telem Tryz.prog 62 = some 23:=by kernel_rfl
@[simp] theorem ty_s63:tsize Tryz.prog 63 = some 1:=by kernel_rfl
@[simp] theorem ty_a63:tagg Tryz.prog 63 = some false:=by kernel_rfl
@[simp] theorem ty_z63:tzero Tryz.prog 63 = some [.slice none 0 0]:=by kernel_rfl
@[simp] theorem ty_b63:(Tryz.prog.info? 63).map (·.bytes) = some 24:=by kernel_rfl
@[simp] theorem ty_e63:telem Tryz.prog 63 = some 248:=by kernel_rfl
@[simp] theorem ty_s64:tsize Tryz.prog 64 = some 1:=by kernel_rfl
@[simp] theorem ty_a64:tagg Tryz.prog 64 = some false:=by kernel_rfl
@[simp] theorem ty_z64:tzero Tryz.prog 64 = some [.slice none 0 0]:=by kernel_rfl
@[simp] theorem ty_b64:(Tryz.prog.info? 64).map (·.bytes) = some 24:=by kernel_rfl
@[simp] theorem ty_e64:telem Tryz.prog 64 = some 199:=by kernel_rfl
@[simp] theorem ty_s65:tsize Tryz.prog 65 = some 2:=by kernel_rfl
@[simp] theorem ty_a65:tagg Tryz.prog 65 = some true:=by kernel_rfl
@[simp] theorem ty_z65:tzero Tryz.prog 65 = some [.int .u64 0,.int .u64 0]:=by kernel_rfl
@[simp] theorem ty_b65:(Tryz.prog.info? 65).map (·.bytes) = some 16:=by kernel_rfl
@[simp] theorem ty_e65:telem Tryz.prog 65 = none:=by kernel_rfl
@[simp] theorem ty_p65:tplaces Tryz.prog 65 = some [(0,1),(1,1)]:=by kernel_rfl
@[simp] theorem ty_f65_0:tfield Tryz.prog 65 0 = some (0,23):=by kernel_rfl
@[simp] theorem ty_f65_1:tfield Tryz.prog 65 1 = some (1,23):=by kernel_rfl
@[simp] theorem ty_s66:tsize Tryz.prog 66 = some 2:=by kernel_rfl
@[simp] theorem ty_a66:tagg Tryz.prog 66 = some true:=by kernel_rfl
@[simp] theorem ty_z66:tzero Tryz.prog 66 = some [.int .u64 0,.int .u64 0]:=by kernel_rfl
@[simp] theorem ty_b66:(Tryz.prog.info? 66).map (·.bytes) = some 16:=by kernel_rfl
@[simp] theorem ty_e66:telem Tryz.prog 66 = none:=by kernel_rfl
@[simp] theorem ty_p66:tplaces Tryz.prog 66 = some [(0,1),(1,1)]:=by kernel_rfl
@[simp] theorem ty_f66_0:tfield Tryz.prog 66 0 = some (0,23):=by kernel_rfl
@[simp] theorem ty_f66_1:tfield Tryz.prog 66 1 = some (1,23):=by kernel_rfl
@[simp] theorem ty_s67:tsize Tryz.prog 67 = some 27:=by kernel_rfl
@[simp] theorem ty_a67:tagg Tryz.prog 67 = some true:=by kernel_rfl
@[simp] theorem ty_z67:tzero Tryz.prog 67 = some [.int .i64 0,.int .i64 0,.int .i64 0,.int .i64 0,.slice none 0 0,.int .i64 0,.int .i64 0,.int .i64 0,.int .i64 0,.slice none 0 0,.int .i64 0,.int .i64 0,.int .u64 0,.int .i64 0,.slice none 0 0,.slice none 0 0,.int .i64 0,.int .i64 0,.int .u64 0,.slice none 0 0,.int .i64 0,.int .i64 0,.slice none 0 0,.int .u64 0,.slice none 0 0,.int .u64 0,.int .u64 0]:=by kernel_rfl
@[simp] theorem ty_b67:(Tryz.prog.info? 67).map (·.bytes) = some 328:=by kernel_rfl
@[simp] theorem ty_e67:telem Tryz.prog 67 = none:=by kernel_rfl
@[simp] theorem ty_p67:tplaces Tryz.prog 67 = some [(0,1),(1,1),(2,1),(3,1),(4,1),(5,1),(6,1),(7,1),(8,1),(9,1),(10,3),(13,1),(14,1),(15,1),(16,3),(19,1),(20,1),(21,1),(22,1),(23,1),(24,1),(25,2)]:=by kernel_rfl
@[simp] theorem ty_f67_0:tfield Tryz.prog 67 0 = some (0,3):=by kernel_rfl
@[simp] theorem ty_f67_1:tfield Tryz.prog 67 1 = some (1,3):=by kernel_rfl
@[simp] theorem ty_f67_2:tfield Tryz.prog 67 2 = some (2,3):=by kernel_rfl
@[simp] theorem ty_f67_3:tfield Tryz.prog 67 3 = some (3,3):=by kernel_rfl
@[simp] theorem ty_f67_4:tfield Tryz.prog 67 4 = some (4,27):=by kernel_rfl
@[simp] theorem ty_f67_5:tfield Tryz.prog 67 5 = some (5,3):=by kernel_rfl
@[simp] theorem ty_f67_6:tfield Tryz.prog 67 6 = some (6,3):=by kernel_rfl
@[simp] theorem ty_f67_7:tfield Tryz.prog 67 7 = some (7,3):=by kernel_rfl
@[simp] theorem ty_f67_8:tfield Tryz.prog 67 8 = some (8,3):=by kernel_rfl
@[simp] theorem ty_f67_9:tfield Tryz.prog 67 9 = some (9,59):=by kernel_rfl
@[simp] theorem ty_f67_10:tfield Tryz.prog 67 10 = some (10,61):=by kernel_rfl
@[simp] theorem ty_f67_11:tfield Tryz.prog 67 11 = some (13,3):=by kernel_rfl
@[simp] theorem ty_f67_12:tfield Tryz.prog 67 12 = some (14,22):=by kernel_rfl
@[simp] theorem ty_f67_13:tfield Tryz.prog 67 13 = some (15,62):=by kernel_rfl
@[simp] theorem ty_f67_14:tfield Tryz.prog 67 14 = some (16,61):=by kernel_rfl
@[simp] theorem ty_f67_15:tfield Tryz.prog 67 15 = some (19,24):=by kernel_rfl
@[simp] theorem ty_f67_16:tfield Tryz.prog 67 16 = some (20,3):=by kernel_rfl
@[simp] theorem ty_f67_17:tfield Tryz.prog 67 17 = some (21,3):=by kernel_rfl
@[simp] theorem ty_f67_18:tfield Tryz.prog 67 18 = some (22,63):=by kernel_rfl
@[simp] theorem ty_f67_19:tfield Tryz.prog 67 19 = some (23,23):=by kernel_rfl
@[simp] theorem ty_f67_20:tfield Tryz.prog 67 20 = some (24,64):=by kernel_rfl
@[simp] theorem ty_f67_21:tfield Tryz.prog 67 21 = some (25,66):=by kernel_rfl
@[simp] theorem ty_s68:tsize Tryz.prog 68 = some 27:=by kernel_rfl
@[simp] theorem ty_a68:tagg Tryz.prog 68 = some true:=by kernel_rfl
@[simp] theorem ty_z68:tzero Tryz.prog 68 = some [.int .i64 0,.int .i64 0,.int .i64 0,.int .i64 0,.slice none 0 0,.int .i64 0,.int .i64 0,.int .i64 0,.int .i64 0,.slice none 0 0,.int .i64 0,.int .i64 0,.int .u64 0,.int .i64 0,.slice none 0 0,.slice none 0 0,.int .i64 0,.int .i64 0,.int .u64 0,.slice none 0 0,.int .i64 0,.int .i64 0,.slice none 0 0,.int .u64 0,.slice none 0 0,.int .u64 0,.int .u64 0]:=by kernel_rfl
@[simp] theorem ty_b68:(Tryz.prog.info? 68).map (·.bytes) = some 328:=by kernel_rfl
@[simp] theorem ty_e68:telem Tryz.prog 68 = none:=by kernel_rfl
@[simp] theorem ty_p68:tplaces Tryz.prog 68 = some [(0,1),(1,1),(2,1),(3,1),(4,1),(5,1),(6,1),(7,1),(8,1),(9,1),(10,3),(13,1),(14,1),(15,1),(16,3),(19,1),(20,1),(21,1),(22,1),(23,1),(24,1),(25,2)]:=by kernel_rfl
@[simp] theorem ty_f68_0:tfield Tryz.prog 68 0 = some (0,3):=by kernel_rfl
@[simp] theorem ty_f68_1:tfield Tryz.prog 68 1 = some (1,3):=by kernel_rfl
@[simp] theorem ty_f68_2:tfield Tryz.prog 68 2 = some (2,3):=by kernel_rfl
@[simp] theorem ty_f68_3:tfield Tryz.prog 68 3 = some (3,3):=by kernel_rfl
@[simp] theorem ty_f68_4:tfield Tryz.prog 68 4 = some (4,27):=by kernel_rfl
@[simp] theorem ty_f68_5:tfield Tryz.prog 68 5 = some (5,3):=by kernel_rfl
@[simp] theorem ty_f68_6:tfield Tryz.prog 68 6 = some (6,3):=by kernel_rfl
@[simp] theorem ty_f68_7:tfield Tryz.prog 68 7 = some (7,3):=by kernel_rfl
@[simp] theorem ty_f68_8:tfield Tryz.prog 68 8 = some (8,3):=by kernel_rfl
@[simp] theorem ty_f68_9:tfield Tryz.prog 68 9 = some (9,59):=by kernel_rfl
@[simp] theorem ty_f68_10:tfield Tryz.prog 68 10 = some (10,61):=by kernel_rfl
@[simp] theorem ty_f68_11:tfield Tryz.prog 68 11 = some (13,3):=by kernel_rfl
@[simp] theorem ty_f68_12:tfield Tryz.prog 68 12 = some (14,22):=by kernel_rfl
@[simp] theorem ty_f68_13:tfield Tryz.prog 68 13 = some (15,62):=by kernel_rfl
@[simp] theorem ty_f68_14:tfield Tryz.prog 68 14 = some (16,61):=by kernel_rfl
@[simp] theorem ty_f68_15:tfield Tryz.prog 68 15 = some (19,24):=by kernel_rfl
@[simp] theorem ty_f68_16:tfield Tryz.prog 68 16 = some (20,3):=by kernel_rfl
@[simp] theorem ty_f68_17:tfield Tryz.prog 68 17 = some (21,3):=by kernel_rfl
@[simp] theorem ty_f68_18:tfield Tryz.prog 68 18 = some (22,63):=by kernel_rfl
@[simp] theorem ty_f68_19:tfield Tryz.prog 68 19 = some (23,23):=by kernel_rfl
@[simp] theorem ty_f68_20:tfield Tryz.prog 68 20 = some (24,64):=by kernel_rfl
@[simp] theorem ty_f68_21:tfield Tryz.prog 68 21 = some (25,66):=by kernel_rfl
@[simp] theorem ty_s73:tsize Tryz.prog 73 = some 1:=by kernel_rfl
@[simp] theorem ty_a73:tagg Tryz.prog 73 = some false:=by kernel_rfl
@[simp] theorem ty_z73:tzero Tryz.prog 73 = some [.slice none 0 0]:=by kernel_rfl
@[simp] theorem ty_b73:(Tryz.prog.info? 73).map (·.bytes) = some 24:=by kernel_rfl
@[simp] theorem ty_e73:telem Tryz.prog 73 = some 76:=by kernel_rfl
@[simp] theorem ty_s75:tsize Tryz.prog 75 = some 3:=by kernel_rfl
@[simp] theorem ty_a75:tagg Tryz.prog 75 = some true:=by kernel_rfl
@[simp] theorem ty_z75:tzero Tryz.prog 75 = some [.int .i64 0,.int .i64 0,.int .u64 0]:=by kernel_rfl
@[simp] theorem ty_b75:(Tryz.prog.info? 75).map (·.bytes) = some 24:=by kernel_rfl
@[simp] theorem ty_e75:telem Tryz.prog 75 = none:=by kernel_rfl
@[simp] theorem ty_p75:tplaces Tryz.prog 75 = some [(0,1),(1,1),(2,1)]:=by kernel_rfl
@[simp] theorem ty_f75_0:tfield Tryz.prog 75 0 = some (0,3):=by kernel_rfl
@[simp] theorem ty_f75_1:tfield Tryz.prog 75 1 = some (1,3):=by kernel_rfl
@[simp] theorem ty_f75_2:tfield Tryz.prog 75 2 = some (2,23):=by kernel_rfl
@[simp] theorem ty_s76:tsize Tryz.prog 76 = some 3:=by kernel_rfl
@[simp] theorem ty_a76:tagg Tryz.prog 76 = some true:=by kernel_rfl
@[simp] theorem ty_z76:tzero Tryz.prog 76 = some [.int .i64 0,.int .i64 0,.int .u64 0]:=by kernel_rfl
@[simp] theorem ty_b76:(Tryz.prog.info? 76).map (·.bytes) = some 24:=by kernel_rfl
@[simp] theorem ty_e76:telem Tryz.prog 76 = none:=by kernel_rfl
@[simp] theorem ty_p76:tplaces Tryz.prog 76 = some [(0,1),(1,1),(2,1)]:=by kernel_rfl
@[simp] theorem ty_f76_0:tfield Tryz.prog 76 0 = some (0,3):=by kernel_rfl
@[simp] theorem ty_f76_1:tfield Tryz.prog 76 1 = some (1,3):=by kernel_rfl
@[simp] theorem ty_f76_2:tfield Tryz.prog 76 2 = some (2,23):=by kernel_rfl
@[simp] theorem ty_s80:tsize Tryz.prog 80 = some 6:=by kernel_rfl
@[simp] theorem ty_a80:tagg Tryz.prog 80 = some true:=by kernel_rfl
@[simp] theorem ty_z80:tzero Tryz.prog 80 = some [.bool false,.int .i64 0,.int .i64 0,.int .u64 0,.int .i64 0,.int .u64 0]:=by kernel_rfl
@[simp] theorem ty_b80:(Tryz.prog.info? 80).map (·.bytes) = some 48:=by kernel_rfl
@[simp] theorem ty_e80:telem Tryz.prog 80 = none:=by kernel_rfl
@[simp] theorem ty_p80:tplaces Tryz.prog 80 = some [(0,1),(1,3),(4,1),(5,1)]:=by kernel_rfl
@[simp] theorem ty_f80_0:tfield Tryz.prog 80 0 = some (0,4):=by kernel_rfl
@[simp] theorem ty_f80_1:tfield Tryz.prog 80 1 = some (1,61):=by kernel_rfl
@[simp] theorem ty_f80_2:tfield Tryz.prog 80 2 = some (4,3):=by kernel_rfl
@[simp] theorem ty_f80_3:tfield Tryz.prog 80 3 = some (5,23):=by kernel_rfl
@[simp] theorem ty_s81:tsize Tryz.prog 81 = some 6:=by kernel_rfl
@[simp] theorem ty_a81:tagg Tryz.prog 81 = some true:=by kernel_rfl
@[simp] theorem ty_z81:tzero Tryz.prog 81 = some [.bool false,.int .i64 0,.int .i64 0,.int .u64 0,.int .i64 0,.int .u64 0]:=by kernel_rfl
@[simp] theorem ty_b81:(Tryz.prog.info? 81).map (·.bytes) = some 48:=by kernel_rfl
@[simp] theorem ty_e81:telem Tryz.prog 81 = none:=by kernel_rfl
@[simp] theorem ty_p81:tplaces Tryz.prog 81 = some [(0,1),(1,3),(4,1),(5,1)]:=by kernel_rfl
@[simp] theorem ty_f81_0:tfield Tryz.prog 81 0 = some (0,4):=by kernel_rfl
@[simp] theorem ty_f81_1:tfield Tryz.prog 81 1 = some (1,61):=by kernel_rfl
@[simp] theorem ty_f81_2:tfield Tryz.prog 81 2 = some (4,3):=by kernel_rfl
@[simp] theorem ty_f81_3:tfield Tryz.prog 81 3 = some (5,23):=by kernel_rfl
@[simp] theorem ty_s85:tsize Tryz.prog 85 = some 1:=by kernel_rfl
@[simp] theorem ty_a85:tagg Tryz.prog 85 = some false:=by kernel_rfl
@[simp] theorem ty_z85:tzero Tryz.prog 85 = some [.pointer none]:=by kernel_rfl
@[simp] theorem ty_b85:(Tryz.prog.info? 85).map (·.bytes) = some 8:=by kernel_rfl
@[simp] theorem ty_e85:telem Tryz.prog 85 = none:=by kernel_rfl
@[simp] theorem ty_s88:tsize Tryz.prog 88 = some 1:=by kernel_rfl
@[simp] theorem ty_a88:tagg Tryz.prog 88 = some false:=by kernel_rfl
@[simp] theorem ty_z88:tzero Tryz.prog 88 = some [.map none]:=by kernel_rfl
@[simp] theorem ty_b88:(Tryz.prog.info? 88).map (·.bytes) = some 8:=by kernel_rfl
@[simp] theorem ty_e88:telem Tryz.prog 88 = none:=by kernel_rfl
@[simp] theorem ty_s89:tsize Tryz.prog 89 = some 2:=by kernel_rfl
@[simp] theorem ty_a89:tagg Tryz.prog 89 = some true:=by kernel_rfl
@[simp] theorem ty_z89:tzero Tryz.prog 89 = some [.int .i64 0,.map none]:=by kernel_rfl
@[simp] theorem ty_b89:(Tryz.prog.info? 89).map (·.bytes) = some 16:=by kernel_rfl
@[simp] theorem ty_e89:telem Tryz.prog 89 = none:=by kernel_rfl
@[simp] theorem ty_p89:tplaces Tryz.prog 89 = some [(0,1),(1,1)]:=by kernel_rfl
@[simp] theorem ty_f89_0:tfield Tryz.prog 89 0 = some (0,3):=by kernel_rfl
@[simp] theorem ty_f89_1:tfield Tryz.prog 89 1 = some (1,88):=by kernel_rfl
@[simp] theorem ty_s90:tsize Tryz.prog 90 = some 2:=by kernel_rfl
@[simp] theorem ty_a90:tagg Tryz.prog 90 = some true:=by kernel_rfl
@[simp] theorem ty_z90:tzero Tryz.prog 90 = some [.int .i64 0,.map none]:=by kernel_rfl
@[simp] theorem ty_b90:(Tryz.prog.info? 90).map (·.bytes) = some 16:=by kernel_rfl
@[simp] theorem ty_e90:telem Tryz.prog 90 = none:=by kernel_rfl
@[simp] theorem ty_p90:tplaces Tryz.prog 90 = some [(0,1),(1,1)]:=by kernel_rfl
@[simp] theorem ty_f90_0:tfield Tryz.prog 90 0 = some (0,3):=by kernel_rfl
@[simp] theorem ty_f90_1:tfield Tryz.prog 90 1 = some (1,88):=by kernel_rfl
@[simp] theorem ty_s91:tsize Tryz.prog 91 = some 4:=by kernel_rfl
@[simp] theorem ty_a91:tagg Tryz.prog 91 = some true:=by kernel_rfl
@[simp] theorem ty_z91:tzero Tryz.prog 91 = some [.int .i64 0,.int .i64 0,.int .u64 0,.int .i64 0]:=by kernel_rfl
@[simp] theorem ty_b91:(Tryz.prog.info? 91).map (·.bytes) = some 32:=by kernel_rfl
@[simp] theorem ty_e91:telem Tryz.prog 91 = none:=by kernel_rfl
@[simp] theorem ty_p91:tplaces Tryz.prog 91 = some [(0,3),(3,1)]:=by kernel_rfl
@[simp] theorem ty_f91_0:tfield Tryz.prog 91 0 = some (0,61):=by kernel_rfl
@[simp] theorem ty_f91_1:tfield Tryz.prog 91 1 = some (3,3):=by kernel_rfl
@[simp] theorem ty_s92:tsize Tryz.prog 92 = some 4:=by kernel_rfl
@[simp] theorem ty_a92:tagg Tryz.prog 92 = some true:=by kernel_rfl
@[simp] theorem ty_z92:tzero Tryz.prog 92 = some [.int .i64 0,.int .i64 0,.int .u64 0,.int .i64 0]:=by kernel_rfl
@[simp] theorem ty_b92:(Tryz.prog.info? 92).map (·.bytes) = some 32:=by kernel_rfl
@[simp] theorem ty_e92:telem Tryz.prog 92 = none:=by kernel_rfl
@[simp] theorem ty_p92:tplaces Tryz.prog 92 = some [(0,3),(3,1)]:=by kernel_rfl
@[simp] theorem ty_f92_0:tfield Tryz.prog 92 0 = some (0,61):=by kernel_rfl
@[simp] theorem ty_f92_1:tfield Tryz.prog 92 1 = some (3,3):=by kernel_rfl
@[simp] theorem ty_s97:tsize Tryz.prog 97 = some 1:=by kernel_rfl
@[simp] theorem ty_a97:tagg Tryz.prog 97 = some false:=by kernel_rfl
@[simp] theorem ty_z97:tzero Tryz.prog 97 = some [.nilFunc]:=by kernel_rfl
@[simp] theorem ty_b97:(Tryz.prog.info? 97).map (·.bytes) = some 8:=by kernel_rfl
@[simp] theorem ty_e97:telem Tryz.prog 97 = none:=by kernel_rfl
@[simp] theorem ty_s99:tsize Tryz.prog 99 = some 1:=by kernel_rfl
@[simp] theorem ty_a99:tagg Tryz.prog 99 = some false:=by kernel_rfl
@[simp] theorem ty_z99:tzero Tryz.prog 99 = some [.pointer none]:=by kernel_rfl
@[simp] theorem ty_b99:(Tryz.prog.info? 99).map (·.bytes) = some 8:=by kernel_rfl
@[simp] theorem ty_e99:telem Tryz.prog 99 = none:=by kernel_rfl
@[simp] theorem ty_s100:tsize Tryz.prog 100 = some 3:=by kernel_rfl
@[simp] theorem ty_a100:tagg Tryz.prog 100 = some true:=by kernel_rfl
@[simp] theorem ty_z100:tzero Tryz.prog 100 = some [.slice none 0 0,.int .i64 0,.int .i64 0]:=by kernel_rfl
@[simp] theorem ty_b100:(Tryz.prog.info? 100).map (·.bytes) = some 40:=by kernel_rfl
@[simp] theorem ty_e100:telem Tryz.prog 100 = none:=by kernel_rfl
@[simp] theorem ty_p100:tplaces Tryz.prog 100 = some [(0,1),(1,1),(2,1)]:=by kernel_rfl
@[simp] theorem ty_f100_0:tfield Tryz.prog 100 0 = some (0,22):=by kernel_rfl
@[simp] theorem ty_f100_1:tfield Tryz.prog 100 1 = some (1,3):=by kernel_rfl
@[simp] theorem ty_f100_2:tfield Tryz.prog 100 2 = some (2,43):=by kernel_rfl
@[simp] theorem ty_s101:tsize Tryz.prog 101 = some 3:=by kernel_rfl
@[simp] theorem ty_a101:tagg Tryz.prog 101 = some true:=by kernel_rfl
@[simp] theorem ty_z101:tzero Tryz.prog 101 = some [.slice none 0 0,.int .i64 0,.int .i64 0]:=by kernel_rfl
@[simp] theorem ty_b101:(Tryz.prog.info? 101).map (·.bytes) = some 40:=by kernel_rfl
@[simp] theorem ty_e101:telem Tryz.prog 101 = none:=by kernel_rfl
@[simp] theorem ty_p101:tplaces Tryz.prog 101 = some [(0,1),(1,1),(2,1)]:=by kernel_rfl
@[simp] theorem ty_f101_0:tfield Tryz.prog 101 0 = some (0,22):=by kernel_rfl
@[simp] theorem ty_f101_1:tfield Tryz.prog 101 1 = some (1,3):=by kernel_rfl
@[simp] theorem ty_f101_2:tfield Tryz.prog 101 2 = some (2,43):=by kernel_rfl
@[simp] theorem ty_s104:tsize Tryz.prog 104 = some 6:=by kernel_rfl
@[simp] theorem ty_a104:tagg Tryz.prog 104 = some true:=by kernel_rfl
@[simp] theorem ty_z104:tzero Tryz.prog 104 = some [.int .i64 0,.int .i64 0,.int .i64 0,.int .u64 0,.int .i64 0,.int .i64 0]:=by kernel_rfl
@[simp] theorem ty_b104:(Tryz.prog.info? 104).map (·.bytes) = some 48:=by kernel_rfl
@[simp] theorem ty_e104:telem Tryz.prog 104 = none:=by kernel_rfl
@[simp] theorem ty_p104:tplaces Tryz.prog 104 = some [(0,1),(1,3),(4,1),(5,1)]:=by kernel_rfl
@[simp] theorem ty_f104_0:tfield Tryz.prog 104 0 = some (0,3):=by kernel_rfl
@[simp] theorem ty_f104_1:tfield Tryz.prog 104 1 = some (1,61):=by kernel_rfl
@[simp] theorem ty_f104_2:tfield Tryz.prog 104 2 = some (4,3):=by kernel_rfl
@[simp] theorem ty_f104_3:tfield Tryz.prog 104 3 = some (5,3):=by kernel_rfl
@[simp] theorem ty_s105:tsize Tryz.prog 105 = some 6:=by kernel_rfl
@[simp] theorem ty_a105:tagg Tryz.prog 105 = some true:=by kernel_rfl
@[simp] theorem ty_z105:tzero Tryz.prog 105 = some [.int .i64 0,.int .i64 0,.int .i64 0,.int .u64 0,.int .i64 0,.int .i64 0]:=by kernel_rfl
@[simp] theorem ty_b105:(Tryz.prog.info? 105).map (·.bytes) = some 48:=by kernel_rfl
@[simp] theorem ty_e105:telem Tryz.prog 105 = none:=by kernel_rfl
@[simp] theorem ty_p105:tplaces Tryz.prog 105 = some [(0,1),(1,3),(4,1),(5,1)]:=by kernel_rfl
@[simp] theorem ty_f105_0:tfield Tryz.prog 105 0 = some (0,3):=by kernel_rfl
@[simp] theorem ty_f105_1:tfield Tryz.prog 105 1 = some (1,61):=by kernel_rfl
@[simp] theorem ty_f105_2:tfield Tryz.prog 105 2 = some (4,3):=by kernel_rfl
@[simp] theorem ty_f105_3:tfield Tryz.prog 105 3 = some (5,3):=by kernel_rfl
@[simp] theorem ty_s106:tsize Tryz.prog 106 = some 1:=by kernel_rfl
@[simp] theorem ty_a106:tagg Tryz.prog 106 = some false:=by kernel_rfl
@[simp] theorem ty_z106:tzero Tryz.prog 106 = some [.slice none 0 0]:=by kernel_rfl
@[simp] theorem ty_b106:(Tryz.prog.info? 106).map (·.bytes) = some 24:=by kernel_rfl
@[simp] theorem ty_e106:telem Tryz.prog 106 = some 92:=by kernel_rfl
@[simp] theorem ty_s110:tsize Tryz.prog 110 = some 1:=by kernel_rfl
@[simp] theorem ty_a110:tagg Tryz.prog 110 = some true:=by kernel_rfl
@[simp] theorem ty_z110:tzero Tryz.prog 110 = some [.slice none 0 0]:=by kernel_rfl
@[simp] theorem ty_b110:(Tryz.prog.info? 110).map (·.bytes) = some 24:=by kernel_rfl
@[simp] theorem ty_e110:telem Tryz.prog 110 = none:=by kernel_rfl
@[simp] theorem ty_p110:tplaces Tryz.prog 110 = some [(0,1)]:=by kernel_rfl
@[simp] theorem ty_f110_0:tfield Tryz.prog 110 0 = some (0,22):=by kernel_rfl
@[simp] theorem ty_s111:tsize Tryz.prog 111 = some 1:=by kernel_rfl
@[simp] theorem ty_a111:tagg Tryz.prog 111 = some true:=by kernel_rfl
@[simp] theorem ty_z111:tzero Tryz.prog 111 = some [.slice none 0 0]:=by kernel_rfl
@[simp] theorem ty_b111:(Tryz.prog.info? 111).map (·.bytes) = some 24:=by kernel_rfl
@[simp] theorem ty_e111:telem Tryz.prog 111 = none:=by kernel_rfl
@[simp] theorem ty_p111:tplaces Tryz.prog 111 = some [(0,1)]:=by kernel_rfl
@[simp] theorem ty_f111_0:tfield Tryz.prog 111 0 = some (0,22):=by kernel_rfl
@[simp] theorem ty_s112:tsize Tryz.prog 112 = some 1:=by kernel_rfl
@[simp] theorem ty_a112:tagg Tryz.prog 112 = some false:=by kernel_rfl
@[simp] theorem ty_z112:tzero Tryz.prog 112 = some [.nilFunc]:=by kernel_rfl
@[simp] theorem ty_b112:(Tryz.prog.info? 112).map (·.bytes) = some 8:=by kernel_rfl
@[simp] theorem ty_e112:telem Tryz.prog 112 = none:=by kernel_rfl
@[simp] theorem ty_s115:tsize Tryz.prog 115 = some 1:=by kernel_rfl
@[simp] theorem ty_a115:tagg Tryz.prog 115 = some false:=by kernel_rfl
@[simp] theorem ty_z115:tzero Tryz.prog 115 = some [.nilFunc]:=by kernel_rfl
@[simp] theorem ty_b115:(Tryz.prog.info? 115).map (·.bytes) = some 8:=by kernel_rfl
@[simp] theorem ty_e115:telem Tryz.prog 115 = none:=by kernel_rfl
@[simp] theorem ty_s116:tsize Tryz.prog 116 = some 1:=by kernel_rfl
@[simp] theorem ty_a116:tagg Tryz.prog 116 = some false:=by kernel_rfl
@[simp] theorem ty_z116:tzero Tryz.prog 116 = some [.nilFunc]:=by kernel_rfl
@[simp] theorem ty_b116:(Tryz.prog.info? 116).map (·.bytes) = some 8:=by kernel_rfl
@[simp] theorem ty_e116:telem Tryz.prog 116 = none:=by kernel_rfl
@[simp] theorem ty_s118:tsize Tryz.prog 118 = some 2:=by kernel_rfl
@[simp] theorem ty_a118:tagg Tryz.prog 118 = some true:=by kernel_rfl
@[simp] theorem ty_z118:tzero Tryz.prog 118 = some [.int .u64 0,.slice none 0 0]:=by kernel_rfl
@[simp] theorem ty_b118:(Tryz.prog.info? 118).map (·.bytes) = some 32:=by kernel_rfl
@[simp] theorem ty_e118:telem Tryz.prog 118 = none:=by kernel_rfl
@[simp] theorem ty_p118:tplaces Tryz.prog 118 = some [(0,1),(1,1)]:=by kernel_rfl
@[simp] theorem ty_f118_0:tfield Tryz.prog 118 0 = some (0,23):=by kernel_rfl
@[simp] theorem ty_f118_1:tfield Tryz.prog 118 1 = some (1,63):=by kernel_rfl
@[simp] theorem ty_s119:tsize Tryz.prog 119 = some 2:=by kernel_rfl
@[simp] theorem ty_a119:tagg Tryz.prog 119 = some true:=by kernel_rfl
@[simp] theorem ty_z119:tzero Tryz.prog 119 = some [.int .u64 0,.slice none 0 0]:=by kernel_rfl
@[simp] theorem ty_b119:(Tryz.prog.info? 119).map (·.bytes) = some 32:=by kernel_rfl
@[simp] theorem ty_e119:telem Tryz.prog 119 = none:=by kernel_rfl
@[simp] theorem ty_p119:tplaces Tryz.prog 119 = some [(0,1),(1,1)]:=by kernel_rfl
@[simp] theorem ty_f119_0:tfield Tryz.prog 119 0 = some (0,23):=by kernel_rfl
@[simp] theorem ty_f119_1:tfield Tryz.prog 119 1 = some (1,63):=by kernel_rfl
@[simp] theorem ty_s120:tsize Tryz.prog 120 = some 1:=by kernel_rfl
@[simp] theorem ty_a120:tagg Tryz.prog 120 = some false:=by kernel_rfl
@[simp] theorem ty_z120:tzero Tryz.prog 120 = some [.pointer none]:=by kernel_rfl
@[simp] theorem ty_b120:(Tryz.prog.info? 120).map (·.bytes) = some 8:=by kernel_rfl
@[simp] theorem ty_e120:telem Tryz.prog 120 = none:=by kernel_rfl
@[simp] theorem ty_s127:tsize Tryz.prog 127 = some 5:=by kernel_rfl
@[simp] theorem ty_a127:tagg Tryz.prog 127 = some true:=by kernel_rfl
@[simp] theorem ty_z127:tzero Tryz.prog 127 = some [.int .i64 0,.int .i64 0,.int .u64 0,.int .u64 0,.int .u64 0]:=by kernel_rfl
@[simp] theorem ty_b127:(Tryz.prog.info? 127).map (·.bytes) = some 40:=by kernel_rfl
@[simp] theorem ty_e127:telem Tryz.prog 127 = none:=by kernel_rfl
@[simp] theorem ty_p127:tplaces Tryz.prog 127 = some [(0,1),(1,1),(2,1),(3,1),(4,1)]:=by kernel_rfl
@[simp] theorem ty_f127_0:tfield Tryz.prog 127 0 = some (0,3):=by kernel_rfl
@[simp] theorem ty_f127_1:tfield Tryz.prog 127 1 = some (1,3):=by kernel_rfl
@[simp] theorem ty_f127_2:tfield Tryz.prog 127 2 = some (2,23):=by kernel_rfl
@[simp] theorem ty_f127_3:tfield Tryz.prog 127 3 = some (3,23):=by kernel_rfl
@[simp] theorem ty_f127_4:tfield Tryz.prog 127 4 = some (4,23):=by kernel_rfl
@[simp] theorem ty_s128:tsize Tryz.prog 128 = some 5:=by kernel_rfl
@[simp] theorem ty_a128:tagg Tryz.prog 128 = some true:=by kernel_rfl
@[simp] theorem ty_z128:tzero Tryz.prog 128 = some [.int .i64 0,.int .i64 0,.int .u64 0,.int .u64 0,.int .u64 0]:=by kernel_rfl
@[simp] theorem ty_b128:(Tryz.prog.info? 128).map (·.bytes) = some 40:=by kernel_rfl
@[simp] theorem ty_e128:telem Tryz.prog 128 = none:=by kernel_rfl
@[simp] theorem ty_p128:tplaces Tryz.prog 128 = some [(0,1),(1,1),(2,1),(3,1),(4,1)]:=by kernel_rfl
@[simp] theorem ty_f128_0:tfield Tryz.prog 128 0 = some (0,3):=by kernel_rfl
@[simp] theorem ty_f128_1:tfield Tryz.prog 128 1 = some (1,3):=by kernel_rfl
@[simp] theorem ty_f128_2:tfield Tryz.prog 128 2 = some (2,23):=by kernel_rfl
@[simp] theorem ty_f128_3:tfield Tryz.prog 128 3 = some (3,23):=by kernel_rfl
@[simp] theorem ty_f128_4:tfield Tryz.prog 128 4 = some (4,23):=by kernel_rfl
@[simp] theorem ty_s131:tsize Tryz.prog 131 = some 1:=by kernel_rfl
@[simp] theorem ty_a131:tagg Tryz.prog 131 = some false:=by kernel_rfl
@[simp] theorem ty_z131:tzero Tryz.prog 131 = some [.slice none 0 0]:=by kernel_rfl
@[simp] theorem ty_b131:(Tryz.prog.info? 131).map (·.bytes) = some 24:=by kernel_rfl
@[simp] theorem ty_e131:telem Tryz.prog 131 = some 4:=by kernel_rfl
@[simp] theorem ty_s139:tsize Tryz.prog 139 = some 3:=by kernel_rfl
@[simp] theorem ty_a139:tagg Tryz.prog 139 = some true:=by kernel_rfl
@[simp] theorem ty_z139:tzero Tryz.prog 139 = some [.slice none 0 0,.int .i64 0,.int .i64 0]:=by kernel_rfl
@[simp] theorem ty_b139:(Tryz.prog.info? 139).map (·.bytes) = some 40:=by kernel_rfl
@[simp] theorem ty_e139:telem Tryz.prog 139 = none:=by kernel_rfl
@[simp] theorem ty_p139:tplaces Tryz.prog 139 = some [(0,1),(1,1),(2,1)]:=by kernel_rfl
@[simp] theorem ty_f139_0:tfield Tryz.prog 139 0 = some (0,22):=by kernel_rfl
@[simp] theorem ty_f139_1:tfield Tryz.prog 139 1 = some (1,3):=by kernel_rfl
@[simp] theorem ty_f139_2:tfield Tryz.prog 139 2 = some (2,43):=by kernel_rfl
@[simp] theorem ty_s140:tsize Tryz.prog 140 = some 3:=by kernel_rfl
@[simp] theorem ty_a140:tagg Tryz.prog 140 = some true:=by kernel_rfl
@[simp] theorem ty_z140:tzero Tryz.prog 140 = some [.slice none 0 0,.int .i64 0,.int .i64 0]:=by kernel_rfl
@[simp] theorem ty_b140:(Tryz.prog.info? 140).map (·.bytes) = some 40:=by kernel_rfl
@[simp] theorem ty_e140:telem Tryz.prog 140 = none:=by kernel_rfl
@[simp] theorem ty_p140:tplaces Tryz.prog 140 = some [(0,1),(1,1),(2,1)]:=by kernel_rfl
@[simp] theorem ty_f140_0:tfield Tryz.prog 140 0 = some (0,22):=by kernel_rfl
@[simp] theorem ty_f140_1:tfield Tryz.prog 140 1 = some (1,3):=by kernel_rfl
@[simp] theorem ty_f140_2:tfield Tryz.prog 140 2 = some (2,43):=by kernel_rfl
@[simp] theorem ty_s141:tsize Tryz.prog 141 = some 3:=by kernel_rfl
@[simp] theorem ty_a141:tagg Tryz.prog 141 = some true:=by kernel_rfl
@[simp] theorem ty_z141:tzero Tryz.prog 141 = some [.slice none 0 0,.int .i64 0,.int .i64 0]:=by kernel_rfl
@[simp] theorem ty_b141:(Tryz.prog.info? 141).map (·.bytes) = some 40:=by kernel_rfl
@[simp] theorem ty_e141:telem Tryz.prog 141 = none:=by kernel_rfl
@[simp] theorem ty_p141:tplaces Tryz.prog 141 = some [(0,3)]:=by kernel_rfl
@[simp] theorem ty_f141_0:tfield Tryz.prog 141 0 = some (0,140):=by kernel_rfl
@[simp] theorem ty_s142:tsize Tryz.prog 142 = some 3:=by kernel_rfl
@[simp] theorem ty_a142:tagg Tryz.prog 142 = some true:=by kernel_rfl
@[simp] theorem ty_z142:tzero Tryz.prog 142 = some [.slice none 0 0,.int .i64 0,.int .i64 0]:=by kernel_rfl
@[simp] theorem ty_b142:(Tryz.prog.info? 142).map (·.bytes) = some 40:=by kernel_rfl
@[simp] theorem ty_e142:telem Tryz.prog 142 = none:=by kernel_rfl
@[simp] theorem ty_p142:tplaces Tryz.prog 142 = some [(0,3)]:=by kernel_rfl
@[simp] theorem ty_f142_0:tfield Tryz.prog 142 0 = some (0,140):=by kernel_rfl
@[simp] theorem ty_s145:tsize Tryz.prog 145 = some 1:=by kernel_rfl
@[simp] theorem ty_a145:tagg Tryz.prog 145 = some false:=by kernel_rfl
@[simp] theorem ty_z145:tzero Tryz.prog 145 = some [.pointer none]:=by kernel_rfl
@[simp] theorem ty_b145:(Tryz.prog.info? 145).map (·.bytes) = some 8:=by kernel_rfl
@[simp] theorem ty_e145:telem Tryz.prog 145 = none:=by kernel_rfl
@[simp] theorem ty_s149:tsize Tryz.prog 149 = some 1:=by kernel_rfl
@[simp] theorem ty_a149:tagg Tryz.prog 149 = some false:=by kernel_rfl
@[simp] theorem ty_z149:tzero Tryz.prog 149 = some [.nilFunc]:=by kernel_rfl
@[simp] theorem ty_b149:(Tryz.prog.info? 149).map (·.bytes) = some 8:=by kernel_rfl
@[simp] theorem ty_e149:telem Tryz.prog 149 = none:=by kernel_rfl
@[simp] theorem ty_s151:tsize Tryz.prog 151 = some 1:=by kernel_rfl
@[simp] theorem ty_a151:tagg Tryz.prog 151 = some false:=by kernel_rfl
@[simp] theorem ty_z151:tzero Tryz.prog 151 = some [.nilFunc]:=by kernel_rfl
@[simp] theorem ty_b151:(Tryz.prog.info? 151).map (·.bytes) = some 8:=by kernel_rfl
@[simp] theorem ty_e151:telem Tryz.prog 151 = none:=by kernel_rfl
@[simp] theorem ty_s152:tsize Tryz.prog 152 = some 1:=by kernel_rfl
@[simp] theorem ty_a152:tagg Tryz.prog 152 = some false:=by kernel_rfl
@[simp] theorem ty_z152:tzero Tryz.prog 152 = some [.nilFunc]:=by kernel_rfl
@[simp] theorem ty_b152:(Tryz.prog.info? 152).map (·.bytes) = some 8:=by kernel_rfl
@[simp] theorem ty_e152:telem Tryz.prog 152 = none:=by kernel_rfl
@[simp] theorem ty_s154:tsize Tryz.prog 154 = some 1:=by kernel_rfl
@[simp] theorem ty_a154:tagg Tryz.prog 154 = some false:=by kernel_rfl
@[simp] theorem ty_z154:tzero Tryz.prog 154 = some [.pointer none]:=by kernel_rfl
@[simp] theorem ty_b154:(Tryz.prog.info? 154).map (·.bytes) = some 8:=by kernel_rfl
@[simp] theorem ty_e154:telem Tryz.prog 154 = none:=by kernel_rfl
@[simp] theorem ty_s156:tsize Tryz.prog 156 = some 1:=by kernel_rfl
@[simp] theorem ty_a156:tagg Tryz.prog 156 = some false:=by kernel_rfl
@[simp] theorem ty_z156:tzero Tryz.prog 156 = some [.int .u64 0]:=by kernel_rfl
@[simp] theorem ty_b156:(Tryz.prog.info? 156).map (·.bytes) = some 8:=by kernel_rfl
@[simp] theorem ty_zz156:(Tryz.prog.info? 156).bind (·.zero) = some (.int .u64 0):=by kernel_rfl
@[simp] theorem ty_i156:tint Tryz.prog 156 = some .u64:=by kernel_rfl
@[simp] theorem ty_e156:telem Tryz.prog 156 = none:=by kernel_rfl
@[simp] theorem ty_s169:tsize Tryz.prog 169 = some 1:=by kernel_rfl
@[simp] theorem ty_a169:tagg Tryz.prog 169 = some false:=by kernel_rfl
@[simp] theorem ty_z169:tzero Tryz.prog 169 = some [.map none]:=by kernel_rfl
@[simp] theorem ty_b169:(Tryz.prog.info? 169).map (·.bytes) = some 8:=by kernel_rfl
@[simp] theorem ty_e169:telem Tryz.prog 169 = none:=by kernel_rfl
@[simp] theorem ty_s171:tsize Tryz.prog 171 = some 1:=by kernel_rfl
@[simp] theorem ty_a171:tagg Tryz.prog 171 = some false:=by kernel_rfl
@[simp] theorem ty_z171:tzero Tryz.prog 171 = some [.pointer none]:=by kernel_rfl
@[simp] theorem ty_b171:(Tryz.prog.info? 171).map (·.bytes) = some 8:=by kernel_rfl
@[simp] theorem ty_e171:telem Tryz.prog 171 = none:=by kernel_rfl
@[simp] theorem ty_s176:tsize Tryz.prog 176 = some 1:=by kernel_rfl
@[simp] theorem ty_a176:tagg Tryz.prog 176 = some false:=by kernel_rfl
@[simp] theorem ty_z176:tzero Tryz.prog 176 = some [.nilFunc]:=by kernel_rfl
@[simp] theorem ty_b176:(Tryz.prog.info? 176).map (·.bytes) = some 8:=by kernel_rfl
@[simp] theorem ty_e176:telem Tryz.prog 176 = none:=by kernel_rfl
@[simp] theorem ty_s188:tsize Tryz.prog 188 = some 1:=by kernel_rfl
@[simp] theorem ty_a188:tagg Tryz.prog 188 = some false:=by kernel_rfl
@[simp] theorem ty_z188:tzero Tryz.prog 188 = some [.nilFunc]:=by kernel_rfl
@[simp] theorem ty_b188:(Tryz.prog.info? 188).map (·.bytes) = some 8:=by kernel_rfl
@[simp] theorem ty_e188:telem Tryz.prog 188 = none:=by kernel_rfl
@[simp] theorem ty_s198:tsize Tryz.prog 198 = some 4:=by kernel_rfl
@[simp] theorem ty_a198:tagg Tryz.prog 198 = some true:=by kernel_rfl
@[simp] theorem ty_z198:tzero Tryz.prog 198 = some [.int .i64 0,.int .i64 0,.int .u64 0,.slice none 0 0]:=by kernel_rfl
@[simp] theorem ty_b198:(Tryz.prog.info? 198).map (·.bytes) = some 48:=by kernel_rfl
@[simp] theorem ty_e198:telem Tryz.prog 198 = none:=by kernel_rfl
@[simp] theorem ty_p198:tplaces Tryz.prog 198 = some [(0,3),(3,1)]:=by kernel_rfl
@[simp] theorem ty_f198_0:tfield Tryz.prog 198 0 = some (0,61):=by kernel_rfl
@[simp] theorem ty_f198_1:tfield Tryz.prog 198 1 = some (3,22):=by kernel_rfl
@[simp] theorem ty_s199:tsize Tryz.prog 199 = some 4:=by kernel_rfl
@[simp] theorem ty_a199:tagg Tryz.prog 199 = some true:=by kernel_rfl
@[simp] theorem ty_z199:tzero Tryz.prog 199 = some [.int .i64 0,.int .i64 0,.int .u64 0,.slice none 0 0]:=by kernel_rfl
@[simp] theorem ty_b199:(Tryz.prog.info? 199).map (·.bytes) = some 48:=by kernel_rfl
@[simp] theorem ty_e199:telem Tryz.prog 199 = none:=by kernel_rfl
@[simp] theorem ty_p199:tplaces Tryz.prog 199 = some [(0,3),(3,1)]:=by kernel_rfl
@[simp] theorem ty_f199_0:tfield Tryz.prog 199 0 = some (0,61):=by kernel_rfl
@[simp] theorem ty_f199_1:tfield Tryz.prog 199 1 = some (3,22):=by kernel_rfl
@[simp] theorem ty_s201:tsize Tryz.prog 201 = some 1:=by kernel_rfl
@[simp] theorem ty_a201:tagg Tryz.prog 201 = some false:=by kernel_rfl
@[simp] theorem ty_z201:tzero Tryz.prog 201 = some [.map none]:=by kernel_rfl
@[simp] theorem ty_b201:(Tryz.prog.info? 201).map (·.bytes) = some 8:=by kernel_rfl
@[simp] theorem ty_e201:telem Tryz.prog 201 = none:=by kernel_rfl
@[simp] theorem ty_s202:tsize Tryz.prog 202 = some 1:=by kernel_rfl
@[simp] theorem ty_a202:tagg Tryz.prog 202 = some false:=by kernel_rfl
@[simp] theorem ty_z202:tzero Tryz.prog 202 = some [.slice none 0 0]:=by kernel_rfl
@[simp] theorem ty_b202:(Tryz.prog.info? 202).map (·.bytes) = some 24:=by kernel_rfl
@[simp] theorem ty_e202:telem Tryz.prog 202 = some 210:=by kernel_rfl
@[simp] theorem ty_s203:tsize Tryz.prog 203 = some 3:=by kernel_rfl
@[simp] theorem ty_a203:tagg Tryz.prog 203 = some true:=by kernel_rfl
@[simp] theorem ty_z203:tzero Tryz.prog 203 = some [.slice none 0 0,.map none,.slice none 0 0]:=by kernel_rfl
@[simp] theorem ty_b203:(Tryz.prog.info? 203).map (·.bytes) = some 56:=by kernel_rfl
@[simp] theorem ty_e203:telem Tryz.prog 203 = none:=by kernel_rfl
@[simp] theorem ty_p203:tplaces Tryz.prog 203 = some [(0,1),(1,1),(2,1)]:=by kernel_rfl
@[simp] theorem ty_f203_0:tfield Tryz.prog 203 0 = some (0,25):=by kernel_rfl
@[simp] theorem ty_f203_1:tfield Tryz.prog 203 1 = some (1,201):=by kernel_rfl
@[simp] theorem ty_f203_2:tfield Tryz.prog 203 2 = some (2,202):=by kernel_rfl
@[simp] theorem ty_s204:tsize Tryz.prog 204 = some 3:=by kernel_rfl
@[simp] theorem ty_a204:tagg Tryz.prog 204 = some true:=by kernel_rfl
@[simp] theorem ty_z204:tzero Tryz.prog 204 = some [.slice none 0 0,.map none,.slice none 0 0]:=by kernel_rfl
@[simp] theorem ty_b204:(Tryz.prog.info? 204).map (·.bytes) = some 56:=by kernel_rfl
@[simp] theorem ty_e204:telem Tryz.prog 204 = none:=by kernel_rfl
@[simp] theorem ty_p204:tplaces Tryz.prog 204 = some [(0,1),(1,1),(2,1)]:=by kernel_rfl
@[simp] theorem ty_f204_0:tfield Tryz.prog 204 0 = some (0,25):=by kernel_rfl
@[simp] theorem ty_f204_1:tfield Tryz.prog 204 1 = some (1,201):=by kernel_rfl
@[simp] theorem ty_f204_2:tfield Tryz.prog 204 2 = some (2,202):=by kernel_rfl
@[simp] theorem ty_s206:tsize Tryz.prog 206 = some 1:=by kernel_rfl
@[simp] theorem ty_a206:tagg Tryz.prog 206 = some false:=by kernel_rfl
@[simp] theorem ty_z206:tzero Tryz.prog 206 = some [.nilFunc]:=by kernel_rfl
@[simp] theorem ty_b206:(Tryz.prog.info? 206).map (·.bytes) = some 8:=by kernel_rfl
@[simp] theorem ty_e206:telem Tryz.prog 206 = none:=by kernel_rfl
@[simp] theorem ty_s207:tsize Tryz.prog 207 = some 4:=by kernel_rfl
@[simp] theorem ty_a207:tagg Tryz.prog 207 = some true:=by kernel_rfl
@[simp] theorem ty_z207:tzero Tryz.prog 207 = some [.int .u64 0,.int .u64 0,.int .u64 0,.int .u64 0]:=by kernel_rfl
@[simp] theorem ty_b207:(Tryz.prog.info? 207).map (·.bytes) = some 32:=by kernel_rfl
@[simp] theorem ty_e207:telem Tryz.prog 207 = none:=by kernel_rfl
@[simp] theorem ty_r207:tarr Tryz.prog 207 = some (4,23):=by kernel_rfl
@[simp] theorem ty_s208:tsize Tryz.prog 208 = some 4:=by kernel_rfl
@[simp] theorem ty_a208:tagg Tryz.prog 208 = some true:=by kernel_rfl
@[simp] theorem ty_z208:tzero Tryz.prog 208 = some [.int .u64 0,.int .u64 0,.int .u64 0,.int .u64 0]:=by kernel_rfl
@[simp] theorem ty_b208:(Tryz.prog.info? 208).map (·.bytes) = some 32:=by kernel_rfl
@[simp] theorem ty_e208:telem Tryz.prog 208 = none:=by kernel_rfl
@[simp] theorem ty_r208:tarr Tryz.prog 208 = some (4,23):=by kernel_rfl
@[simp] theorem ty_s209:tsize Tryz.prog 209 = some 35:=by kernel_rfl
@[simp] theorem ty_a209:tagg Tryz.prog 209 = some true:=by kernel_rfl
@[simp] theorem ty_z209:tzero Tryz.prog 209 = some [.int .i64 0,.int .i64 0,.int .i64 0,.int .i64 0,.slice none 0 0,.int .i64 0,.int .i64 0,.int .i64 0,.int .i64 0,.slice none 0 0,.int .i64 0,.int .i64 0,.int .u64 0,.int .i64 0,.slice none 0 0,.slice none 0 0,.int .i64 0,.int .i64 0,.int .u64 0,.slice none 0 0,.int .i64 0,.int .i64 0,.slice none 0 0,.int .u64 0,.slice none 0 0,.int .u64 0,.int .u64 0,.int .i64 0,.int .i64 0,.int .u64 0,.int .u64 0,.int .u64 0,.int .u64 0,.int .u64 0,.int .i64 0]:=by kernel_rfl
@[simp] theorem ty_b209:(Tryz.prog.info? 209).map (·.bytes) = some 392:=by kernel_rfl
@[simp] theorem ty_e209:telem Tryz.prog 209 = none:=by kernel_rfl
@[simp] theorem ty_p209:tplaces Tryz.prog 209 = some [(0,27),(27,3),(30,4),(34,1)]:=by kernel_rfl
@[simp] theorem ty_f209_0:tfield Tryz.prog 209 0 = some (0,68):=by kernel_rfl
@[simp] theorem ty_f209_1:tfield Tryz.prog 209 1 = some (27,61):=by kernel_rfl
@[simp] theorem ty_f209_2:tfield Tryz.prog 209 2 = some (30,208):=by kernel_rfl
@[simp] theorem ty_f209_3:tfield Tryz.prog 209 3 = some (34,3):=by kernel_rfl
@[simp] theorem ty_s210:tsize Tryz.prog 210 = some 35:=by kernel_rfl
@[simp] theorem ty_a210:tagg Tryz.prog 210 = some true:=by kernel_rfl
@[simp] theorem ty_z210:tzero Tryz.prog 210 = some [.int .i64 0,.int .i64 0,.int .i64 0,.int .i64 0,.slice none 0 0,.int .i64 0,.int .i64 0,.int .i64 0,.int .i64 0,.slice none 0 0,.int .i64 0,.int .i64 0,.int .u64 0,.int .i64 0,.slice none 0 0,.slice none 0 0,.int .i64 0,.int .i64 0,.int .u64 0,.slice none 0 0,.int .i64 0,.int .i64 0,.slice none 0 0,.int .u64 0,.slice none 0 0,.int .u64 0,.int .u64 0,.int .i64 0,.int .i64 0,.int .u64 0,.int .u64 0,.int .u64 0,.int .u64 0,.int .u64 0,.int .i64 0]:=by kernel_rfl
@[simp] theorem ty_b210:(Tryz.prog.info? 210).map (·.bytes) = some 392:=by kernel_rfl
@[simp] theorem ty_e210:telem Tryz.prog 210 = none:=by kernel_rfl
@[simp] theorem ty_p210:tplaces Tryz.prog 210 = some [(0,27),(27,3),(30,4),(34,1)]:=by kernel_rfl
@[simp] theorem ty_f210_0:tfield Tryz.prog 210 0 = some (0,68):=by kernel_rfl
@[simp] theorem ty_f210_1:tfield Tryz.prog 210 1 = some (27,61):=by kernel_rfl
@[simp] theorem ty_f210_2:tfield Tryz.prog 210 2 = some (30,208):=by kernel_rfl
@[simp] theorem ty_f210_3:tfield Tryz.prog 210 3 = some (34,3):=by kernel_rfl
@[simp] theorem ty_s233:tsize Tryz.prog 233 = some 1:=by kernel_rfl
@[simp] theorem ty_a233:tagg Tryz.prog 233 = some false:=by kernel_rfl
@[simp] theorem ty_z233:tzero Tryz.prog 233 = some [.nilFunc]:=by kernel_rfl
@[simp] theorem ty_b233:(Tryz.prog.info? 233).map (·.bytes) = some 8:=by kernel_rfl
@[simp] theorem ty_e233:telem Tryz.prog 233 = none:=by kernel_rfl
@[simp] theorem ty_s234:tsize Tryz.prog 234 = some 1:=by kernel_rfl
@[simp] theorem ty_a234:tagg Tryz.prog 234 = some false:=by kernel_rfl
@[simp] theorem ty_z234:tzero Tryz.prog 234 = some [.nilFunc]:=by kernel_rfl
@[simp] theorem ty_b234:(Tryz.prog.info? 234).map (·.bytes) = some 8:=by kernel_rfl
@[simp] theorem ty_e234:telem Tryz.prog 234 = none:=by kernel_rfl
@[simp] theorem ty_s236:tsize Tryz.prog 236 = some 1:=by kernel_rfl
@[simp] theorem ty_a236:tagg Tryz.prog 236 = some false:=by kernel_rfl
@[simp] theorem ty_z236:tzero Tryz.prog 236 = some [.map none]:=by kernel_rfl
@[simp] theorem ty_b236:(Tryz.prog.info? 236).map (·.bytes) = some 8:=by kernel_rfl
@[simp] theorem ty_e236:telem Tryz.prog 236 = none:=by kernel_rfl
@[simp] theorem ty_s237:tsize Tryz.prog 237 = some 1:=by kernel_rfl
@[simp] theorem ty_a237:tagg Tryz.prog 237 = some false:=by kernel_rfl
@[simp] theorem ty_z237:tzero Tryz.prog 237 = some [.map none]:=by kernel_rfl
@[simp] theorem ty_b237:(Tryz.prog.info? 237).map (·.bytes) = some 8:=by kernel_rfl
@[simp] theorem ty_e237:telem Tryz.prog 237 = none:=by kernel_rfl
@[simp] theorem ty_s238:tsize Tryz.prog 238 = some 5:=by kernel_rfl
@[simp] theorem ty_a238:tagg Tryz.prog 238 = some true:=by kernel_rfl
@[simp] theorem ty_z238:tzero Tryz.prog 238 = some [.map none,.map none,.map none,.map none,.int .i64 0]:=by kernel_rfl
@[simp] theorem ty_b238:(Tryz.prog.info? 238).map (·.bytes) = some 40:=by kernel_rfl
@[simp] theorem ty_e238:telem Tryz.prog 238 = none:=by kernel_rfl
@[simp] theorem ty_p238:tplaces Tryz.prog 238 = some [(0,1),(1,1),(2,1),(3,1),(4,1)]:=by kernel_rfl
@[simp] theorem ty_f238_0:tfield Tryz.prog 238 0 = some (0,236):=by kernel_rfl
@[simp] theorem ty_f238_1:tfield Tryz.prog 238 1 = some (1,169):=by kernel_rfl
@[simp] theorem ty_f238_2:tfield Tryz.prog 238 2 = some (2,169):=by kernel_rfl
@[simp] theorem ty_f238_3:tfield Tryz.prog 238 3 = some (3,237):=by kernel_rfl
@[simp] theorem ty_f238_4:tfield Tryz.prog 238 4 = some (4,3):=by kernel_rfl
@[simp] theorem ty_s239:tsize Tryz.prog 239 = some 5:=by kernel_rfl
@[simp] theorem ty_a239:tagg Tryz.prog 239 = some true:=by kernel_rfl
@[simp] theorem ty_z239:tzero Tryz.prog 239 = some [.map none,.map none,.map none,.map none,.int .i64 0]:=by kernel_rfl
@[simp] theorem ty_b239:(Tryz.prog.info? 239).map (·.bytes) = some 40:=by kernel_rfl
@[simp] theorem ty_e239:telem Tryz.prog 239 = none:=by kernel_rfl
@[simp] theorem ty_p239:tplaces Tryz.prog 239 = some [(0,1),(1,1),(2,1),(3,1),(4,1)]:=by kernel_rfl
@[simp] theorem ty_f239_0:tfield Tryz.prog 239 0 = some (0,236):=by kernel_rfl
@[simp] theorem ty_f239_1:tfield Tryz.prog 239 1 = some (1,169):=by kernel_rfl
@[simp] theorem ty_f239_2:tfield Tryz.prog 239 2 = some (2,169):=by kernel_rfl
@[simp] theorem ty_f239_3:tfield Tryz.prog 239 3 = some (3,237):=by kernel_rfl
@[simp] theorem ty_f239_4:tfield Tryz.prog 239 4 = some (4,3):=by kernel_rfl
@[simp] theorem ty_s247:tsize Tryz.prog 247 = some 4:=by kernel_rfl
@[simp] theorem ty_a247:tagg Tryz.prog 247 = some true:=by kernel_rfl
@[simp] theorem ty_z247:tzero Tryz.prog 247 = some [.int .u64 0,.int .u64 0,.int .u64 0,.int .u64 0]:=by kernel_rfl
@[simp] theorem ty_b247:(Tryz.prog.info? 247).map (·.bytes) = some 32:=by kernel_rfl
@[simp] theorem ty_e247:telem Tryz.prog 247 = none:=by kernel_rfl
@[simp] theorem ty_p247:tplaces Tryz.prog 247 = some [(0,1),(1,1),(2,1),(3,1)]:=by kernel_rfl
@[simp] theorem ty_f247_0:tfield Tryz.prog 247 0 = some (0,23):=by kernel_rfl
@[simp] theorem ty_f247_1:tfield Tryz.prog 247 1 = some (1,23):=by kernel_rfl
@[simp] theorem ty_f247_2:tfield Tryz.prog 247 2 = some (2,23):=by kernel_rfl
@[simp] theorem ty_f247_3:tfield Tryz.prog 247 3 = some (3,23):=by kernel_rfl
@[simp] theorem ty_s248:tsize Tryz.prog 248 = some 4:=by kernel_rfl
@[simp] theorem ty_a248:tagg Tryz.prog 248 = some true:=by kernel_rfl
@[simp] theorem ty_z248:tzero Tryz.prog 248 = some [.int .u64 0,.int .u64 0,.int .u64 0,.int .u64 0]:=by kernel_rfl
@[simp] theorem ty_b248:(Tryz.prog.info? 248).map (·.bytes) = some 32:=by kernel_rfl
@[simp] theorem ty_e248:telem Tryz.prog 248 = none:=by kernel_rfl
@[simp] theorem ty_p248:tplaces Tryz.prog 248 = some [(0,1),(1,1),(2,1),(3,1)]:=by kernel_rfl
@[simp] theorem ty_f248_0:tfield Tryz.prog 248 0 = some (0,23):=by kernel_rfl
@[simp] theorem ty_f248_1:tfield Tryz.prog 248 1 = some (1,23):=by kernel_rfl
@[simp] theorem ty_f248_2:tfield Tryz.prog 248 2 = some (2,23):=by kernel_rfl
@[simp] theorem ty_f248_3:tfield Tryz.prog 248 3 = some (3,23):=by kernel_rfl
@[simp] theorem ty_s251:tsize Tryz.prog 251 = some 14:=by kernel_rfl
@[simp] theorem ty_a251:tagg Tryz.prog 251 = some true:=by kernel_rfl
@[simp] theorem ty_z251:tzero Tryz.prog 251 = some [.int .i64 0,.int .i64 0,.int .i64 0,.int .i64 0,.int .i64 0,.int .i64 0,.int .i64 0,.int .i64 0,.int .i64 0,.int .i64 0,.int .i64 0,.int .i64 0,.int .i64 0,.int .i64 0]:=by kernel_rfl
@[simp] theorem ty_b251:(Tryz.prog.info? 251).map (·.bytes) = some 112:=by kernel_rfl
@[simp] theorem ty_e251:telem Tryz.prog 251 = none:=by kernel_rfl
@[simp] theorem ty_r251:tarr Tryz.prog 251 = some (14,3):=by kernel_rfl
@[simp] theorem ty_s265:tsize Tryz.prog 265 = some 1:=by kernel_rfl
@[simp] theorem ty_a265:tagg Tryz.prog 265 = some false:=by kernel_rfl
@[simp] theorem ty_z265:tzero Tryz.prog 265 = some [.nilFunc]:=by kernel_rfl
@[simp] theorem ty_b265:(Tryz.prog.info? 265).map (·.bytes) = some 8:=by kernel_rfl
@[simp] theorem ty_e265:telem Tryz.prog 265 = none:=by kernel_rfl
@[simp] theorem ty_s266:tsize Tryz.prog 266 = some 1:=by kernel_rfl
@[simp] theorem ty_a266:tagg Tryz.prog 266 = some true:=by kernel_rfl
@[simp] theorem ty_z266:tzero Tryz.prog 266 = some [.pointer none]:=by kernel_rfl
@[simp] theorem ty_b266:(Tryz.prog.info? 266).map (·.bytes) = some 8:=by kernel_rfl
@[simp] theorem ty_e266:telem Tryz.prog 266 = none:=by kernel_rfl
@[simp] theorem ty_p266:tplaces Tryz.prog 266 = some [(0,1)]:=by kernel_rfl
@[simp] theorem ty_f266_0:tfield Tryz.prog 266 0 = some (0,120):=by kernel_rfl
@[simp] theorem ty_s267:tsize Tryz.prog 267 = some 1:=by kernel_rfl
@[simp] theorem ty_a267:tagg Tryz.prog 267 = some true:=by kernel_rfl
@[simp] theorem ty_z267:tzero Tryz.prog 267 = some [.pointer none]:=by kernel_rfl
@[simp] theorem ty_b267:(Tryz.prog.info? 267).map (·.bytes) = some 8:=by kernel_rfl
@[simp] theorem ty_e267:telem Tryz.prog 267 = none:=by kernel_rfl
@[simp] theorem ty_p267:tplaces Tryz.prog 267 = some [(0,1)]:=by kernel_rfl
@[simp] theorem ty_f267_0:tfield Tryz.prog 267 0 = some (0,120):=by kernel_rfl
@[simp] theorem ty_s270:tsize Tryz.prog 270 = some 1:=by kernel_rfl
@[simp] theorem ty_a270:tagg Tryz.prog 270 = some false:=by kernel_rfl
@[simp] theorem ty_z270:tzero Tryz.prog 270 = some [.pointer none]:=by kernel_rfl
@[simp] theorem ty_b270:(Tryz.prog.info? 270).map (·.bytes) = some 8:=by kernel_rfl
@[simp] theorem ty_e270:telem Tryz.prog 270 = none:=by kernel_rfl
@[simp] theorem ty_s272:tsize Tryz.prog 272 = some 1:=by kernel_rfl
@[simp] theorem ty_a272:tagg Tryz.prog 272 = some false:=by kernel_rfl
@[simp] theorem ty_z272:tzero Tryz.prog 272 = some [.pointer none]:=by kernel_rfl
@[simp] theorem ty_b272:(Tryz.prog.info? 272).map (·.bytes) = some 8:=by kernel_rfl
@[simp] theorem ty_e272:telem Tryz.prog 272 = none:=by kernel_rfl
@[simp] theorem ty_s274:tsize Tryz.prog 274 = some 1:=by kernel_rfl
@[simp] theorem ty_a274:tagg Tryz.prog 274 = some false:=by kernel_rfl
@[simp] theorem ty_z274:tzero Tryz.prog 274 = some [.pointer none]:=by kernel_rfl
@[simp] theorem ty_b274:(Tryz.prog.info? 274).map (·.bytes) = some 8:=by kernel_rfl
@[simp] theorem ty_e274:telem Tryz.prog 274 = none:=by kernel_rfl
@[simp] theorem ty_s275:tsize Tryz.prog 275 = some 2:=by kernel_rfl
@[simp] theorem ty_a275:tagg Tryz.prog 275 = some true:=by kernel_rfl
@[simp] theorem ty_z275:tzero Tryz.prog 275 = some [.int .i64 0,.pointer none]:=by kernel_rfl
@[simp] theorem ty_b275:(Tryz.prog.info? 275).map (·.bytes) = some 16:=by kernel_rfl
@[simp] theorem ty_e275:telem Tryz.prog 275 = none:=by kernel_rfl
@[simp] theorem ty_p275:tplaces Tryz.prog 275 = some [(0,1),(1,1)]:=by kernel_rfl
@[simp] theorem ty_f275_0:tfield Tryz.prog 275 0 = some (0,3):=by kernel_rfl
@[simp] theorem ty_f275_1:tfield Tryz.prog 275 1 = some (1,274):=by kernel_rfl
@[simp] theorem ty_s276:tsize Tryz.prog 276 = some 2:=by kernel_rfl
@[simp] theorem ty_a276:tagg Tryz.prog 276 = some true:=by kernel_rfl
@[simp] theorem ty_z276:tzero Tryz.prog 276 = some [.int .i64 0,.pointer none]:=by kernel_rfl
@[simp] theorem ty_b276:(Tryz.prog.info? 276).map (·.bytes) = some 16:=by kernel_rfl
@[simp] theorem ty_e276:telem Tryz.prog 276 = none:=by kernel_rfl
@[simp] theorem ty_p276:tplaces Tryz.prog 276 = some [(0,1),(1,1)]:=by kernel_rfl
@[simp] theorem ty_f276_0:tfield Tryz.prog 276 0 = some (0,3):=by kernel_rfl
@[simp] theorem ty_f276_1:tfield Tryz.prog 276 1 = some (1,274):=by kernel_rfl
@[simp] theorem ty_s277:tsize Tryz.prog 277 = some 1:=by kernel_rfl
@[simp] theorem ty_a277:tagg Tryz.prog 277 = some false:=by kernel_rfl
@[simp] theorem ty_z277:tzero Tryz.prog 277 = some [.map none]:=by kernel_rfl
@[simp] theorem ty_b277:(Tryz.prog.info? 277).map (·.bytes) = some 8:=by kernel_rfl
@[simp] theorem ty_e277:telem Tryz.prog 277 = none:=by kernel_rfl
@[simp] theorem ty_s278:tsize Tryz.prog 278 = some 9:=by kernel_rfl
@[simp] theorem ty_a278:tagg Tryz.prog 278 = some true:=by kernel_rfl
@[simp] theorem ty_z278:tzero Tryz.prog 278 = some [.int .i64 0,.int .i64 0,.int .u64 0,.slice none 0 0,.int .i64 0,.int .i64 0,.map none,.bool false,.int .i64 0]:=by kernel_rfl
@[simp] theorem ty_b278:(Tryz.prog.info? 278).map (·.bytes) = some 88:=by kernel_rfl
@[simp] theorem ty_e278:telem Tryz.prog 278 = none:=by kernel_rfl
@[simp] theorem ty_p278:tplaces Tryz.prog 278 = some [(0,3),(3,1),(4,1),(5,1),(6,1),(7,1),(8,1)]:=by kernel_rfl
@[simp] theorem ty_f278_0:tfield Tryz.prog 278 0 = some (0,61):=by kernel_rfl
@[simp] theorem ty_f278_1:tfield Tryz.prog 278 1 = some (3,24):=by kernel_rfl
@[simp] theorem ty_f278_2:tfield Tryz.prog 278 2 = some (4,3):=by kernel_rfl
@[simp] theorem ty_f278_3:tfield Tryz.prog 278 3 = some (5,3):=by kernel_rfl
@[simp] theorem ty_f278_4:tfield Tryz.prog 278 4 = some (6,277):=by kernel_rfl
@[simp] theorem ty_f278_5:tfield Tryz.prog 278 5 = some (7,4):=by kernel_rfl
@[simp] theorem ty_f278_6:tfield Tryz.prog 278 6 = some (8,3):=by kernel_rfl
@[simp] theorem ty_s279:tsize Tryz.prog 279 = some 9:=by kernel_rfl
@[simp] theorem ty_a279:tagg Tryz.prog 279 = some true:=by kernel_rfl
@[simp] theorem ty_z279:tzero Tryz.prog 279 = some [.int .i64 0,.int .i64 0,.int .u64 0,.slice none 0 0,.int .i64 0,.int .i64 0,.map none,.bool false,.int .i64 0]:=by kernel_rfl
@[simp] theorem ty_b279:(Tryz.prog.info? 279).map (·.bytes) = some 88:=by kernel_rfl
@[simp] theorem ty_e279:telem Tryz.prog 279 = none:=by kernel_rfl
@[simp] theorem ty_p279:tplaces Tryz.prog 279 = some [(0,3),(3,1),(4,1),(5,1),(6,1),(7,1),(8,1)]:=by kernel_rfl
@[simp] theorem ty_f279_0:tfield Tryz.prog 279 0 = some (0,61):=by kernel_rfl
@[simp] theorem ty_f279_1:tfield Tryz.prog 279 1 = some (3,24):=by kernel_rfl
@[simp] theorem ty_f279_2:tfield Tryz.prog 279 2 = some (4,3):=by kernel_rfl
@[simp] theorem ty_f279_3:tfield Tryz.prog 279 3 = some (5,3):=by kernel_rfl
@[simp] theorem ty_f279_4:tfield Tryz.prog 279 4 = some (6,277):=by kernel_rfl
@[simp] theorem ty_f279_5:tfield Tryz.prog 279 5 = some (7,4):=by kernel_rfl
@[simp] theorem ty_f279_6:tfield Tryz.prog 279 6 = some (8,3):=by kernel_rfl
@[simp] theorem ty_s282:tsize Tryz.prog 282 = some 2:=by kernel_rfl
@[simp] theorem ty_a282:tagg Tryz.prog 282 = some true:=by kernel_rfl
@[simp] theorem ty_z282:tzero Tryz.prog 282 = some [.int .i64 0,.int .i64 0]:=by kernel_rfl
@[simp] theorem ty_b282:(Tryz.prog.info? 282).map (·.bytes) = some 16:=by kernel_rfl
@[simp] theorem ty_e282:telem Tryz.prog 282 = none:=by kernel_rfl
@[simp] theorem ty_p282:tplaces Tryz.prog 282 = some [(0,1),(1,1)]:=by kernel_rfl
@[simp] theorem ty_f282_0:tfield Tryz.prog 282 0 = some (0,3):=by kernel_rfl
@[simp] theorem ty_f282_1:tfield Tryz.prog 282 1 = some (1,3):=by kernel_rfl
@[simp] theorem ty_s283:tsize Tryz.prog 283 = some 2:=by kernel_rfl
@[simp] theorem ty_a283:tagg Tryz.prog 283 = some true:=by kernel_rfl
@[simp] theorem ty_z283:tzero Tryz.prog 283 = some [.int .i64 0,.int .i64 0]:=by kernel_rfl
@[simp] theorem ty_b283:(Tryz.prog.info? 283).map (·.bytes) = some 16:=by kernel_rfl
@[simp] theorem ty_e283:telem Tryz.prog 283 = none:=by kernel_rfl
@[simp] theorem ty_p283:tplaces Tryz.prog 283 = some [(0,1),(1,1)]:=by kernel_rfl
@[simp] theorem ty_f283_0:tfield Tryz.prog 283 0 = some (0,3):=by kernel_rfl
@[simp] theorem ty_f283_1:tfield Tryz.prog 283 1 = some (1,3):=by kernel_rfl
@[simp] theorem ty_s288:tsize Tryz.prog 288 = some 1:=by kernel_rfl
@[simp] theorem ty_a288:tagg Tryz.prog 288 = some false:=by kernel_rfl
@[simp] theorem ty_z288:tzero Tryz.prog 288 = some [.int .i64 0]:=by kernel_rfl
@[simp] theorem ty_b288:(Tryz.prog.info? 288).map (·.bytes) = some 8:=by kernel_rfl
@[simp] theorem ty_zz288:(Tryz.prog.info? 288).bind (·.zero) = some (.int .i64 0):=by kernel_rfl
@[simp] theorem ty_i288:tint Tryz.prog 288 = some .i64:=by kernel_rfl
@[simp] theorem ty_e288:telem Tryz.prog 288 = none:=by kernel_rfl
@[simp] theorem ty_s295:tsize Tryz.prog 295 = some 1:=by kernel_rfl
@[simp] theorem ty_a295:tagg Tryz.prog 295 = some false:=by kernel_rfl
@[simp] theorem ty_z295:tzero Tryz.prog 295 = some [.int .u32 0]:=by kernel_rfl
@[simp] theorem ty_b295:(Tryz.prog.info? 295).map (·.bytes) = some 4:=by kernel_rfl
@[simp] theorem ty_zz295:(Tryz.prog.info? 295).bind (·.zero) = some (.int .u32 0):=by kernel_rfl
@[simp] theorem ty_i295:tint Tryz.prog 295 = some .u32:=by kernel_rfl
@[simp] theorem ty_e295:telem Tryz.prog 295 = none:=by kernel_rfl
@[simp] theorem ty_s302:tsize Tryz.prog 302 = some 1:=by kernel_rfl
@[simp] theorem ty_a302:tagg Tryz.prog 302 = some false:=by kernel_rfl
@[simp] theorem ty_z302:tzero Tryz.prog 302 = some [.nilFunc]:=by kernel_rfl
@[simp] theorem ty_b302:(Tryz.prog.info? 302).map (·.bytes) = some 8:=by kernel_rfl
@[simp] theorem ty_e302:telem Tryz.prog 302 = none:=by kernel_rfl
@[simp] theorem ty_s303:tsize Tryz.prog 303 = some 1:=by kernel_rfl
@[simp] theorem ty_a303:tagg Tryz.prog 303 = some false:=by kernel_rfl
@[simp] theorem ty_z303:tzero Tryz.prog 303 = some [.nilFunc]:=by kernel_rfl
@[simp] theorem ty_b303:(Tryz.prog.info? 303).map (·.bytes) = some 8:=by kernel_rfl
@[simp] theorem ty_e303:telem Tryz.prog 303 = none:=by kernel_rfl
@[simp] theorem ty_s304:tsize Tryz.prog 304 = some 1:=by kernel_rfl
@[simp] theorem ty_a304:tagg Tryz.prog 304 = some false:=by kernel_rfl
@[simp] theorem ty_z304:tzero Tryz.prog 304 = some [.nilFunc]:=by kernel_rfl
@[simp] theorem ty_b304:(Tryz.prog.info? 304).map (·.bytes) = some 8:=by kernel_rfl
@[simp] theorem ty_e304:telem Tryz.prog 304 = none:=by kernel_rfl
@[simp] theorem ty_s310:tsize Tryz.prog 310 = some 1:=by kernel_rfl
@[simp] theorem ty_a310:tagg Tryz.prog 310 = some false:=by kernel_rfl
@[simp] theorem ty_z310:tzero Tryz.prog 310 = some [.nilFunc]:=by kernel_rfl
@[simp] theorem ty_b310:(Tryz.prog.info? 310).map (·.bytes) = some 8:=by kernel_rfl
@[simp] theorem ty_e310:telem Tryz.prog 310 = none:=by kernel_rfl
@[simp] theorem ty_s311:tsize Tryz.prog 311 = some 1:=by kernel_rfl
@[simp] theorem ty_a311:tagg Tryz.prog 311 = some false:=by kernel_rfl
@[simp] theorem ty_z311:tzero Tryz.prog 311 = some [.nilFunc]:=by kernel_rfl
@[simp] theorem ty_b311:(Tryz.prog.info? 311).map (·.bytes) = some 8:=by kernel_rfl
@[simp] theorem ty_e311:telem Tryz.prog 311 = none:=by kernel_rfl
@[simp] theorem ty_s314:tsize Tryz.prog 314 = some 1:=by kernel_rfl
@[simp] theorem ty_a314:tagg Tryz.prog 314 = some false:=by kernel_rfl
@[simp] theorem ty_z314:tzero Tryz.prog 314 = some [.nilFunc]:=by kernel_rfl
@[simp] theorem ty_b314:(Tryz.prog.info? 314).map (·.bytes) = some 8:=by kernel_rfl
@[simp] theorem ty_e314:telem Tryz.prog 314 = none:=by kernel_rfl
@[simp] theorem ty_s318:tsize Tryz.prog 318 = some 1:=by kernel_rfl
@[simp] theorem ty_a318:tagg Tryz.prog 318 = some false:=by kernel_rfl
@[simp] theorem ty_z318:tzero Tryz.prog 318 = some [.nilFunc]:=by kernel_rfl
@[simp] theorem ty_b318:(Tryz.prog.info? 318).map (·.bytes) = some 8:=by kernel_rfl
@[simp] theorem ty_e318:telem Tryz.prog 318 = none:=by kernel_rfl
@[simp] theorem ty_s323:tsize Tryz.prog 323 = some 1:=by kernel_rfl
@[simp] theorem ty_a323:tagg Tryz.prog 323 = some false:=by kernel_rfl
@[simp] theorem ty_z323:tzero Tryz.prog 323 = some [.nilFunc]:=by kernel_rfl
@[simp] theorem ty_b323:(Tryz.prog.info? 323).map (·.bytes) = some 8:=by kernel_rfl
@[simp] theorem ty_e323:telem Tryz.prog 323 = none:=by kernel_rfl
@[simp] theorem ty_s332:tsize Tryz.prog 332 = some 1:=by kernel_rfl
@[simp] theorem ty_a332:tagg Tryz.prog 332 = some false:=by kernel_rfl
@[simp] theorem ty_z332:tzero Tryz.prog 332 = some [.slice none 0 0]:=by kernel_rfl
@[simp] theorem ty_b332:(Tryz.prog.info? 332).map (·.bytes) = some 24:=by kernel_rfl
@[simp] theorem ty_e332:telem Tryz.prog 332 = some 334:=by kernel_rfl
@[simp] theorem ty_s333:tsize Tryz.prog 333 = some 2:=by kernel_rfl
@[simp] theorem ty_a333:tagg Tryz.prog 333 = some true:=by kernel_rfl
@[simp] theorem ty_z333:tzero Tryz.prog 333 = some [.int .i64 0,.int .i64 0]:=by kernel_rfl
@[simp] theorem ty_b333:(Tryz.prog.info? 333).map (·.bytes) = some 16:=by kernel_rfl
@[simp] theorem ty_e333:telem Tryz.prog 333 = none:=by kernel_rfl
@[simp] theorem ty_p333:tplaces Tryz.prog 333 = some [(0,1),(1,1)]:=by kernel_rfl
@[simp] theorem ty_f333_0:tfield Tryz.prog 333 0 = some (0,3):=by kernel_rfl
@[simp] theorem ty_f333_1:tfield Tryz.prog 333 1 = some (1,3):=by kernel_rfl
@[simp] theorem ty_s334:tsize Tryz.prog 334 = some 2:=by kernel_rfl
@[simp] theorem ty_a334:tagg Tryz.prog 334 = some true:=by kernel_rfl
@[simp] theorem ty_z334:tzero Tryz.prog 334 = some [.int .i64 0,.int .i64 0]:=by kernel_rfl
@[simp] theorem ty_b334:(Tryz.prog.info? 334).map (·.bytes) = some 16:=by kernel_rfl
@[simp] theorem ty_e334:telem Tryz.prog 334 = none:=by kernel_rfl
@[simp] theorem ty_p334:tplaces Tryz.prog 334 = some [(0,1),(1,1)]:=by kernel_rfl
@[simp] theorem ty_f334_0:tfield Tryz.prog 334 0 = some (0,3):=by kernel_rfl
@[simp] theorem ty_f334_1:tfield Tryz.prog 334 1 = some (1,3):=by kernel_rfl
@[simp] theorem ty_s336:tsize Tryz.prog 336 = some 1:=by kernel_rfl
@[simp] theorem ty_a336:tagg Tryz.prog 336 = some false:=by kernel_rfl
@[simp] theorem ty_z336:tzero Tryz.prog 336 = some [.nilFunc]:=by kernel_rfl
@[simp] theorem ty_b336:(Tryz.prog.info? 336).map (·.bytes) = some 8:=by kernel_rfl
@[simp] theorem ty_e336:telem Tryz.prog 336 = none:=by kernel_rfl
@[simp] theorem ty_s340:tsize Tryz.prog 340 = some 1:=by kernel_rfl
@[simp] theorem ty_a340:tagg Tryz.prog 340 = some false:=by kernel_rfl
@[simp] theorem ty_z340:tzero Tryz.prog 340 = some [.map none]:=by kernel_rfl
@[simp] theorem ty_b340:(Tryz.prog.info? 340).map (·.bytes) = some 8:=by kernel_rfl
@[simp] theorem ty_e340:telem Tryz.prog 340 = none:=by kernel_rfl
@[simp] theorem ty_s341:tsize Tryz.prog 341 = some 4:=by kernel_rfl
@[simp] theorem ty_a341:tagg Tryz.prog 341 = some true:=by kernel_rfl
@[simp] theorem ty_z341:tzero Tryz.prog 341 = some [.pointer none,.slice none 0 0,.map none,.map none]:=by kernel_rfl
@[simp] theorem ty_b341:(Tryz.prog.info? 341).map (·.bytes) = some 48:=by kernel_rfl
@[simp] theorem ty_e341:telem Tryz.prog 341 = none:=by kernel_rfl
@[simp] theorem ty_p341:tplaces Tryz.prog 341 = some [(0,1),(1,1),(2,1),(3,1)]:=by kernel_rfl
@[simp] theorem ty_f341_0:tfield Tryz.prog 341 0 = some (0,120):=by kernel_rfl
@[simp] theorem ty_f341_1:tfield Tryz.prog 341 1 = some (1,27):=by kernel_rfl
@[simp] theorem ty_f341_2:tfield Tryz.prog 341 2 = some (2,340):=by kernel_rfl
@[simp] theorem ty_f341_3:tfield Tryz.prog 341 3 = some (3,340):=by kernel_rfl
@[simp] theorem ty_s342:tsize Tryz.prog 342 = some 4:=by kernel_rfl
@[simp] theorem ty_a342:tagg Tryz.prog 342 = some true:=by kernel_rfl
@[simp] theorem ty_z342:tzero Tryz.prog 342 = some [.pointer none,.slice none 0 0,.map none,.map none]:=by kernel_rfl
@[simp] theorem ty_b342:(Tryz.prog.info? 342).map (·.bytes) = some 48:=by kernel_rfl
@[simp] theorem ty_e342:telem Tryz.prog 342 = none:=by kernel_rfl
@[simp] theorem ty_p342:tplaces Tryz.prog 342 = some [(0,1),(1,1),(2,1),(3,1)]:=by kernel_rfl
@[simp] theorem ty_f342_0:tfield Tryz.prog 342 0 = some (0,120):=by kernel_rfl
@[simp] theorem ty_f342_1:tfield Tryz.prog 342 1 = some (1,27):=by kernel_rfl
@[simp] theorem ty_f342_2:tfield Tryz.prog 342 2 = some (2,340):=by kernel_rfl
@[simp] theorem ty_f342_3:tfield Tryz.prog 342 3 = some (3,340):=by kernel_rfl
@[simp] theorem ty_s343:tsize Tryz.prog 343 = some 1:=by kernel_rfl
@[simp] theorem ty_a343:tagg Tryz.prog 343 = some false:=by kernel_rfl
@[simp] theorem ty_z343:tzero Tryz.prog 343 = some [.map none]:=by kernel_rfl
@[simp] theorem ty_b343:(Tryz.prog.info? 343).map (·.bytes) = some 8:=by kernel_rfl
@[simp] theorem ty_e343:telem Tryz.prog 343 = none:=by kernel_rfl
@[simp] theorem ty_s350:tsize Tryz.prog 350 = some 1:=by kernel_rfl
@[simp] theorem ty_a350:tagg Tryz.prog 350 = some false:=by kernel_rfl
@[simp] theorem ty_z350:tzero Tryz.prog 350 = some [.int .u64 0]:=by kernel_rfl
@[simp] theorem ty_b350:(Tryz.prog.info? 350).map (·.bytes) = some 8:=by kernel_rfl
@[simp] theorem ty_zz350:(Tryz.prog.info? 350).bind (·.zero) = some (.int .u64 0):=by kernel_rfl
@[simp] theorem ty_i350:tint Tryz.prog 350 = some .u64:=by kernel_rfl
@[simp] theorem ty_e350:telem Tryz.prog 350 = none:=by kernel_rfl
@[simp] theorem ty_s353:tsize Tryz.prog 353 = some 1:=by kernel_rfl
@[simp] theorem ty_a353:tagg Tryz.prog 353 = some false:=by kernel_rfl
@[simp] theorem ty_z353:tzero Tryz.prog 353 = some [.pointer none]:=by kernel_rfl
@[simp] theorem ty_b353:(Tryz.prog.info? 353).map (·.bytes) = some 8:=by kernel_rfl
@[simp] theorem ty_e353:telem Tryz.prog 353 = none:=by kernel_rfl
@[simp] theorem ty_s357:tsize Tryz.prog 357 = some 2:=by kernel_rfl
@[simp] theorem ty_a357:tagg Tryz.prog 357 = some true:=by kernel_rfl
@[simp] theorem ty_z357:tzero Tryz.prog 357 = some [.int .u64 0,.int .u64 0]:=by kernel_rfl
@[simp] theorem ty_b357:(Tryz.prog.info? 357).map (·.bytes) = some 16:=by kernel_rfl
@[simp] theorem ty_e357:telem Tryz.prog 357 = none:=by kernel_rfl
@[simp] theorem ty_p357:tplaces Tryz.prog 357 = some [(0,1),(1,1)]:=by kernel_rfl
@[simp] theorem ty_f357_0:tfield Tryz.prog 357 0 = some (0,23):=by kernel_rfl
@[simp] theorem ty_f357_1:tfield Tryz.prog 357 1 = some (1,23):=by kernel_rfl
@[simp] theorem ty_s358:tsize Tryz.prog 358 = some 2:=by kernel_rfl
@[simp] theorem ty_a358:tagg Tryz.prog 358 = some true:=by kernel_rfl
@[simp] theorem ty_z358:tzero Tryz.prog 358 = some [.int .u64 0,.int .u64 0]:=by kernel_rfl
@[simp] theorem ty_b358:(Tryz.prog.info? 358).map (·.bytes) = some 16:=by kernel_rfl
@[simp] theorem ty_e358:telem Tryz.prog 358 = none:=by kernel_rfl
@[simp] theorem ty_p358:tplaces Tryz.prog 358 = some [(0,1),(1,1)]:=by kernel_rfl
@[simp] theorem ty_f358_0:tfield Tryz.prog 358 0 = some (0,23):=by kernel_rfl
@[simp] theorem ty_f358_1:tfield Tryz.prog 358 1 = some (1,23):=by kernel_rfl
@[simp] theorem ty_s374:tsize Tryz.prog 374 = some 1:=by kernel_rfl
@[simp] theorem ty_a374:tagg Tryz.prog 374 = some false:=by kernel_rfl
@[simp] theorem ty_z374:tzero Tryz.prog 374 = some [.map none]:=by kernel_rfl
@[simp] theorem ty_b374:(Tryz.prog.info? 374).map (·.bytes) = some 8:=by kernel_rfl
@[simp] theorem ty_e374:telem Tryz.prog 374 = none:=by kernel_rfl
@[simp] theorem ty_s376:tsize Tryz.prog 376 = some 1:=by kernel_rfl
@[simp] theorem ty_a376:tagg Tryz.prog 376 = some false:=by kernel_rfl
@[simp] theorem ty_z376:tzero Tryz.prog 376 = some [.nilFunc]:=by kernel_rfl
@[simp] theorem ty_b376:(Tryz.prog.info? 376).map (·.bytes) = some 8:=by kernel_rfl
@[simp] theorem ty_e376:telem Tryz.prog 376 = none:=by kernel_rfl
@[simp] theorem ty_s377:tsize Tryz.prog 377 = some 1:=by kernel_rfl
@[simp] theorem ty_a377:tagg Tryz.prog 377 = some false:=by kernel_rfl
@[simp] theorem ty_z377:tzero Tryz.prog 377 = some [.nilFunc]:=by kernel_rfl
@[simp] theorem ty_b377:(Tryz.prog.info? 377).map (·.bytes) = some 8:=by kernel_rfl
@[simp] theorem ty_e377:telem Tryz.prog 377 = none:=by kernel_rfl
@[simp] theorem ty_s378:tsize Tryz.prog 378 = some 14:=by kernel_rfl
@[simp] theorem ty_a378:tagg Tryz.prog 378 = some true:=by kernel_rfl
@[simp] theorem ty_z378:tzero Tryz.prog 378 = some [.nilFunc,.nilFunc,.nilFunc,.nilFunc,.nilFunc,.nilFunc,.nilFunc,.nilFunc,.nilFunc,.nilFunc,.nilFunc,.nilFunc,.nilFunc,.nilFunc]:=by kernel_rfl
@[simp] theorem ty_b378:(Tryz.prog.info? 378).map (·.bytes) = some 112:=by kernel_rfl
@[simp] theorem ty_e378:telem Tryz.prog 378 = none:=by kernel_rfl
@[simp] theorem ty_r378:tarr Tryz.prog 378 = some (14,377):=by kernel_rfl
end Go.Proofs.YtpehhhbmobmedaaGreatDoor
