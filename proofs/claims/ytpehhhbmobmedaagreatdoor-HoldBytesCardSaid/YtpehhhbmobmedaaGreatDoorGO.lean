/- The machine of values over this translation: what it leans on, and small words on numbers. -/
import Derived.Test.YtpehhhbmobmedaaGreatDoorGTy
import Derived.Test.YtpehhhbmobmedaaGreatDoorGQ
namespace Go.Proofs.YtpehhhbmobmedaaGreatDoor
set_option linter.unusedVariables false
set_option linter.unusedSimpArgs false
set_option linter.unusedSectionVars false
open Go.RowKit
theorem mixed:Tryz.prog.follows .mixedOrders = true:=by kernel_rfl
abbrev gU (n:Nat):G:=.lit (.int .u64 (n:Int))
theorem tmod_pos {a b:Int} (h:0 ≤ a):a.tmod b = a % b:=Int.tmod_eq_emod_of_nonneg h
theorem tdiv_pos {a b:Int} (h:0 ≤ a):a.tdiv b = a / b:=Int.tdiv_eq_ediv_of_nonneg h
theorem frz_int {P:Program} {st:St} {k:IntKind} {x y:Int} (h:x = y):Frz P st (.lit (.int k x)) (.lit (.int k y)):=by subst h; exact frz_imm (imm_lit _)
theorem frz_bool {P:Program} {st:St} {x y:Bool} (h:x = y):Frz P st (.lit (.bool x)) (.lit (.bool y)):=by subst h; exact frz_imm (imm_lit _)
theorem wk_int {P:Program} {st:St} {ρ:List (Nat × Nat)} {k:IntKind} {x y:Int} (h:x = y):Wk P st ρ (.lit (.int k x)) (.lit (.int k y)):=by subst h; exact wk_imm (imm_lit _)
theorem wk_rslE {P:Program} {st:St} {ρ:List (Nat × Nat)} {i j o m n:Nat} (h:rho ρ i = some j) (e:m = n):Wk P st ρ (.rsl j o m) (.rsl i o n):=by subst e; exact wk_rsl h
theorem mul_bd {x y m n:Int} (h1:0 ≤ x) (h2:x ≤ m) (h3:0 ≤ y) (h4:y ≤ n):0 ≤ x * y ∧ x * y ≤ m * n :=
 ⟨Int.mul_nonneg h1 h3,Int.mul_le_mul h2 h4 h3 (Int.le_trans h1 h2)⟩
attribute [simp] gbs gfill gcells gzeros gapp gsrc gview gbox galloc gsto gbuild Value.oneCell' gconv gmin2 gmax2 glenS
attribute [simp] ev_move ev_assign ev_pick ev_load ev_nil gnil ev_clo ev_extract gextract ev_field gfield ev_fieldAddr gfieldAddr gaddr ev_indexAddr ev_len ev_slice_sl ev_slice_rsl gsliceOf gslice optInt ev_bin ev_un gev_tmp gev_const gev_func glit_int glit_bool glit_str glit_slice glit_nilf glit_ptr fget_cons fget_nil sget_cons sget_nil gbool gint gindex gload gpart glen gb_add gb_sub gb_mul gb_lss gb_leq gb_gtr gb_geq gb_eql gb_neq gu_not gu_neg gb_quo gb_rem w64 wu64 wu8 tmod_pos tdiv_pos
end Go.Proofs.YtpehhhbmobmedaaGreatDoor
