/- Comparisons of terms, walked: cmp.Compare, cmp.Or, op.Less, spy.compare, spy.Less; huddleref11.Less, huddleref34.Less. -/
import Derived.Test.YtjbbgjbknfoddaaGreatDoorGO
import Derived.Test.YtjbbgjbknfoddaaGreatDoorGun
import Derived.Test.YtjbbgjbknfoddaaGreatDoorG2
import Derived.Test.YtjbbgjbknfoddaaGreatDoorKC
import Derived.Laws.StructEq
import Derived.KernelRfl
import Derived.Test.YtjbbgjbknfoddaaGreatDoorGTy
import Derived.Test.YtjbbgjbknfoddaaGreatDoorEC
namespace Go.Proofs.YtjbbgjbknfoddaaGreatDoor
section
open Go.RowKit
set_option linter.unusedVariables false
set_option linter.unusedSimpArgs false
attribute [local irreducible] Tr Run RunD GS TG Le Wk Frz Fn' ImmG Flat WkFr WkSt
abbrev gInt (z : Int) : G := .lit (.int .i64 z)
theorem imm1 {a : G} (ha : ImmG a) : ∀ g ∈ [a], ImmG g := fun g hg => by
  obtain rfl := List.mem_singleton.1 hg
  exact ha
theorem imm2 {a b : G} (ha : ImmG a) (hb : ImmG b) : ∀ g ∈ [a, b], ImmG g := fun g hg => by
  simp only [List.mem_cons, List.not_mem_nil, or_false] at hg
  rcases hg with rfl | rfl
  · exact ha
  · exact hb
theorem fn_glC {P : Program} {gl : List (Nat × List G)} {f : FuncId} {gs : List G} {r : G} (h : Fn' P [] f gs r) : Fn' P gl f gs r := by
  unfold Fn' at h ⊢
  exact fun w S vs hS _ hsz hvs => h w S vs hS (fun _ _ h => by cases h) hsz hvs
theorem nanI_fn (x : Int) : Fn' Tryz.prog [] 48 [gInt x] (.lit (.bool false)) := by
  refine fn_enter Tryz.func48 rfl (by simp [Tryz.ntmps48]) ?_
  simp only [St.enter, enterFr, Tryz.ntmps48]
  repeat' (first | apply tr_seq | apply tr_region | apply run_nil | apply thn_n | apply thn_e | apply thn_r | apply blk_e | apply blk_n | apply blk_r | (refine blk_ne ?_ ?_; decide) | apply tr_block | apply tr_skip | apply tr_label | apply tr_exit | apply tr_ret | (refine tr_region_draw (bars := []) mixed (by kernel_rfl) ?_) | apply rund_nil | ((first | apply run_v | apply rund_v); simp (disch := omega) [if_pos]; (first | rfl | exact ⟨rfl, rfl⟩); decide) | ((first | apply run_bs | apply run_app | apply run_build | apply run_box | apply run_alloc | apply rund_build); simp (disch := omega) [if_pos]; (first | rfl | exact ⟨rfl, rfl⟩ | exact ⟨rfl, rfl, rfl, rfl⟩); decide) | (apply run_sto; simp (disch := omega) [if_pos]; rfl))
  exact ended_r rfl (frz_bool (by simp))
theorem nanU_fn (x : Int) : Fn' Tryz.prog [] 107 [.lit (.int .u64 x)] (.lit (.bool false)) := by
  refine fn_enter Tryz.func107 rfl (by simp [Tryz.ntmps107]) ?_
  simp only [St.enter, enterFr, Tryz.ntmps107]
  repeat' (first | apply tr_seq | apply tr_region | apply run_nil | apply thn_n | apply thn_e | apply thn_r | apply blk_e | apply blk_n | apply blk_r | (refine blk_ne ?_ ?_; decide) | apply tr_block | apply tr_skip | apply tr_label | apply tr_exit | apply tr_ret | (refine tr_region_draw (bars := []) mixed (by kernel_rfl) ?_) | apply rund_nil | ((first | apply run_v | apply rund_v); simp (disch := omega) [if_pos]; (first | rfl | exact ⟨rfl, rfl⟩); decide) | ((first | apply run_bs | apply run_app | apply run_build | apply run_box | apply run_alloc | apply rund_build); simp (disch := omega) [if_pos]; (first | rfl | exact ⟨rfl, rfl⟩ | exact ⟨rfl, rfl, rfl, rfl⟩); decide) | (apply run_sto; simp (disch := omega) [if_pos]; rfl))
  exact ended_r rfl (frz_bool (by simp))
def sgn (x y : Int) : Int := if x < y then -1 else if y < x then 1 else 0
set_option maxHeartbeats 1000000 in
theorem cmpI_fn (x y : Int) : Fn' Tryz.prog [] 31 [.lit (.int .i64 x), .lit (.int .i64 y)] (gInt (sgn x y)) := by
  refine fn_enter Tryz.func31 rfl (by simp [Tryz.ntmps31]) ?_
  simp only [St.enter, enterFr, Tryz.ntmps31]
  repeat' (first | apply tr_seq | apply tr_region | apply run_nil | apply thn_n | apply thn_e | apply thn_r | apply blk_e | apply blk_n | apply blk_r | (refine blk_ne ?_ ?_; decide) | apply tr_block | apply tr_skip | apply tr_label | apply tr_exit | apply tr_ret | (refine tr_region_draw (bars := []) mixed (by kernel_rfl) ?_) | apply rund_nil | ((first | apply run_v | apply rund_v); simp (disch := omega) [if_pos]; (first | rfl | exact ⟨rfl, rfl⟩); decide) | ((first | apply run_bs | apply run_app | apply run_build | apply run_box | apply run_alloc | apply rund_build); simp (disch := omega) [if_pos]; (first | rfl | exact ⟨rfl, rfl⟩ | exact ⟨rfl, rfl, rfl, rfl⟩); decide) | (apply run_sto; simp (disch := omega) [if_pos]; rfl))
  refine run_pc (vs := [.lit (.int .i64 x)]) rfl (by kernel_rfl) (imm1 (imm_lit _)) (nanI_fn x) (by decide) ?_
  repeat' (first | apply tr_seq | apply tr_region | apply run_nil | apply thn_n | apply thn_e | apply thn_r | apply blk_e | apply blk_n | apply blk_r | (refine blk_ne ?_ ?_; decide) | apply tr_block | apply tr_skip | apply tr_label | apply tr_exit | apply tr_ret | (refine tr_region_draw (bars := []) mixed (by kernel_rfl) ?_) | apply rund_nil | ((first | apply run_v | apply rund_v); simp (disch := omega) [if_pos]; (first | rfl | exact ⟨rfl, rfl⟩); decide) | ((first | apply run_bs | apply run_app | apply run_build | apply run_box | apply run_alloc | apply rund_build); simp (disch := omega) [if_pos]; (first | rfl | exact ⟨rfl, rfl⟩ | exact ⟨rfl, rfl, rfl, rfl⟩); decide) | (apply run_sto; simp (disch := omega) [if_pos]; rfl))
  refine run_pc (vs := [.lit (.int .i64 y)]) rfl (by kernel_rfl) (imm1 (imm_lit _)) (nanI_fn y) (by decide) ?_
  repeat' (first | apply tr_seq | apply tr_region | apply run_nil | apply thn_n | apply thn_e | apply thn_r | apply blk_e | apply blk_n | apply blk_r | (refine blk_ne ?_ ?_; decide) | apply tr_block | apply tr_skip | apply tr_label | apply tr_exit | apply tr_ret | (refine tr_region_draw (bars := []) mixed (by kernel_rfl) ?_) | apply rund_nil | ((first | apply run_v | apply rund_v); simp (disch := omega) [if_pos]; (first | rfl | exact ⟨rfl, rfl⟩); decide) | ((first | apply run_bs | apply run_app | apply run_build | apply run_box | apply run_alloc | apply rund_build); simp (disch := omega) [if_pos]; (first | rfl | exact ⟨rfl, rfl⟩ | exact ⟨rfl, rfl, rfl, rfl⟩); decide) | (apply run_sto; simp (disch := omega) [if_pos]; rfl))
  refine tr_condF (by simp) ?_
  repeat' (first | apply tr_seq | apply tr_region | apply run_nil | apply thn_n | apply thn_e | apply thn_r | apply blk_e | apply blk_n | apply blk_r | (refine blk_ne ?_ ?_; decide) | apply tr_block | apply tr_skip | apply tr_label | apply tr_exit | apply tr_ret | (refine tr_region_draw (bars := []) mixed (by kernel_rfl) ?_) | apply rund_nil | ((first | apply run_v | apply rund_v); simp (disch := omega) [if_pos]; (first | rfl | exact ⟨rfl, rfl⟩); decide) | ((first | apply run_bs | apply run_app | apply run_build | apply run_box | apply run_alloc | apply rund_build); simp (disch := omega) [if_pos]; (first | rfl | exact ⟨rfl, rfl⟩ | exact ⟨rfl, rfl, rfl, rfl⟩); decide) | (apply run_sto; simp (disch := omega) [if_pos]; rfl))
  refine tr_condF (by simp) ?_
  repeat' (first | apply tr_seq | apply tr_region | apply run_nil | apply thn_n | apply thn_e | apply thn_r | apply blk_e | apply blk_n | apply blk_r | (refine blk_ne ?_ ?_; decide) | apply tr_block | apply tr_skip | apply tr_label | apply tr_exit | apply tr_ret | (refine tr_region_draw (bars := []) mixed (by kernel_rfl) ?_) | apply rund_nil | ((first | apply run_v | apply rund_v); simp (disch := omega) [if_pos]; (first | rfl | exact ⟨rfl, rfl⟩); decide) | ((first | apply run_bs | apply run_app | apply run_build | apply run_box | apply run_alloc | apply rund_build); simp (disch := omega) [if_pos]; (first | rfl | exact ⟨rfl, rfl⟩ | exact ⟨rfl, rfl, rfl, rfl⟩); decide) | (apply run_sto; simp (disch := omega) [if_pos]; rfl))
  refine tr_condP (p := x < y) ?_ (fun h => ?_) (fun h => ?_)
  · simp
  · repeat' (first | apply tr_seq | apply tr_region | apply run_nil | apply thn_n | apply thn_e | apply thn_r | apply blk_e | apply blk_n | apply blk_r | (refine blk_ne ?_ ?_; decide) | apply tr_block | apply tr_skip | apply tr_label | apply tr_exit | apply tr_ret | (refine tr_region_draw (bars := []) mixed (by kernel_rfl) ?_) | apply rund_nil | ((first | apply run_v | apply rund_v); simp (disch := omega) [if_pos]; (first | rfl | exact ⟨rfl, rfl⟩); decide) | ((first | apply run_bs | apply run_app | apply run_build | apply run_box | apply run_alloc | apply rund_build); simp (disch := omega) [if_pos]; (first | rfl | exact ⟨rfl, rfl⟩ | exact ⟨rfl, rfl, rfl, rfl⟩); decide) | (apply run_sto; simp (disch := omega) [if_pos]; rfl))
    exact ended_r rfl (frz_int (by unfold sgn; rw [if_pos h]))
  · repeat' (first | apply tr_seq | apply tr_region | apply run_nil | apply thn_n | apply thn_e | apply thn_r | apply blk_e | apply blk_n | apply blk_r | (refine blk_ne ?_ ?_; decide) | apply tr_block | apply tr_skip | apply tr_label | apply tr_exit | apply tr_ret | (refine tr_region_draw (bars := []) mixed (by kernel_rfl) ?_) | apply rund_nil | ((first | apply run_v | apply rund_v); simp (disch := omega) [if_pos]; (first | rfl | exact ⟨rfl, rfl⟩); decide) | ((first | apply run_bs | apply run_app | apply run_build | apply run_box | apply run_alloc | apply rund_build); simp (disch := omega) [if_pos]; (first | rfl | exact ⟨rfl, rfl⟩ | exact ⟨rfl, rfl, rfl, rfl⟩); decide) | (apply run_sto; simp (disch := omega) [if_pos]; rfl))
    refine tr_condP (p := y < x) ?_ (fun h' => ?_) (fun h' => ?_)
    · simp
    · repeat' (first | apply tr_seq | apply tr_region | apply run_nil | apply thn_n | apply thn_e | apply thn_r | apply blk_e | apply blk_n | apply blk_r | (refine blk_ne ?_ ?_; decide) | apply tr_block | apply tr_skip | apply tr_label | apply tr_exit | apply tr_ret | (refine tr_region_draw (bars := []) mixed (by kernel_rfl) ?_) | apply rund_nil | ((first | apply run_v | apply rund_v); simp (disch := omega) [if_pos]; (first | rfl | exact ⟨rfl, rfl⟩); decide) | ((first | apply run_bs | apply run_app | apply run_build | apply run_box | apply run_alloc | apply rund_build); simp (disch := omega) [if_pos]; (first | rfl | exact ⟨rfl, rfl⟩ | exact ⟨rfl, rfl, rfl, rfl⟩); decide) | (apply run_sto; simp (disch := omega) [if_pos]; rfl))
      exact ended_r rfl (frz_int (by unfold sgn; rw [if_neg h, if_pos h']))
    · repeat' (first | apply tr_seq | apply tr_region | apply run_nil | apply thn_n | apply thn_e | apply thn_r | apply blk_e | apply blk_n | apply blk_r | (refine blk_ne ?_ ?_; decide) | apply tr_block | apply tr_skip | apply tr_label | apply tr_exit | apply tr_ret | (refine tr_region_draw (bars := []) mixed (by kernel_rfl) ?_) | apply rund_nil | ((first | apply run_v | apply rund_v); simp (disch := omega) [if_pos]; (first | rfl | exact ⟨rfl, rfl⟩); decide) | ((first | apply run_bs | apply run_app | apply run_build | apply run_box | apply run_alloc | apply rund_build); simp (disch := omega) [if_pos]; (first | rfl | exact ⟨rfl, rfl⟩ | exact ⟨rfl, rfl, rfl, rfl⟩); decide) | (apply run_sto; simp (disch := omega) [if_pos]; rfl))
      exact ended_r rfl (frz_int (by unfold sgn; rw [if_neg h, if_neg h']))
set_option maxHeartbeats 1000000 in
theorem cmpU_fn (x y : Int) : Fn' Tryz.prog [] 47 [.lit (.int .u64 x), .lit (.int .u64 y)] (gInt (sgn x y)) := by
  refine fn_enter Tryz.func47 rfl (by simp [Tryz.ntmps47]) ?_
  simp only [St.enter, enterFr, Tryz.ntmps47]
  repeat' (first | apply tr_seq | apply tr_region | apply run_nil | apply thn_n | apply thn_e | apply thn_r | apply blk_e | apply blk_n | apply blk_r | (refine blk_ne ?_ ?_; decide) | apply tr_block | apply tr_skip | apply tr_label | apply tr_exit | apply tr_ret | (refine tr_region_draw (bars := []) mixed (by kernel_rfl) ?_) | apply rund_nil | ((first | apply run_v | apply rund_v); simp (disch := omega) [if_pos]; (first | rfl | exact ⟨rfl, rfl⟩); decide) | ((first | apply run_bs | apply run_app | apply run_build | apply run_box | apply run_alloc | apply rund_build); simp (disch := omega) [if_pos]; (first | rfl | exact ⟨rfl, rfl⟩ | exact ⟨rfl, rfl, rfl, rfl⟩); decide) | (apply run_sto; simp (disch := omega) [if_pos]; rfl))
  refine run_pc (vs := [.lit (.int .u64 x)]) rfl (by kernel_rfl) (imm1 (imm_lit _)) (nanU_fn x) (by decide) ?_
  repeat' (first | apply tr_seq | apply tr_region | apply run_nil | apply thn_n | apply thn_e | apply thn_r | apply blk_e | apply blk_n | apply blk_r | (refine blk_ne ?_ ?_; decide) | apply tr_block | apply tr_skip | apply tr_label | apply tr_exit | apply tr_ret | (refine tr_region_draw (bars := []) mixed (by kernel_rfl) ?_) | apply rund_nil | ((first | apply run_v | apply rund_v); simp (disch := omega) [if_pos]; (first | rfl | exact ⟨rfl, rfl⟩); decide) | ((first | apply run_bs | apply run_app | apply run_build | apply run_box | apply run_alloc | apply rund_build); simp (disch := omega) [if_pos]; (first | rfl | exact ⟨rfl, rfl⟩ | exact ⟨rfl, rfl, rfl, rfl⟩); decide) | (apply run_sto; simp (disch := omega) [if_pos]; rfl))
  refine run_pc (vs := [.lit (.int .u64 y)]) rfl (by kernel_rfl) (imm1 (imm_lit _)) (nanU_fn y) (by decide) ?_
  repeat' (first | apply tr_seq | apply tr_region | apply run_nil | apply thn_n | apply thn_e | apply thn_r | apply blk_e | apply blk_n | apply blk_r | (refine blk_ne ?_ ?_; decide) | apply tr_block | apply tr_skip | apply tr_label | apply tr_exit | apply tr_ret | (refine tr_region_draw (bars := []) mixed (by kernel_rfl) ?_) | apply rund_nil | ((first | apply run_v | apply rund_v); simp (disch := omega) [if_pos]; (first | rfl | exact ⟨rfl, rfl⟩); decide) | ((first | apply run_bs | apply run_app | apply run_build | apply run_box | apply run_alloc | apply rund_build); simp (disch := omega) [if_pos]; (first | rfl | exact ⟨rfl, rfl⟩ | exact ⟨rfl, rfl, rfl, rfl⟩); decide) | (apply run_sto; simp (disch := omega) [if_pos]; rfl))
  refine tr_condF (by simp) ?_
  repeat' (first | apply tr_seq | apply tr_region | apply run_nil | apply thn_n | apply thn_e | apply thn_r | apply blk_e | apply blk_n | apply blk_r | (refine blk_ne ?_ ?_; decide) | apply tr_block | apply tr_skip | apply tr_label | apply tr_exit | apply tr_ret | (refine tr_region_draw (bars := []) mixed (by kernel_rfl) ?_) | apply rund_nil | ((first | apply run_v | apply rund_v); simp (disch := omega) [if_pos]; (first | rfl | exact ⟨rfl, rfl⟩); decide) | ((first | apply run_bs | apply run_app | apply run_build | apply run_box | apply run_alloc | apply rund_build); simp (disch := omega) [if_pos]; (first | rfl | exact ⟨rfl, rfl⟩ | exact ⟨rfl, rfl, rfl, rfl⟩); decide) | (apply run_sto; simp (disch := omega) [if_pos]; rfl))
  refine tr_condF (by simp) ?_
  repeat' (first | apply tr_seq | apply tr_region | apply run_nil | apply thn_n | apply thn_e | apply thn_r | apply blk_e | apply blk_n | apply blk_r | (refine blk_ne ?_ ?_; decide) | apply tr_block | apply tr_skip | apply tr_label | apply tr_exit | apply tr_ret | (refine tr_region_draw (bars := []) mixed (by kernel_rfl) ?_) | apply rund_nil | ((first | apply run_v | apply rund_v); simp (disch := omega) [if_pos]; (first | rfl | exact ⟨rfl, rfl⟩); decide) | ((first | apply run_bs | apply run_app | apply run_build | apply run_box | apply run_alloc | apply rund_build); simp (disch := omega) [if_pos]; (first | rfl | exact ⟨rfl, rfl⟩ | exact ⟨rfl, rfl, rfl, rfl⟩); decide) | (apply run_sto; simp (disch := omega) [if_pos]; rfl))
  refine tr_condP (p := x < y) ?_ (fun h => ?_) (fun h => ?_)
  · simp
  · repeat' (first | apply tr_seq | apply tr_region | apply run_nil | apply thn_n | apply thn_e | apply thn_r | apply blk_e | apply blk_n | apply blk_r | (refine blk_ne ?_ ?_; decide) | apply tr_block | apply tr_skip | apply tr_label | apply tr_exit | apply tr_ret | (refine tr_region_draw (bars := []) mixed (by kernel_rfl) ?_) | apply rund_nil | ((first | apply run_v | apply rund_v); simp (disch := omega) [if_pos]; (first | rfl | exact ⟨rfl, rfl⟩); decide) | ((first | apply run_bs | apply run_app | apply run_build | apply run_box | apply run_alloc | apply rund_build); simp (disch := omega) [if_pos]; (first | rfl | exact ⟨rfl, rfl⟩ | exact ⟨rfl, rfl, rfl, rfl⟩); decide) | (apply run_sto; simp (disch := omega) [if_pos]; rfl))
    exact ended_r rfl (frz_int (by unfold sgn; rw [if_pos h]))
  · repeat' (first | apply tr_seq | apply tr_region | apply run_nil | apply thn_n | apply thn_e | apply thn_r | apply blk_e | apply blk_n | apply blk_r | (refine blk_ne ?_ ?_; decide) | apply tr_block | apply tr_skip | apply tr_label | apply tr_exit | apply tr_ret | (refine tr_region_draw (bars := []) mixed (by kernel_rfl) ?_) | apply rund_nil | ((first | apply run_v | apply rund_v); simp (disch := omega) [if_pos]; (first | rfl | exact ⟨rfl, rfl⟩); decide) | ((first | apply run_bs | apply run_app | apply run_build | apply run_box | apply run_alloc | apply rund_build); simp (disch := omega) [if_pos]; (first | rfl | exact ⟨rfl, rfl⟩ | exact ⟨rfl, rfl, rfl, rfl⟩); decide) | (apply run_sto; simp (disch := omega) [if_pos]; rfl))
    refine tr_condP (p := y < x) ?_ (fun h' => ?_) (fun h' => ?_)
    · simp
    · repeat' (first | apply tr_seq | apply tr_region | apply run_nil | apply thn_n | apply thn_e | apply thn_r | apply blk_e | apply blk_n | apply blk_r | (refine blk_ne ?_ ?_; decide) | apply tr_block | apply tr_skip | apply tr_label | apply tr_exit | apply tr_ret | (refine tr_region_draw (bars := []) mixed (by kernel_rfl) ?_) | apply rund_nil | ((first | apply run_v | apply rund_v); simp (disch := omega) [if_pos]; (first | rfl | exact ⟨rfl, rfl⟩); decide) | ((first | apply run_bs | apply run_app | apply run_build | apply run_box | apply run_alloc | apply rund_build); simp (disch := omega) [if_pos]; (first | rfl | exact ⟨rfl, rfl⟩ | exact ⟨rfl, rfl, rfl, rfl⟩); decide) | (apply run_sto; simp (disch := omega) [if_pos]; rfl))
      exact ended_r rfl (frz_int (by unfold sgn; rw [if_neg h, if_pos h']))
    · repeat' (first | apply tr_seq | apply tr_region | apply run_nil | apply thn_n | apply thn_e | apply thn_r | apply blk_e | apply blk_n | apply blk_r | (refine blk_ne ?_ ?_; decide) | apply tr_block | apply tr_skip | apply tr_label | apply tr_exit | apply tr_ret | (refine tr_region_draw (bars := []) mixed (by kernel_rfl) ?_) | apply rund_nil | ((first | apply run_v | apply rund_v); simp (disch := omega) [if_pos]; (first | rfl | exact ⟨rfl, rfl⟩); decide) | ((first | apply run_bs | apply run_app | apply run_build | apply run_box | apply run_alloc | apply rund_build); simp (disch := omega) [if_pos]; (first | rfl | exact ⟨rfl, rfl⟩ | exact ⟨rfl, rfl, rfl, rfl⟩); decide) | (apply run_sto; simp (disch := omega) [if_pos]; rfl))
      exact ended_r rfl (frz_int (by unfold sgn; rw [if_neg h, if_neg h']))
def orI : List Int → Int
  | [] => 0
  | x :: r => if x = 0 then orI r else x
theorem orI_skip {l : List Int} {i : Nat} (h : ∀ x ∈ l.take i, x = 0) : orI l = orI (l.drop i) := by
  induction i generalizing l with
  | zero => rfl
  | succ i ih =>
    cases l with
    | nil => rfl
    | cons x r =>
      simp only [List.take_succ_cons, List.mem_cons, forall_eq_or_imp] at h
      rw [List.drop_succ_cons, ← ih h.2]
      show (if x = 0 then orI r else x) = orI r
      rw [if_pos h.1]
set_option maxHeartbeats 1000000 in
theorem or_fn (l : List Int) (n : Nat) (hl : l.length = n) (hn : n < 1000) : Fn' Tryz.prog [] 30 [.sl (l.map gInt) n] (gInt (orI l)) := by
  refine fn_enter Tryz.func30 rfl (by simp [Tryz.ntmps30]) ?_
  simp only [St.enter, enterFr, Tryz.ntmps30]
  repeat' (first | apply tr_seq | apply tr_region | apply run_nil | apply thn_n | apply thn_e | apply thn_r | apply blk_e | apply blk_n | apply blk_r | (refine blk_ne ?_ ?_; decide) | apply tr_block | apply tr_skip | apply tr_label | apply tr_exit | apply tr_ret | (refine tr_region_draw (bars := []) mixed (by kernel_rfl) ?_) | apply rund_nil | ((first | apply run_v | apply rund_v); simp (disch := omega) [if_pos]; (first | rfl | exact ⟨rfl, rfl⟩); decide) | ((first | apply run_bs | apply run_app | apply run_build | apply run_box | apply run_alloc | apply rund_build); simp (disch := omega) [if_pos]; (first | rfl | exact ⟨rfl, rfl⟩ | exact ⟨rfl, rfl, rfl, rfl⟩); decide) | (apply run_sto; simp (disch := omega) [if_pos]; rfl))
  refine tr_loop (fun q : {q : Nat // q ≤ n ∧ ∀ x ∈ l.take q, x = 0} => ⟨18, [], [(3, gInt 0), (6, .sl (l.map gInt) n), (7, gInt (n : Int)), (8, gInt (q.1 : Int))], [], 0, 0, false⟩) (fun q => n - q.1) ⟨0, Nat.zero_le _, by simp⟩ ?_ ?_
  · (refine le_to [] (by decide) (by simp) (by simp) ?_ ?_; (repeat' (first | exact wkfr_nil | refine wkfr_cons ?_ ?_)); (all_goals (try (first | exact wk_junk | exact wk_imm (imm_lit _) | exact wk_imm (imm_sl _ _) | exact wk_imm (imm_ptr _ _) | exact wk_rsl rfl | exact wk_rslE rfl (by simp) | exact wk_ref rfl | exact wkst_nil | exact wk_int (by omega) | refine wkst_eq rfl rfl ?_ ?_ wkst_nil))))
  · rintro ⟨q, hq, hz⟩
    dsimp only
    repeat' (first | apply tr_seq | apply tr_region | apply run_nil | apply thn_n | apply thn_e | apply thn_r | apply blk_e | apply blk_n | apply blk_r | (refine blk_ne ?_ ?_; decide) | apply tr_block | apply tr_skip | apply tr_label | apply tr_exit | apply tr_ret | (refine tr_region_draw (bars := []) mixed (by kernel_rfl) ?_) | apply rund_nil | ((first | apply run_v | apply rund_v); simp (disch := omega) [if_pos]; (first | rfl | exact ⟨rfl, rfl⟩); decide) | ((first | apply run_bs | apply run_app | apply run_build | apply run_box | apply run_alloc | apply rund_build); simp (disch := omega) [if_pos]; (first | rfl | exact ⟨rfl, rfl⟩ | exact ⟨rfl, rfl, rfl, rfl⟩); decide) | (apply run_sto; simp (disch := omega) [if_pos]; rfl))
    refine tr_condP (p := q < n) ?_ (fun h => ?_) (fun h => ?_)
    · simp
    · have hql : q < l.length := by omega
      obtain ⟨x, hx⟩ : ∃ x, l[q]? = some x := ⟨_, List.getElem?_eq_getElem hql⟩
      have hx' : (l.map gInt)[q]? = some (gInt x) := by rw [List.getElem?_map, hx]; rfl
      repeat' (first | apply tr_seq | apply tr_region | apply run_nil | apply thn_n | apply thn_e | apply thn_r | apply blk_e | apply blk_n | apply blk_r | (refine blk_ne ?_ ?_; decide) | apply tr_block | apply tr_skip | apply tr_label | apply tr_exit | apply tr_ret | (refine tr_region_draw (bars := []) mixed (by kernel_rfl) ?_) | apply rund_nil | ((first | apply run_v | apply rund_v); simp (disch := omega) [if_pos, hx', hx]; (first | rfl | exact ⟨rfl, rfl⟩); decide) | ((first | apply run_bs | apply run_app | apply run_build | apply run_box | apply run_alloc | apply rund_build); simp (disch := omega) [if_pos, hx', hx]; (first | rfl | exact ⟨rfl, rfl⟩ | exact ⟨rfl, rfl, rfl, rfl⟩); decide) | (apply run_sto; simp (disch := omega) [if_pos, hx', hx]; rfl))
      by_cases h0 : x = 0
      · refine tr_condF (by simp [h0]) ?_
        repeat' (first | apply tr_seq | apply tr_region | apply run_nil | apply thn_n | apply thn_e | apply thn_r | apply blk_e | apply blk_n | apply blk_r | (refine blk_ne ?_ ?_; decide) | apply tr_block | apply tr_skip | apply tr_label | apply tr_exit | apply tr_ret | (refine tr_region_draw (bars := []) mixed (by kernel_rfl) ?_) | apply rund_nil | ((first | apply run_v | apply rund_v); simp (disch := omega) [if_pos]; (first | rfl | exact ⟨rfl, rfl⟩); decide) | ((first | apply run_bs | apply run_app | apply run_build | apply run_box | apply run_alloc | apply rund_build); simp (disch := omega) [if_pos]; (first | rfl | exact ⟨rfl, rfl⟩ | exact ⟨rfl, rfl, rfl, rfl⟩); decide) | (apply run_sto; simp (disch := omega) [if_pos]; rfl))
        have hz' : ∀ y ∈ l.take (q + 1), y = 0 := by
          intro y hy
          rw [List.take_add_one, hx] at hy
          simp only [Option.toList, List.mem_append, List.mem_singleton] at hy
          rcases hy with hy | hy
          · exact hz y hy
          · rw [hy, h0]
        refine ⟨⟨q + 1, by omega, hz'⟩, ?_, by show n - (q + 1) < n - q; omega⟩
        (refine le_to [] (by decide) (by simp) (by simp) ?_ ?_; (repeat' (first | exact wkfr_nil | refine wkfr_cons ?_ ?_)); (all_goals (try (first | exact wk_junk | exact wk_imm (imm_lit _) | exact wk_imm (imm_sl _ _) | exact wk_imm (imm_ptr _ _) | exact wk_rsl rfl | exact wk_rslE rfl (by simp) | exact wk_ref rfl | exact wkst_nil | exact wk_int (by omega) | refine wkst_eq rfl rfl ?_ ?_ wkst_nil))))
      · refine tr_condT (by simp [h0]) ?_
        repeat' (first | apply tr_seq | apply tr_region | apply run_nil | apply thn_n | apply thn_e | apply thn_r | apply blk_e | apply blk_n | apply blk_r | (refine blk_ne ?_ ?_; decide) | apply tr_block | apply tr_skip | apply tr_label | apply tr_exit | apply tr_ret | (refine tr_region_draw (bars := []) mixed (by kernel_rfl) ?_) | apply rund_nil | ((first | apply run_v | apply rund_v); simp (disch := omega) [if_pos]; (first | rfl | exact ⟨rfl, rfl⟩); decide) | ((first | apply run_bs | apply run_app | apply run_build | apply run_box | apply run_alloc | apply rund_build); simp (disch := omega) [if_pos]; (first | rfl | exact ⟨rfl, rfl⟩ | exact ⟨rfl, rfl, rfl, rfl⟩); decide) | (apply run_sto; simp (disch := omega) [if_pos]; rfl))
        refine ended_r rfl (frz_int ?_)
        rw [orI_skip hz, List.drop_eq_getElem_cons hql]
        have : l[q] = x := by
          have := List.getElem?_eq_getElem hql
          rw [hx] at this
          exact (Option.some.inj this).symm
        rw [this]
        show x = if x = 0 then orI _ else x
        rw [if_neg h0]
    · repeat' (first | apply tr_seq | apply tr_region | apply run_nil | apply thn_n | apply thn_e | apply thn_r | apply blk_e | apply blk_n | apply blk_r | (refine blk_ne ?_ ?_; decide) | apply tr_block | apply tr_skip | apply tr_label | apply tr_exit | apply tr_ret | (refine tr_region_draw (bars := []) mixed (by kernel_rfl) ?_) | apply rund_nil | ((first | apply run_v | apply rund_v); simp (disch := omega) [if_pos]; (first | rfl | exact ⟨rfl, rfl⟩); decide) | ((first | apply run_bs | apply run_app | apply run_build | apply run_box | apply run_alloc | apply rund_build); simp (disch := omega) [if_pos]; (first | rfl | exact ⟨rfl, rfl⟩ | exact ⟨rfl, rfl, rfl, rfl⟩); decide) | (apply run_sto; simp (disch := omega) [if_pos]; rfl))
      refine ended_r rfl (frz_int ?_)
      have : q = n := by omega
      rw [orI_skip hz, List.drop_eq_nil_of_le (by omega)]
      rfl
end
section
open Go.RowKit
set_option linter.unusedVariables false
set_option linter.unusedSimpArgs false
def intsOf : List G → Option (List Int)
  | [] => some []
  | .lit (.int .i64 x) :: r => (intsOf r).map (x :: ·)
  | _ => none
theorem intsOf_spec : ∀ {l : List G} {m : List Int}, intsOf l = some m → l = m.map gInt
  | [], m, h => by cases h; rfl
  | g :: r, m, h => by
    unfold intsOf at h
    split at h
    · cases h; rename_i e; cases e
    · rename_i x r' e
      cases e
      rw [Option.map_eq_some_iff] at h
      obtain ⟨m', h, rfl⟩ := h
      rw [intsOf_spec h]
      rfl
    · cases h
def tpC : XPure := fun fid gs gl => match gs with
  | [.lit (.int .i64 x), .lit (.int .i64 y)] => bif Nat.beq fid 31 then some (gInt (sgn x y)) else none
  | [.lit (.int .u64 x), .lit (.int .u64 y)] => bif Nat.beq fid 47 then some (gInt (sgn x y)) else none
  | [.sl l n] => bif Nat.beq fid 30 then (bif Nat.beq l.length n then (bif Nat.blt n 1000 then (intsOf l).map fun m => gInt (orI m) else none) else none) else none
  | _ => none
theorem tpC_ok : PureOk Tryz.prog tpC := by
  intro fid gs gl r h
  unfold tpC at h
  split at h
  · rename_i x y
    cases h1 : Nat.beq fid 31 with
    | true =>
      rw [h1] at h; cases h
      obtain rfl := Nat.eq_of_beq_eq_true h1
      exact ⟨fn_glC (cmpI_fn x y), flat_lit _, by kernel_rfl⟩
    | false => rw [h1] at h; cases h
  · rename_i x y
    cases h1 : Nat.beq fid 47 with
    | true =>
      rw [h1] at h; cases h
      obtain rfl := Nat.eq_of_beq_eq_true h1
      exact ⟨fn_glC (cmpU_fn x y), flat_lit _, by kernel_rfl⟩
    | false => rw [h1] at h; cases h
  · rename_i l n
    cases h1 : Nat.beq fid 30 with
    | true =>
      rw [h1] at h
      simp only [cond_true] at h
      obtain rfl := Nat.eq_of_beq_eq_true h1
      cases h2 : Nat.beq l.length n with
      | false => rw [h2] at h; cases h
      | true =>
      rw [h2] at h
      simp only [cond_true] at h
      cases h3 : Nat.blt n 1000 with
      | false => rw [h3] at h; cases h
      | true =>
      rw [h3] at h
      simp only [cond_true, Option.map_eq_some_iff] at h
      obtain ⟨m, hm, rfl⟩ := h
      obtain rfl := intsOf_spec hm
      exact ⟨fn_glC (or_fn m n (by simpa using Nat.eq_of_beq_eq_true h2) (by have := Nat.le_of_ble_eq_true h3; omega)), flat_lit _, by kernel_rfl⟩
    | false => rw [h1] at h; cases h
  · cases h
def pfC : List Nat := [31, 47, 30]
def EC : XEnv := { pf := fun f => pfC.any (Nat.beq f), tp := tpC, fv := false }
theorem EC_kc : KcOk Tryz.prog EC := ⟨(fun _ _ _ _ _ _ h => by cases h), (fun _ _ _ _ _ _ _ h => by cases h)⟩
abbrev gOp (a b c : Int) : G := .agg [gInt a, gInt b, .lit (.int .u64 c)]
def opC (a b c x y z : Int) : Bool := decide (orI [sgn a x, sgn b y, sgn c z] < 0)
theorem lessO_run (a b c x y z : Int) : xpureR Tryz.prog EC (xcode Tryz.prog EC 100000) 29 [gOp a b c, gOp x y z] [] = some (.lit (.bool (opC a b c x y z))) := by kernel_rfl
theorem lessO_fn (a b c x y z : Int) : Fn' Tryz.prog [] 29 [gOp a b c, gOp x y z] (.lit (.bool (opC a b c x y z))) := (xpureR_ok (xcode_ok mixed tpC_ok EC_kc 100000).toRunOk tpC_ok _ _ _ _ (lessO_run a b c x y z)).1
attribute [local irreducible] Tr Run RunD GS TG Le Wk Frz Fn' ImmG Flat WkFr WkSt
def opR (a b c x y z : Int) : Bool := if a = x then (if b = y then decide (c < z) else decide (b < y)) else decide (a < x)
set_option maxHeartbeats 1000000 in
theorem lessR_fn (a b c x y z : Int) : Fn' Tryz.prog [] 25 [gOp a b c, gOp x y z] (.lit (.bool (opR a b c x y z))) := by
  refine fn_enter Tryz.func25 rfl (by simp [Tryz.ntmps25]) ?_
  simp only [St.enter, enterFr, Tryz.ntmps25]
  refine tr_seq ?_
  refine tr_region ?_
  refine run_box (l := [gInt a, gInt b, .lit (.int .u64 c)]) (by kernel_rfl) (by decide) ?_
  refine run_box (l := [gInt x, gInt y, .lit (.int .u64 z)]) (by kernel_rfl) (by decide) ?_
  repeat' (first | apply tr_seq | apply tr_region | apply run_nil | apply thn_n | apply thn_e | apply thn_r | apply blk_e | apply blk_n | apply blk_r | (refine blk_ne ?_ ?_; decide) | apply tr_block | apply tr_skip | apply tr_label | apply tr_exit | apply tr_ret | (refine tr_region_draw (bars := []) mixed (by kernel_rfl) ?_) | apply rund_nil | ((first | apply run_v | apply rund_v); simp (disch := omega) [if_pos]; (first | rfl | exact ⟨rfl, rfl⟩); decide) | ((first | apply run_bs | apply run_app | apply run_build | apply run_box | apply run_alloc | apply rund_build); simp (disch := omega) [if_pos]; (first | rfl | exact ⟨rfl, rfl⟩ | exact ⟨rfl, rfl, rfl, rfl⟩); decide) | (apply run_sto; simp (disch := omega) [if_pos]; rfl))
  refine tr_condP (p := a ≠ x) ?_ (fun h => ?_) (fun h => ?_)
  · simp
  · repeat' (first | apply tr_seq | apply tr_region | apply run_nil | apply thn_n | apply thn_e | apply thn_r | apply blk_e | apply blk_n | apply blk_r | (refine blk_ne ?_ ?_; decide) | apply tr_block | apply tr_skip | apply tr_label | apply tr_exit | apply tr_ret | (refine tr_region_draw (bars := []) mixed (by kernel_rfl) ?_) | apply rund_nil | ((first | apply run_v | apply rund_v); simp (disch := omega) [if_pos]; (first | rfl | exact ⟨rfl, rfl⟩); decide) | ((first | apply run_bs | apply run_app | apply run_build | apply run_box | apply run_alloc | apply rund_build); simp (disch := omega) [if_pos]; (first | rfl | exact ⟨rfl, rfl⟩ | exact ⟨rfl, rfl, rfl, rfl⟩); decide) | (apply run_sto; simp (disch := omega) [if_pos]; rfl))
    exact ended_r rfl (frz_bool (by unfold opR; rw [if_neg h]))
  · repeat' (first | apply tr_seq | apply tr_region | apply run_nil | apply thn_n | apply thn_e | apply thn_r | apply blk_e | apply blk_n | apply blk_r | (refine blk_ne ?_ ?_; decide) | apply tr_block | apply tr_skip | apply tr_label | apply tr_exit | apply tr_ret | (refine tr_region_draw (bars := []) mixed (by kernel_rfl) ?_) | apply rund_nil | ((first | apply run_v | apply rund_v); simp (disch := omega) [if_pos]; (first | rfl | exact ⟨rfl, rfl⟩); decide) | ((first | apply run_bs | apply run_app | apply run_build | apply run_box | apply run_alloc | apply rund_build); simp (disch := omega) [if_pos]; (first | rfl | exact ⟨rfl, rfl⟩ | exact ⟨rfl, rfl, rfl, rfl⟩); decide) | (apply run_sto; simp (disch := omega) [if_pos]; rfl))
    refine tr_condP (p := b ≠ y) ?_ (fun h' => ?_) (fun h' => ?_)
    · simp
    · repeat' (first | apply tr_seq | apply tr_region | apply run_nil | apply thn_n | apply thn_e | apply thn_r | apply blk_e | apply blk_n | apply blk_r | (refine blk_ne ?_ ?_; decide) | apply tr_block | apply tr_skip | apply tr_label | apply tr_exit | apply tr_ret | (refine tr_region_draw (bars := []) mixed (by kernel_rfl) ?_) | apply rund_nil | ((first | apply run_v | apply rund_v); simp (disch := omega) [if_pos]; (first | rfl | exact ⟨rfl, rfl⟩); decide) | ((first | apply run_bs | apply run_app | apply run_build | apply run_box | apply run_alloc | apply rund_build); simp (disch := omega) [if_pos]; (first | rfl | exact ⟨rfl, rfl⟩ | exact ⟨rfl, rfl, rfl, rfl⟩); decide) | (apply run_sto; simp (disch := omega) [if_pos]; rfl))
      exact ended_r rfl (frz_bool (by unfold opR; rw [if_pos (Decidable.of_not_not h), if_neg h']))
    · repeat' (first | apply tr_seq | apply tr_region | apply run_nil | apply thn_n | apply thn_e | apply thn_r | apply blk_e | apply blk_n | apply blk_r | (refine blk_ne ?_ ?_; decide) | apply tr_block | apply tr_skip | apply tr_label | apply tr_exit | apply tr_ret | (refine tr_region_draw (bars := []) mixed (by kernel_rfl) ?_) | apply rund_nil | ((first | apply run_v | apply rund_v); simp (disch := omega) [if_pos]; (first | rfl | exact ⟨rfl, rfl⟩); decide) | ((first | apply run_bs | apply run_app | apply run_build | apply run_box | apply run_alloc | apply rund_build); simp (disch := omega) [if_pos]; (first | rfl | exact ⟨rfl, rfl⟩ | exact ⟨rfl, rfl, rfl, rfl⟩); decide) | (apply run_sto; simp (disch := omega) [if_pos]; rfl))
      exact ended_r rfl (frz_bool (by unfold opR; rw [if_pos (Decidable.of_not_not h), if_pos (Decidable.of_not_not h')]))
end
section
open Go.RowKit
set_option linter.unusedVariables false
set_option linter.unusedSimpArgs false
section
variable {P : Program}
/-- The last region of a function, run: the value that it tells. -/
noncomputable def regRun (P : Program) (E : XEnv) (k : Nat) (c : Code) (st : St) (u : Tmp) : Option Value := match xcode P E k c st noLow with
  | some [(.normal, s, _)] => (match fget s.fr u with
    | .lit v => some v
    | _ => none)
  | _ => none
theorem regRun_ok (hm : P.follows .mixedOrders = true) {E : XEnv} (ht : PureOk P E.tp) (hk : KcOk P E) {k : Nat} {c : Code} {st : St} {u : Tmp} {v : Value} {fn : Func} (h : regRun P E k c st u = some v) (hres : fn.results = #[.tmp u]) : Tr P c st (Thn (fun s => Tr P .ret s (Ended P fn (.lit v))) (Ended P fn (.lit v))) := by
  unfold regRun at h
  split at h
  · rename_i s lo hr
    split at h
    · rename_i v' hv
      cases h
      refine ((xcode_ok hm ht hk k).toRunOk.tr _ _ _ _ hr).mono fun e s' hpo => ?_
      obtain ⟨rfl, he⟩ := post_one hpo
      refine thn_n (tr_ret (ended_r hres ?_))
      rw [← he.fr, hv]
      exact frz_imm (imm_lit _)
    · cases h
  · cases h
end
attribute [local irreducible] Tr Run RunD GS TG Le Wk Frz Fn' ImmG Flat WkFr WkSt
theorem imm_op (a b c : Int) : ImmG (gOp a b c) := (xflat_sound 20 _ (by kernel_rfl)).2
abbrev gSpy (e a b c s t : Int) : G := .agg [gInt e, gInt a, gInt b, .lit (.int .u64 c), gInt s, gInt t]
def ofC (a b c x y z : Int) : Int := if opC a b c x y z = true then -1 else if opC x y z a b c = true then 1 else 0
def spC (e a b c s t f x y z u v : Int) : Int := orI [sgn e f, ofC a b c x y z, sgn s u, sgn t v]
set_option maxHeartbeats 1000000 in
theorem compare_fn (e a b c s t f x y z u v : Int) : Fn' Tryz.prog [] 21 [gSpy e a b c s t, gSpy f x y z u v] (gInt (spC e a b c s t f x y z u v)) := by
  refine fn_enter Tryz.func21 rfl (by simp [Tryz.ntmps21]) ?_
  simp only [St.enter, enterFr, Tryz.ntmps21]
  refine tr_seq ?_
  refine tr_region ?_
  refine run_box (l := [gInt e, gInt a, gInt b, .lit (.int .u64 c), gInt s, gInt t]) (by kernel_rfl) (by decide) ?_
  refine run_box (l := [gInt f, gInt x, gInt y, .lit (.int .u64 z), gInt u, gInt v]) (by kernel_rfl) (by decide) ?_
  repeat' (first | apply tr_seq | apply tr_region | apply run_nil | apply thn_n | apply thn_e | apply thn_r | apply blk_e | apply blk_n | apply blk_r | (refine blk_ne ?_ ?_; decide) | apply tr_block | apply tr_skip | apply tr_label | apply tr_exit | apply tr_ret | (refine tr_region_draw (bars := []) mixed (by kernel_rfl) ?_) | apply rund_nil | ((first | apply run_v | apply rund_v); simp (disch := omega) [if_pos]; (first | rfl | exact ⟨rfl, rfl⟩); decide) | ((first | apply run_bs | apply run_app | apply run_build | apply run_box | apply run_alloc | apply rund_build); simp (disch := omega) [if_pos]; (first | rfl | exact ⟨rfl, rfl⟩ | exact ⟨rfl, rfl, rfl, rfl⟩); decide) | (apply run_sto; simp (disch := omega) [if_pos]; rfl))
  refine run_c (lessO_fn a b c x y z) (by kernel_rfl) (by decide) rfl (imm2 (imm_op _ _ _) (imm_op _ _ _)) ?_
  repeat' (first | apply tr_seq | apply tr_region | apply run_nil | apply thn_n | apply thn_e | apply thn_r | apply blk_e | apply blk_n | apply blk_r | (refine blk_ne ?_ ?_; decide) | apply tr_block | apply tr_skip | apply tr_label | apply tr_exit | apply tr_ret | (refine tr_region_draw (bars := []) mixed (by kernel_rfl) ?_) | apply rund_nil | ((first | apply run_v | apply rund_v); simp (disch := omega) [if_pos]; (first | rfl | exact ⟨rfl, rfl⟩); decide) | ((first | apply run_bs | apply run_app | apply run_build | apply run_box | apply run_alloc | apply rund_build); simp (disch := omega) [if_pos]; (first | rfl | exact ⟨rfl, rfl⟩ | exact ⟨rfl, rfl, rfl, rfl⟩); decide) | (apply run_sto; simp (disch := omega) [if_pos]; rfl))
  refine tr_cond2 (t := opC a b c x y z) (by simp) (fun h => ?_) (fun h => ?_)
  · have e0 : ofC a b c x y z = -1 := by unfold ofC; rw [if_pos h]
    unfold spC
    rw [e0]
    repeat' (first | apply tr_seq | apply tr_region | apply run_nil | apply thn_n | apply thn_e | apply thn_r | apply blk_e | apply blk_n | apply blk_r | (refine blk_ne ?_ ?_; decide) | apply tr_block | apply tr_skip | apply tr_label | apply tr_exit | apply tr_ret | (refine tr_region_draw (bars := [nope]) mixed (by kernel_rfl) ?_) | apply rund_nil | ((first | apply run_v | apply rund_v); simp (disch := omega) [if_pos]; (first | rfl | exact ⟨rfl, rfl⟩); decide) | ((first | apply run_bs | apply run_app | apply run_build | apply run_box | apply run_alloc | apply rund_build); simp (disch := omega) [if_pos]; (first | rfl | exact ⟨rfl, rfl⟩ | exact ⟨rfl, rfl, rfl, rfl⟩); decide) | (apply run_sto; simp (disch := omega) [if_pos]; rfl))
    exact regRun_ok mixed tpC_ok EC_kc (k := 100000) (u := 4) (by kernel_rfl) rfl
  · repeat' (first | apply tr_seq | apply tr_region | apply run_nil | apply thn_n | apply thn_e | apply thn_r | apply blk_e | apply blk_n | apply blk_r | (refine blk_ne ?_ ?_; decide) | apply tr_block | apply tr_skip | apply tr_label | apply tr_exit | apply tr_ret | (refine tr_region_draw (bars := []) mixed (by kernel_rfl) ?_) | apply rund_nil | ((first | apply run_v | apply rund_v); simp (disch := omega) [if_pos]; (first | rfl | exact ⟨rfl, rfl⟩); decide) | ((first | apply run_bs | apply run_app | apply run_build | apply run_box | apply run_alloc | apply rund_build); simp (disch := omega) [if_pos]; (first | rfl | exact ⟨rfl, rfl⟩ | exact ⟨rfl, rfl, rfl, rfl⟩); decide) | (apply run_sto; simp (disch := omega) [if_pos]; rfl))
    refine run_c (lessO_fn x y z a b c) (by kernel_rfl) (by decide) rfl (imm2 (imm_op _ _ _) (imm_op _ _ _)) ?_
    repeat' (first | apply tr_seq | apply tr_region | apply run_nil | apply thn_n | apply thn_e | apply thn_r | apply blk_e | apply blk_n | apply blk_r | (refine blk_ne ?_ ?_; decide) | apply tr_block | apply tr_skip | apply tr_label | apply tr_exit | apply tr_ret | (refine tr_region_draw (bars := []) mixed (by kernel_rfl) ?_) | apply rund_nil | ((first | apply run_v | apply rund_v); simp (disch := omega) [if_pos]; (first | rfl | exact ⟨rfl, rfl⟩); decide) | ((first | apply run_bs | apply run_app | apply run_build | apply run_box | apply run_alloc | apply rund_build); simp (disch := omega) [if_pos]; (first | rfl | exact ⟨rfl, rfl⟩ | exact ⟨rfl, rfl, rfl, rfl⟩); decide) | (apply run_sto; simp (disch := omega) [if_pos]; rfl))
    refine tr_cond2 (t := opC x y z a b c) (by simp) (fun h' => ?_) (fun h' => ?_)
    · have e0 : ofC a b c x y z = 1 := by unfold ofC; rw [if_neg (by rw [h]; decide), if_pos h']
      unfold spC
      rw [e0]
      repeat' (first | apply tr_seq | apply tr_region | apply run_nil | apply thn_n | apply thn_e | apply thn_r | apply blk_e | apply blk_n | apply blk_r | (refine blk_ne ?_ ?_; decide) | apply tr_block | apply tr_skip | apply tr_label | apply tr_exit | apply tr_ret | (refine tr_region_draw (bars := [nope]) mixed (by kernel_rfl) ?_) | apply rund_nil | ((first | apply run_v | apply rund_v); simp (disch := omega) [if_pos]; (first | rfl | exact ⟨rfl, rfl⟩); decide) | ((first | apply run_bs | apply run_app | apply run_build | apply run_box | apply run_alloc | apply rund_build); simp (disch := omega) [if_pos]; (first | rfl | exact ⟨rfl, rfl⟩ | exact ⟨rfl, rfl, rfl, rfl⟩); decide) | (apply run_sto; simp (disch := omega) [if_pos]; rfl))
      exact regRun_ok mixed tpC_ok EC_kc (k := 100000) (u := 4) (by kernel_rfl) rfl
    · have e0 : ofC a b c x y z = 0 := by unfold ofC; rw [if_neg (by rw [h]; decide), if_neg (by rw [h']; decide)]
      unfold spC
      rw [e0]
      repeat' (first | apply tr_seq | apply tr_region | apply run_nil | apply thn_n | apply thn_e | apply thn_r | apply blk_e | apply blk_n | apply blk_r | (refine blk_ne ?_ ?_; decide) | apply tr_block | apply tr_skip | apply tr_label | apply tr_exit | apply tr_ret | (refine tr_region_draw (bars := [nope]) mixed (by kernel_rfl) ?_) | apply rund_nil | ((first | apply run_v | apply rund_v); simp (disch := omega) [if_pos]; (first | rfl | exact ⟨rfl, rfl⟩); decide) | ((first | apply run_bs | apply run_app | apply run_build | apply run_box | apply run_alloc | apply rund_build); simp (disch := omega) [if_pos]; (first | rfl | exact ⟨rfl, rfl⟩ | exact ⟨rfl, rfl, rfl, rfl⟩); decide) | (apply run_sto; simp (disch := omega) [if_pos]; rfl))
      exact regRun_ok mixed tpC_ok EC_kc (k := 100000) (u := 4) (by kernel_rfl) rfl
end
section
open Go.RowKit
set_option linter.unusedVariables false
set_option linter.unusedSimpArgs false
section
variable {P : Program}
theorem sp_bind {α β : Type} {s : Sem α} {f : α → Sem β} {a : α} (h : spure P s = some a) : spure P (s >>= f) = spure P (f a) := by rw [spure_bind, h]; rfl
theorem sp_ite {α : Type} {c : Prop} [Decidable c] {a b : Sem α} : spure P (if c then a else b) = if c then spure P a else spure P b := by split <;> rfl
theorem sp_struct {d : Nat} {t : TypeId} {xs ys : Array Value} {fs : Array Field} (ht : spure P (underlying t) = some (.struct fs)) (hp : P.stoodInHeld t = false) : spure P (Op.equalIn (d + 1) t (.agg xs) (.agg ys)) = spure P (Op.eqFields d xs ys fs.toList) := by
  unfold Op.equalIn
  rw [sp_bind ht]
  simp only []
  rw [sp_bind (show spure P Go.program = some P from rfl)]
  rw [hp]
  simp only [Bool.false_eq_true, if_false]
  rw [← Array.forIn_toList]
  generalize fs.toList = l
  clear ht
  induction l with
  | nil => rfl
  | cons f fs ih =>
    rw [spure_bind] at ih
    rw [spure_bind, List.forIn_cons, spure_bind]
    unfold Op.eqFields
    by_cases hn : f.name ≠ "_"
    · rw [if_pos hn, if_pos hn]
      simp only [spure_bind]
      cases spure P (part f.type xs f.offset) with
      | none => rfl
      | some a =>
      cases spure P (part f.type ys f.offset) with
      | none => rfl
      | some b =>
      simp only [Option.bind_some]
      cases spure P (Op.equalIn d f.type a b) with
      | none => rfl
      | some r =>
      cases r with
      | false => rfl
      | true => exact ih
    · rw [if_neg hn, if_neg hn]
      exact ih
theorem sp_int {d : Nat} {xs ys : Array Value} {f : Field} {fs : List Field} {k k' : IntKind} {a b : Int} (hn : f.name ≠ "_") (hx : spure P (part f.type xs f.offset) = some (.int k a)) (hy : spure P (part f.type ys f.offset) = some (.int k b)) (ht : spure P (underlying f.type) = some (.int k')) : spure P (Op.eqFields (d + 1) xs ys (f :: fs)) = if a = b then spure P (Op.eqFields (d + 1) xs ys fs) else some false := by
  rw [Op.eqFields, if_pos hn, sp_bind hx, sp_bind hy]
  have e : spure P (Op.equalIn (d + 1) f.type (.int k a) (.int k b)) = some (a == b) := by
    unfold Op.equalIn
    rw [sp_bind ht]
    simp only [if_true]
    rfl
  rw [sp_bind e, sp_ite]
  by_cases h : a = b
  · simp [h]
  · rw [if_neg h, if_pos (by simp [h])]
    rfl
theorem sp_sub {d : Nat} {xs ys us vs : Array Value} {f : Field} {fs : List Field} {r : Bool} (hn : f.name ≠ "_") (hx : spure P (part f.type xs f.offset) = some (.agg us)) (hy : spure P (part f.type ys f.offset) = some (.agg vs)) (he : spure P (Op.equalIn d f.type (.agg us) (.agg vs)) = some r) : spure P (Op.eqFields d xs ys (f :: fs)) = if r = true then spure P (Op.eqFields d xs ys fs) else some false := by
  rw [Op.eqFields, if_pos hn, sp_bind hx, sp_bind hy, sp_bind he, sp_ite]
  cases r <;> rfl
theorem gb_neq_agg {t : TypeId} {p q : Operand} {l m : List G} {us vs : List Value} {r : Bool} (hl : glits l = some us) (hm : glits m = some vs) (hg : spure P (eqGuard .neq t p q (.agg us.toArray) (.agg vs.toArray)) = some ()) (he : spure P (Op.equalIn 10000 t (.agg us.toArray) (.agg vs.toArray)) = some r) : gbin P .neq t p q (.agg l) (.agg m) = some (.lit (.bool (!r))) := by
  unfold gbin
  simp only [gval, hl, hm, Option.map_some]
  rw [sp_bind hg]
  have e : spure P (binOp .neq t (.agg us.toArray) (.agg vs.toArray)) = some (.bool (!r)) := by
    show spure P (Op.equalIn 10000 t (.agg us.toArray) (.agg vs.toArray) >>= fun b => pure (Value.bool (!b))) = _
    rw [sp_bind he]
    rfl
  rw [e]
  rfl
end
end
section
open Go.RowKit
set_option linter.unusedVariables false
set_option linter.unusedSimpArgs false
attribute [local irreducible] Tr Run RunD GS TG Le Wk Frz Fn' ImmG Flat WkFr WkSt
theorem imm_spy (e a b c s t : Int) : ImmG (gSpy e a b c s t) := (xflat_sound 20 _ (by kernel_rfl)).2
set_option maxHeartbeats 1000000 in
theorem sless_fn (e a b c s t f x y z u v : Int) : Fn' Tryz.prog [] 13 [gSpy e a b c s t, gSpy f x y z u v] (.lit (.bool (decide (spC e a b c s t f x y z u v < 0)))) := by
  refine fn_enter Tryz.func13 rfl (by simp [Tryz.ntmps13]) ?_
  simp only [St.enter, enterFr, Tryz.ntmps13]
  refine tr_seq ?_
  refine tr_region ?_
  refine run_box (l := [gInt e, gInt a, gInt b, .lit (.int .u64 c), gInt s, gInt t]) (by kernel_rfl) (by decide) ?_
  refine run_box (l := [gInt f, gInt x, gInt y, .lit (.int .u64 z), gInt u, gInt v]) (by kernel_rfl) (by decide) ?_
  repeat' (first | apply tr_seq | apply tr_region | apply run_nil | apply thn_n | apply thn_e | apply thn_r | apply blk_e | apply blk_n | apply blk_r | (refine blk_ne ?_ ?_; decide) | apply tr_block | apply tr_skip | apply tr_label | apply tr_exit | apply tr_ret | (refine tr_region_draw (bars := []) mixed (by kernel_rfl) ?_) | apply rund_nil | ((first | apply run_v | apply rund_v); simp (disch := omega) [if_pos]; (first | rfl | exact ⟨rfl, rfl⟩); decide) | ((first | apply run_bs | apply run_app | apply run_build | apply run_box | apply run_alloc | apply rund_build); simp (disch := omega) [if_pos]; (first | rfl | exact ⟨rfl, rfl⟩ | exact ⟨rfl, rfl, rfl, rfl⟩); decide) | (apply run_sto; simp (disch := omega) [if_pos]; rfl))
  refine run_c (compare_fn e a b c s t f x y z u v) (by kernel_rfl) (by decide) rfl (imm2 (imm_spy _ _ _ _ _ _) (imm_spy _ _ _ _ _ _)) ?_
  repeat' (first | apply tr_seq | apply tr_region | apply run_nil | apply thn_n | apply thn_e | apply thn_r | apply blk_e | apply blk_n | apply blk_r | (refine blk_ne ?_ ?_; decide) | apply tr_block | apply tr_skip | apply tr_label | apply tr_exit | apply tr_ret | (refine tr_region_draw (bars := []) mixed (by kernel_rfl) ?_) | apply rund_nil | ((first | apply run_v | apply rund_v); simp (disch := omega) [if_pos]; (first | rfl | exact ⟨rfl, rfl⟩); decide) | ((first | apply run_bs | apply run_app | apply run_build | apply run_box | apply run_alloc | apply rund_build); simp (disch := omega) [if_pos]; (first | rfl | exact ⟨rfl, rfl⟩ | exact ⟨rfl, rfl, rfl, rfl⟩); decide) | (apply run_sto; simp (disch := omega) [if_pos]; rfl))
  exact ended_r rfl (frz_bool rfl)
abbrev vOp (a b c : Int) : Array Value := #[.int .i64 a, .int .i64 b, .int .u64 c]
abbrev vSpy (e a b c s t : Int) : Array Value := #[.int .i64 e, .int .i64 a, .int .i64 b, .int .u64 c, .int .i64 s, .int .i64 t]
theorem eq_op (d : Nat) (a b c x y z : Int) : spure Tryz.prog (Op.equalIn (d + 2) 36 (.agg (vOp a b c)) (.agg (vOp x y z))) = some (decide (a = x ∧ b = y ∧ c = z)) := by
  rw [sp_struct (fs := #[⟨"By", 3, 0, false, "", "", 0⟩, ⟨"Seq", 3, 1, false, "", "", 8⟩, ⟨"Sum", 34, 2, false, "", "", 16⟩]) (by kernel_rfl) (by kernel_rfl)]
  simp only [Array.toList]
  rw [sp_int (k := .i64) (k' := .i64) (a := a) (b := x) (by decide) (by kernel_rfl) (by kernel_rfl) (by kernel_rfl)]
  rw [sp_int (k := .i64) (k' := .i64) (a := b) (b := y) (by decide) (by kernel_rfl) (by kernel_rfl) (by kernel_rfl)]
  rw [sp_int (k := .u64) (k' := .u64) (a := c) (b := z) (by decide) (by kernel_rfl) (by kernel_rfl) (by kernel_rfl)]
  by_cases h1 : a = x
  · by_cases h2 : b = y
    · by_cases h3 : c = z
      · simp [h1, h2, h3, Op.eqFields, spure_pure]
      · simp [h1, h2, h3]
    · simp [h1, h2]
  · simp [h1]
theorem neq_op {p q : Operand} (a b c x y z : Int) : gbin Tryz.prog .neq 36 p q (gOp a b c) (gOp x y z) = some (.lit (.bool (!decide (a = x ∧ b = y ∧ c = z)))) :=
  gb_neq_agg (us := [.int .i64 a, .int .i64 b, .int .u64 c]) (vs := [.int .i64 x, .int .i64 y, .int .u64 z]) (by kernel_rfl) (by kernel_rfl) (by kernel_rfl) (eq_op 9998 a b c x y z)
theorem eq_spy (d : Nat) (e a b c s t f x y z u v : Int) : spure Tryz.prog (Op.equalIn (d + 3) 38 (.agg (vSpy e a b c s t)) (.agg (vSpy f x y z u v))) = some (decide (e = f ∧ (a = x ∧ b = y ∧ c = z) ∧ s = u ∧ t = v)) := by
  rw [sp_struct (fs := #[⟨"Kind", 3, 0, false, "", "", 0⟩, ⟨"Of", 36, 1, false, "", "", 8⟩, ⟨"N", 3, 4, false, "", "", 32⟩, ⟨"M", 3, 5, false, "", "", 40⟩]) (by kernel_rfl) (by kernel_rfl)]
  simp only [Array.toList]
  rw [sp_int (k := .i64) (k' := .i64) (a := e) (b := f) (by decide) (by kernel_rfl) (by kernel_rfl) (by kernel_rfl)]
  rw [sp_sub (d := d + 2) (f := ⟨"Of", 36, 1, false, "", "", 8⟩) (fs := [⟨"N", 3, 4, false, "", "", 32⟩, ⟨"M", 3, 5, false, "", "", 40⟩]) (us := vOp a b c) (vs := vOp x y z) (by decide) (by kernel_rfl) (by kernel_rfl) (eq_op d a b c x y z)]
  rw [sp_int (k := .i64) (k' := .i64) (a := s) (b := u) (by decide) (by kernel_rfl) (by kernel_rfl) (by kernel_rfl)]
  rw [sp_int (k := .i64) (k' := .i64) (a := t) (b := v) (by decide) (by kernel_rfl) (by kernel_rfl) (by kernel_rfl)]
  by_cases h1 : e = f
  · by_cases h2 : a = x ∧ b = y ∧ c = z
    · by_cases h3 : s = u
      · by_cases h4 : t = v
        · simp [h1, h2, h3, h4, Op.eqFields, spure_pure]
        · simp [h1, h2, h3, h4]
      · simp [h1, h2, h3]
    · simp [h1, h2]
  · simp [h1]
theorem neq_spy {p q : Operand} (e a b c s t f x y z u v : Int) : gbin Tryz.prog .neq 38 p q (gSpy e a b c s t) (gSpy f x y z u v) = some (.lit (.bool (!decide (e = f ∧ (a = x ∧ b = y ∧ c = z) ∧ s = u ∧ t = v)))) :=
  gb_neq_agg (us := [.int .i64 e, .int .i64 a, .int .i64 b, .int .u64 c, .int .i64 s, .int .i64 t]) (vs := [.int .i64 f, .int .i64 x, .int .i64 y, .int .u64 z, .int .i64 u, .int .i64 v]) (by kernel_rfl) (by kernel_rfl) (by kernel_rfl) (eq_spy 9997 e a b c s t f x y z u v)
def spR (e a b c s t f x y z u v : Int) : Bool := if e = f then (if a = x ∧ b = y ∧ c = z then (if s = u then decide (t < v) else decide (s < u)) else opR a b c x y z) else decide (e < f)
set_option maxHeartbeats 2000000 in
theorem rless_fn (e a b c s t f x y z u v : Int) : Fn' Tryz.prog [] 14 [gSpy e a b c s t, gSpy f x y z u v] (.lit (.bool (spR e a b c s t f x y z u v))) := by
  refine fn_enter Tryz.func14 rfl (by simp [Tryz.ntmps14]) ?_
  simp only [St.enter, enterFr, Tryz.ntmps14]
  refine tr_seq ?_
  refine tr_region ?_
  refine run_box (l := [gInt e, gInt a, gInt b, .lit (.int .u64 c), gInt s, gInt t]) (by kernel_rfl) (by decide) ?_
  refine run_box (l := [gInt f, gInt x, gInt y, .lit (.int .u64 z), gInt u, gInt v]) (by kernel_rfl) (by decide) ?_
  repeat' (first | apply tr_seq | apply tr_region | apply run_nil | apply thn_n | apply thn_e | apply thn_r | apply blk_e | apply blk_n | apply blk_r | (refine blk_ne ?_ ?_; decide) | apply tr_block | apply tr_skip | apply tr_label | apply tr_exit | apply tr_ret | (refine tr_region_draw (bars := []) mixed (by kernel_rfl) ?_) | apply rund_nil | ((first | apply run_v | apply rund_v); simp (disch := omega) [if_pos]; (first | rfl | exact ⟨rfl, rfl⟩); decide) | ((first | apply run_bs | apply run_app | apply run_build | apply run_box | apply run_alloc | apply rund_build); simp (disch := omega) [if_pos]; (first | rfl | exact ⟨rfl, rfl⟩ | exact ⟨rfl, rfl, rfl, rfl⟩); decide) | (apply run_sto; simp (disch := omega) [if_pos]; rfl))
  refine tr_condP (p := e ≠ f) ?_ (fun h => ?_) (fun h => ?_)
  · simp
  · repeat' (first | apply tr_seq | apply tr_region | apply run_nil | apply thn_n | apply thn_e | apply thn_r | apply blk_e | apply blk_n | apply blk_r | (refine blk_ne ?_ ?_; decide) | apply tr_block | apply tr_skip | apply tr_label | apply tr_exit | apply tr_ret | (refine tr_region_draw (bars := []) mixed (by kernel_rfl) ?_) | apply rund_nil | ((first | apply run_v | apply rund_v); simp (disch := omega) [if_pos]; (first | rfl | exact ⟨rfl, rfl⟩); decide) | ((first | apply run_bs | apply run_app | apply run_build | apply run_box | apply run_alloc | apply rund_build); simp (disch := omega) [if_pos]; (first | rfl | exact ⟨rfl, rfl⟩ | exact ⟨rfl, rfl, rfl, rfl⟩); decide) | (apply run_sto; simp (disch := omega) [if_pos]; rfl))
    exact ended_r rfl (frz_bool (by unfold spR; rw [if_neg h]))
  · have h := Decidable.of_not_not h
    repeat' (first | apply tr_seq | apply tr_region | apply run_nil | apply thn_n | apply thn_e | apply thn_r | apply blk_e | apply blk_n | apply blk_r | (refine blk_ne ?_ ?_; decide) | apply tr_block | apply tr_skip | apply tr_label | apply tr_exit | apply tr_ret | (refine tr_region_draw (bars := []) mixed (by kernel_rfl) ?_) | apply rund_nil | ((first | apply run_v | apply rund_v); simp (disch := omega) [if_pos, neq_op]; (first | rfl | exact ⟨rfl, rfl⟩); decide) | ((first | apply run_bs | apply run_app | apply run_build | apply run_box | apply run_alloc | apply rund_build); simp (disch := omega) [if_pos, neq_op]; (first | rfl | exact ⟨rfl, rfl⟩ | exact ⟨rfl, rfl, rfl, rfl⟩); decide) | (apply run_sto; simp (disch := omega) [if_pos, neq_op]; rfl))
    refine tr_condP (p := ¬ (a = x ∧ b = y ∧ c = z)) ?_ (fun h1 => ?_) (fun h1 => ?_)
    · simp
    · repeat' (first | apply tr_seq | apply tr_region | apply run_nil | apply thn_n | apply thn_e | apply thn_r | apply blk_e | apply blk_n | apply blk_r | (refine blk_ne ?_ ?_; decide) | apply tr_block | apply tr_skip | apply tr_label | apply tr_exit | apply tr_ret | (refine tr_region_draw (bars := []) mixed (by kernel_rfl) ?_) | apply rund_nil | ((first | apply run_v | apply rund_v); simp (disch := omega) [if_pos]; (first | rfl | exact ⟨rfl, rfl⟩); decide) | ((first | apply run_bs | apply run_app | apply run_build | apply run_box | apply run_alloc | apply rund_build); simp (disch := omega) [if_pos]; (first | rfl | exact ⟨rfl, rfl⟩ | exact ⟨rfl, rfl, rfl, rfl⟩); decide) | (apply run_sto; simp (disch := omega) [if_pos]; rfl))
      refine run_c (lessR_fn a b c x y z) (by kernel_rfl) (by decide) rfl (imm2 (imm_op _ _ _) (imm_op _ _ _)) ?_
      repeat' (first | apply tr_seq | apply tr_region | apply run_nil | apply thn_n | apply thn_e | apply thn_r | apply blk_e | apply blk_n | apply blk_r | (refine blk_ne ?_ ?_; decide) | apply tr_block | apply tr_skip | apply tr_label | apply tr_exit | apply tr_ret | (refine tr_region_draw (bars := []) mixed (by kernel_rfl) ?_) | apply rund_nil | ((first | apply run_v | apply rund_v); simp (disch := omega) [if_pos]; (first | rfl | exact ⟨rfl, rfl⟩); decide) | ((first | apply run_bs | apply run_app | apply run_build | apply run_box | apply run_alloc | apply rund_build); simp (disch := omega) [if_pos]; (first | rfl | exact ⟨rfl, rfl⟩ | exact ⟨rfl, rfl, rfl, rfl⟩); decide) | (apply run_sto; simp (disch := omega) [if_pos]; rfl))
      exact ended_r rfl (frz_bool (by unfold spR; rw [if_pos h, if_neg h1]))
    · have h1 := Decidable.of_not_not h1
      repeat' (first | apply tr_seq | apply tr_region | apply run_nil | apply thn_n | apply thn_e | apply thn_r | apply blk_e | apply blk_n | apply blk_r | (refine blk_ne ?_ ?_; decide) | apply tr_block | apply tr_skip | apply tr_label | apply tr_exit | apply tr_ret | (refine tr_region_draw (bars := []) mixed (by kernel_rfl) ?_) | apply rund_nil | ((first | apply run_v | apply rund_v); simp (disch := omega) [if_pos]; (first | rfl | exact ⟨rfl, rfl⟩); decide) | ((first | apply run_bs | apply run_app | apply run_build | apply run_box | apply run_alloc | apply rund_build); simp (disch := omega) [if_pos]; (first | rfl | exact ⟨rfl, rfl⟩ | exact ⟨rfl, rfl, rfl, rfl⟩); decide) | (apply run_sto; simp (disch := omega) [if_pos]; rfl))
      refine tr_condP (p := s ≠ u) ?_ (fun h2 => ?_) (fun h2 => ?_)
      · simp
      · repeat' (first | apply tr_seq | apply tr_region | apply run_nil | apply thn_n | apply thn_e | apply thn_r | apply blk_e | apply blk_n | apply blk_r | (refine blk_ne ?_ ?_; decide) | apply tr_block | apply tr_skip | apply tr_label | apply tr_exit | apply tr_ret | (refine tr_region_draw (bars := []) mixed (by kernel_rfl) ?_) | apply rund_nil | ((first | apply run_v | apply rund_v); simp (disch := omega) [if_pos]; (first | rfl | exact ⟨rfl, rfl⟩); decide) | ((first | apply run_bs | apply run_app | apply run_build | apply run_box | apply run_alloc | apply rund_build); simp (disch := omega) [if_pos]; (first | rfl | exact ⟨rfl, rfl⟩ | exact ⟨rfl, rfl, rfl, rfl⟩); decide) | (apply run_sto; simp (disch := omega) [if_pos]; rfl))
        exact ended_r rfl (frz_bool (by unfold spR; rw [if_pos h, if_pos h1, if_neg h2]))
      · have h2 := Decidable.of_not_not h2
        repeat' (first | apply tr_seq | apply tr_region | apply run_nil | apply thn_n | apply thn_e | apply thn_r | apply blk_e | apply blk_n | apply blk_r | (refine blk_ne ?_ ?_; decide) | apply tr_block | apply tr_skip | apply tr_label | apply tr_exit | apply tr_ret | (refine tr_region_draw (bars := []) mixed (by kernel_rfl) ?_) | apply rund_nil | ((first | apply run_v | apply rund_v); simp (disch := omega) [if_pos]; (first | rfl | exact ⟨rfl, rfl⟩); decide) | ((first | apply run_bs | apply run_app | apply run_build | apply run_box | apply run_alloc | apply rund_build); simp (disch := omega) [if_pos]; (first | rfl | exact ⟨rfl, rfl⟩ | exact ⟨rfl, rfl, rfl, rfl⟩); decide) | (apply run_sto; simp (disch := omega) [if_pos]; rfl))
        exact ended_r rfl (frz_bool (by unfold spR; rw [if_pos h, if_pos h1, if_pos h2]))
end
section
theorem opC_eq (a b c x y z : Int) : opC a b c x y z = opR a b c x y z := by
  unfold opC opR
  simp only [orI, sgn]
  rcases Int.lt_trichotomy a x with h | h | h
  · have h1 : ¬ x < a := by omega
    have h2 : ¬ a = x := by omega
    simp [h, h2]
  · subst h
    rcases Int.lt_trichotomy b y with h | h | h
    · have h2 : ¬ b = y := by omega
      simp [h, h2]
    · subst h
      rcases Int.lt_trichotomy c z with h | h | h
      · simp [h]
      · subst h; simp
      · have h1 : ¬ c < z := by omega
        simp [h, h1]
    · have h1 : ¬ b < y := by omega
      have h2 : ¬ b = y := by omega
      simp [h, h1, h2]
  · have h1 : ¬ a < x := by omega
    have h2 : ¬ a = x := by omega
    simp [h, h1, h2]
theorem opR_iff (a b c x y z : Int) : opR a b c x y z = true ↔ (a < x ∨ (a = x ∧ (b < y ∨ (b = y ∧ c < z)))) := by
  unfold opR
  by_cases h : a = x
  · subst h
    by_cases h : b = y
    · subst h; simp
    · simp [h]
  · simp [h]
def opLt (a b c x y z : Int) : Prop := a < x ∨ (a = x ∧ (b < y ∨ (b = y ∧ c < z)))
instance (a b c x y z : Int) : Decidable (opLt a b c x y z) := by unfold opLt; infer_instance
def spLt (e a b c s t f x y z u v : Int) : Prop := e < f ∨ (e = f ∧ (opLt a b c x y z ∨ (a = x ∧ b = y ∧ c = z ∧ (s < u ∨ (s = u ∧ t < v)))))
theorem spC_iff (e a b c s t f x y z u v : Int) : spC e a b c s t f x y z u v < 0 ↔ spLt e a b c s t f x y z u v := by
  have o1 : opC a b c x y z = true ↔ opLt a b c x y z := by rw [opC_eq]; exact opR_iff ..
  have o2 : opC x y z a b c = true ↔ opLt x y z a b c := by rw [opC_eq]; exact opR_iff ..
  unfold spC ofC
  simp only [orI, sgn, o1, o2]
  unfold spLt opLt
  rcases Int.lt_trichotomy e f with h | h | h
  · have h1 : ¬ f < e := by omega
    have h2 : ¬ e = f := by omega
    simp [h]
  · subst h
    simp only [Int.lt_irrefl, if_false, if_true, false_or, true_and]
    by_cases p : (a < x ∨ (a = x ∧ (b < y ∨ (b = y ∧ c < z))))
    · simp [p]
    · by_cases q : (x < a ∨ (x = a ∧ (y < b ∨ (y = b ∧ z < c))))
      · simp only [p, q, if_false, if_true]
        constructor
        · intro h; simp at h
        · rintro (h | ⟨h1, h2, h3, _⟩)
          · first | exact h.elim | exact absurd h p
          · omega
      · have : a = x ∧ b = y ∧ c = z := by omega
        obtain ⟨rfl, rfl, rfl⟩ := this
        rcases Int.lt_trichotomy s u with h | h | h
        · simp [h]
        · subst h
          rcases Int.lt_trichotomy t v with h | h | h
          · simp [h]
          · subst h; simp
          · have h1 : ¬ t < v := by omega
            simp [h, h1]
        · have h1 : ¬ s < u := by omega
          have h2 : ¬ s = u := by omega
          simp [h, h1, h2]
  · have h1 : ¬ e < f := by omega
    have h2 : ¬ e = f := by omega
    simp [h, h1, h2]
end
section
open Go.RowKit
set_option linter.unusedVariables false
set_option linter.unusedSimpArgs false
attribute [local irreducible] Tr Run RunD GS TG Le Wk Frz Fn' ImmG Flat WkFr WkSt
section gund
variable {P : Program} {ops : Array Oper} {bars : List Nat} {K : St → Prop} {ty : TypeId} {pos : String} {af : Array Edge} {rest : List Oper} {n j : Nat} {gl : List (Nat × List G)} {fr : Fr} {σ : Sto} {c p d : Nat} {rr : Bool} {gq : Option (Nat × Bool)}
theorem gund_v {op : Op} {g : G} (hw : gwant ⟨n, gl, fr, σ, c, p, rr⟩ ops ⟨some d, op, ty, pos, af, gq⟩ = some true) (he : evVal P (gev ⟨n, gl, fr, σ, c, p, rr⟩) σ ⟨some d, op, ty, pos, af, gq⟩ = some g) (hd : d < n) (h : RunD P ops bars K (j + 1) rest ⟨n, gl, (d, g) :: fr, σ, c, p, rr⟩) : RunD P ops bars K j (⟨some d, op, ty, pos, af, gq⟩ :: rest) ⟨n, gl, fr, σ, c, p, rr⟩ := by
  unfold RunD
  exact .inl ⟨hw, _, tg_val (fun _ e => by cases e; exact hd) he, h⟩
theorem gund_n {op : Op} (hw : gwant ⟨n, gl, fr, σ, c, p, rr⟩ ops ⟨some d, op, ty, pos, af, gq⟩ = some false) (h : RunD P ops bars K (j + 1) rest ⟨n, gl, (d, .lit undef) :: fr, σ, c, p, rr⟩) : RunD P ops bars K j (⟨some d, op, ty, pos, af, gq⟩ :: rest) ⟨n, gl, fr, σ, c, p, rr⟩ := by
  unfold RunD
  exact .inr (.inl ⟨hw, h⟩)
theorem gund_c {fid : FuncId} {xs : Array Operand} {ats : Array TypeId} {vs : List G} {r : G} (hw : gwant ⟨n, gl, fr, σ, c, p, rr⟩ ops ⟨some d, .call { callee := .value (.func fid), args := xs, argTypes := ats }, ty, pos, af, gq⟩ = some true) (hv : xs.toList.map (gev ⟨n, gl, fr, σ, c, p, rr⟩) = vs) (hc : callable P fid = true) (hi : ∀ g ∈ vs, ImmG g) (hF : Fn' P gl fid vs r) (hd : d < n) (h : RunD P ops bars K (j + 1) rest ⟨n, gl, (d, r) :: fr, σ, c, p, rr⟩) :
    RunD P ops bars K j (⟨some d, .call { callee := .value (.func fid), args := xs, argTypes := ats }, ty, pos, af, gq⟩ :: rest) ⟨n, gl, fr, σ, c, p, rr⟩ := by
  subst hv
  unfold RunD
  exact .inl ⟨hw, _, tg_call (fst := []) (cap := []) rfl (fun _ e => by cases e; exact hd) rfl hc (by simpa using hi) (by simpa using hF), h⟩
theorem gun_n {op : Op} (hw : gwant ⟨n, gl, fr, σ, c, p, rr⟩ ops ⟨some d, op, ty, pos, af, gq⟩ = some false) (hd : d < n) (h : Run P ops K rest ⟨n, gl, (d, .lit undef) :: fr, σ, c, p, rr⟩) : Run P ops K (⟨some d, op, ty, pos, af, gq⟩ :: rest) ⟨n, gl, fr, σ, c, p, rr⟩ := by
  unfold Run
  exact .inr ⟨hw, (fun _ e => by cases e; exact hd), h⟩
end gund
structure Tm where
  e : Int
  a : Int
  b : Int
  c : Int
  s : Int
  t : Int
  deriving DecidableEq, Inhabited
def gT (m : Tm) : G := gSpy m.e m.a m.b m.c m.s m.t
def cT (m : Tm) : List G := [gInt m.e, gInt m.a, gInt m.b, .lit (.int .u64 m.c), gInt m.s, gInt m.t]
def ltT (m q : Tm) : Prop := spLt m.e m.a m.b m.c m.s m.t q.e q.a q.b q.c q.s q.t
instance (m q : Tm) : Decidable (ltT m q) := by unfold ltT spLt; infer_instance
theorem lessT {gl : List (Nat × List G)} (m q : Tm) : Fn' Tryz.prog gl 13 [gT m, gT q] (.lit (.bool (decide (ltT m q)))) := by
  have h := sless_fn m.e m.a m.b m.c m.s m.t q.e q.a q.b q.c q.s q.t
  rw [show decide (spC m.e m.a m.b m.c m.s m.t q.e q.a q.b q.c q.s q.t < 0) = decide (ltT m q) from decide_eq_decide.2 (spC_iff ..)] at h
  exact fn_glC h
theorem spR_iff (m q : Tm) : spR m.e m.a m.b m.c m.s m.t q.e q.a q.b q.c q.s q.t = decide (ltT m q) := by
  rw [Bool.eq_iff_iff, decide_eq_true_iff]
  unfold spR ltT spLt
  have o := opR_iff m.a m.b m.c q.a q.b q.c
  by_cases h : m.e = q.e
  · rw [if_pos h]
    by_cases h1 : m.a = q.a ∧ m.b = q.b ∧ m.c = q.c
    · rw [if_pos h1]
      unfold opLt
      by_cases h2 : m.s = q.s
      · rw [if_pos h2, decide_eq_true_iff]; omega
      · rw [if_neg h2, decide_eq_true_iff]; omega
    · rw [if_neg h1, o]
      unfold opLt
      omega
  · rw [if_neg h, decide_eq_true_iff]
    unfold opLt
    omega
theorem lessTR {gl : List (Nat × List G)} (m q : Tm) : Fn' Tryz.prog gl 14 [gT m, gT q] (.lit (.bool (decide (ltT m q)))) := by
  have h := rless_fn m.e m.a m.b m.c m.s m.t q.e q.a q.b q.c q.s q.t
  rw [spR_iff] at h
  exact fn_glC h
theorem ltT_asym {m q : Tm} (h : ltT m q) : ¬ ltT q m := by
  unfold ltT spLt opLt at *
  omega
theorem ltT_trans {m q r : Tm} (h : ltT m q) (k : ltT q r) : ltT m r := by
  unfold ltT spLt opLt at *
  omega
theorem ltT_tot {m q : Tm} (h : ¬ ltT m q) (k : ¬ ltT q m) : m = q := by
  unfold ltT spLt opLt at *
  obtain ⟨e, a, b, c, s, t⟩ := m
  obtain ⟨f, x, y, z, u, v⟩ := q
  simp only [Tm.mk.injEq] at *
  omega
theorem imm_T (m : Tm) : ImmG (gT m) := imm_spy ..
end
section
open Go.RowKit
set_option linter.unusedVariables false
def tpCmp (tp : XPure) : XPure := fun fid gs gl => bif Nat.beq fid 21 then (match gs with
    | [.agg [.lit (.int .i64 e), .lit (.int .i64 a), .lit (.int .i64 b), .lit (.int .u64 c), .lit (.int .i64 s), .lit (.int .i64 t)], .agg [.lit (.int .i64 f), .lit (.int .i64 x), .lit (.int .i64 y), .lit (.int .u64 z), .lit (.int .i64 u), .lit (.int .i64 v)]] => some (gInt (spC e a b c s t f x y z u v))
    | _ => none) else tp fid gs gl
theorem tpCmp_ok {tp : XPure} (h : PureOk Tryz.prog tp) : PureOk Tryz.prog (tpCmp tp) := by
  intro fid gs gl r e
  unfold tpCmp at e
  cases h1 : Nat.beq fid 21 with
  | true =>
    rw [h1] at e
    obtain rfl := Nat.eq_of_beq_eq_true h1
    simp only [cond_true] at e
    split at e
    · cases e
      exact ⟨fn_glC (compare_fn _ _ _ _ _ _ _ _ _ _ _ _), flat_lit _, by kernel_rfl⟩
    · cases e
  | false =>
    rw [h1] at e
    exact h fid gs gl r e
/-- Calls of values of functions of two terms. -/
def pcT : Operand → Array Operand → Array TypeId → Bool := fun _ _ ts => match ts.toList with
  | [a, b] => bif Nat.beq a 38 then Nat.beq b 38 else false
  | _ => false
end
end Go.Proofs.YtjbbgjbknfoddaaGreatDoor
