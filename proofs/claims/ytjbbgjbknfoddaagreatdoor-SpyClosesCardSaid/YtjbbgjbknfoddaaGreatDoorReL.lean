/- Same, Around, Term, one, Terms of huddleref34: walked. -/
import Derived.Test.YtjbbgjbknfoddaaGreatDoorRe6
import Derived.Test.YtjbbgjbknfoddaaGreatDoorEC
namespace Go.Proofs.YtjbbgjbknfoddaaGreatDoor
section
open Go.RowKit
set_option linter.unusedVariables false
set_option linter.unusedSimpArgs false
attribute [local irreducible] gT
attribute [local irreducible] Tr Run RunD GS TG Le Wk Frz Fn' ImmG Flat WkFr WkSt EndM
set_option maxHeartbeats 1000000 in
theorem same_fn (gl : List (Nat × List G)) (a b : List Tm) (hl : a.length < 4611686018427387904) : Fn' Tryz.prog gl 8 [rowT a, rowT b] (.lit (.bool (decide (a = b)))) := by
  refine fn_enter Tryz.func8 rfl (by simp [Tryz.ntmps8]) ?_
  simp only [St.enter, enterFr, Tryz.ntmps8]
  repeat' (first | apply tr_seq | apply tr_region | apply run_nil | apply thn_n | apply thn_e | apply thn_r | apply blk_e | apply blk_n | apply blk_r | (refine blk_ne ?_ ?_; decide) | apply tr_block | apply tr_skip | apply tr_label | apply tr_exit | apply tr_ret | (refine tr_region_draw (bars := []) mixed (by kernel_rfl) ?_) | apply rund_nil | ((first | apply run_v | apply rund_v); simp (disch := omega) [if_pos]; (first | rfl | exact ⟨rfl, rfl⟩); decide) | ((first | apply run_bs | apply run_app | apply run_build | apply run_box | apply run_alloc | apply rund_build); simp (disch := omega) [if_pos]; (first | rfl | exact ⟨rfl, rfl⟩ | exact ⟨rfl, rfl, rfl, rfl⟩); decide) | (apply run_sto; simp (disch := omega) [if_pos]; rfl))
  refine tr_condP (p := ¬ a.length = b.length) ?_ (fun h => ?_) (fun h => ?_)
  · simp
    omega
  · repeat' (first | apply tr_seq | apply tr_region | apply run_nil | apply thn_n | apply thn_e | apply thn_r | apply blk_e | apply blk_n | apply blk_r | (refine blk_ne ?_ ?_; decide) | apply tr_block | apply tr_skip | apply tr_label | apply tr_exit | apply tr_ret | (refine tr_region_draw (bars := []) mixed (by kernel_rfl) ?_) | apply rund_nil | ((first | apply run_v | apply rund_v); simp (disch := omega) [if_pos]; (first | rfl | exact ⟨rfl, rfl⟩); decide) | ((first | apply run_bs | apply run_app | apply run_build | apply run_box | apply run_alloc | apply rund_build); simp (disch := omega) [if_pos]; (first | rfl | exact ⟨rfl, rfl⟩ | exact ⟨rfl, rfl, rfl, rfl⟩); decide) | (apply run_sto; simp (disch := omega) [if_pos]; rfl))
    refine ended_r rfl (frz_bool ?_)
    exact (decide_eq_false (fun e => h (by rw [e]))).symm
  have h := Decidable.of_not_not h
  repeat' (first | apply tr_seq | apply tr_region | apply run_nil | apply thn_n | apply thn_e | apply thn_r | apply blk_e | apply blk_n | apply blk_r | (refine blk_ne ?_ ?_; decide) | apply tr_block | apply tr_skip | apply tr_label | apply tr_exit | apply tr_ret | (refine tr_region_draw (bars := []) mixed (by kernel_rfl) ?_) | apply rund_nil | ((first | apply run_v | apply rund_v); simp (disch := omega) [if_pos]; (first | rfl | exact ⟨rfl, rfl⟩); decide) | ((first | apply run_bs | apply run_app | apply run_build | apply run_box | apply run_alloc | apply rund_build); simp (disch := omega) [if_pos]; (first | rfl | exact ⟨rfl, rfl⟩ | exact ⟨rfl, rfl, rfl, rfl⟩); decide) | (apply run_sto; simp (disch := omega) [if_pos]; rfl))
  refine tr_loop (fun q : {q : Nat // q ≤ a.length ∧ a.take q = b.take q} => ⟨26, gl, [(0, rowT a), (1, rowT b), (5, gInt (q.1 : Int))], [], 0, 0, false⟩) (fun q => a.length - q.1) ⟨0, by simp⟩ ?_ ?_
  · (refine le_to [] (by decide) (by simp) (by simp) ?_ ?_; (repeat' (first | exact wkfr_nil | refine wkfr_cons ?_ ?_)); (all_goals (try (first | exact wk_junk | exact wk_imm (imm_lit _) | exact wk_imm (imm_sl _ _) | exact wk_imm (imm_ptr _ _) | exact wk_rsl rfl | exact wk_rslE rfl (by simp) | exact wk_ref rfl | exact wkst_nil | exact wk_int (by omega) | refine wkst_eq rfl rfl ?_ ?_ wkst_nil))))
  · rintro ⟨i, hi, hm⟩
    dsimp only
    repeat' (first | apply tr_seq | apply tr_region | apply run_nil | apply thn_n | apply thn_e | apply thn_r | apply blk_e | apply blk_n | apply blk_r | (refine blk_ne ?_ ?_; decide) | apply tr_block | apply tr_skip | apply tr_label | apply tr_exit | apply tr_ret | (refine tr_region_draw (bars := []) mixed (by kernel_rfl) ?_) | apply rund_nil | ((first | apply run_v | apply rund_v); simp (disch := omega) [if_pos]; (first | rfl | exact ⟨rfl, rfl⟩); decide) | ((first | apply run_bs | apply run_app | apply run_build | apply run_box | apply run_alloc | apply rund_build); simp (disch := omega) [if_pos]; (first | rfl | exact ⟨rfl, rfl⟩ | exact ⟨rfl, rfl, rfl, rfl⟩); decide) | (apply run_sto; simp (disch := omega) [if_pos]; rfl))
    refine tr_condP (p := i < a.length) ?_ (fun h' => ?_) (fun h' => ?_)
    · simp
    · obtain ⟨x, hx⟩ : ∃ x, a[i]? = some x := ⟨a[i], List.getElem?_eq_getElem h'⟩
      obtain ⟨y, hy⟩ : ∃ y, b[i]? = some y := ⟨b[i]'(by omega), List.getElem?_eq_getElem (by omega)⟩
      have h1 := ixT hx
      have h2 := ixT hy
      have h3 : ∀ σ, gload Tryz.prog σ 38 (.ptr (cellsT a) (i * 6)) = some (gT x) := fun σ => ldT hx
      have h4 : ∀ σ, gload Tryz.prog σ 38 (.ptr (cellsT b) (i * 6)) = some (gT y) := fun σ => ldT hy
      repeat' (first | apply tr_seq | apply tr_region | apply run_nil | apply thn_n | apply thn_e | apply thn_r | apply blk_e | apply blk_n | apply blk_r | (refine blk_ne ?_ ?_; decide) | apply tr_block | apply tr_skip | apply tr_label | apply tr_exit | apply tr_ret | (refine tr_region_draw (bars := []) mixed (by kernel_rfl) ?_) | apply rund_nil | ((first | apply run_v | apply rund_v); simp (disch := omega) [if_pos, -gindex, -gload, h1, h2, h3, h4, neqT]; (first | rfl | exact ⟨rfl, rfl⟩); decide) | ((first | apply run_bs | apply run_app | apply run_build | apply run_box | apply run_alloc | apply rund_build); simp (disch := omega) [if_pos, -gindex, -gload, h1, h2, h3, h4, neqT]; (first | rfl | exact ⟨rfl, rfl⟩ | exact ⟨rfl, rfl, rfl, rfl⟩); decide) | (apply run_sto; simp (disch := omega) [if_pos, -gindex, -gload, h1, h2, h3, h4, neqT]; rfl))
      refine tr_condP (p := ¬ x = y) ?_ (fun h5 => ?_) (fun h5 => ?_)
      · simp
      · repeat' (first | apply tr_seq | apply tr_region | apply run_nil | apply thn_n | apply thn_e | apply thn_r | apply blk_e | apply blk_n | apply blk_r | (refine blk_ne ?_ ?_; decide) | apply tr_block | apply tr_skip | apply tr_label | apply tr_exit | apply tr_ret | (refine tr_region_draw (bars := []) mixed (by kernel_rfl) ?_) | apply rund_nil | ((first | apply run_v | apply rund_v); simp (disch := omega) [if_pos]; (first | rfl | exact ⟨rfl, rfl⟩); decide) | ((first | apply run_bs | apply run_app | apply run_build | apply run_box | apply run_alloc | apply rund_build); simp (disch := omega) [if_pos]; (first | rfl | exact ⟨rfl, rfl⟩ | exact ⟨rfl, rfl, rfl, rfl⟩); decide) | (apply run_sto; simp (disch := omega) [if_pos]; rfl))
        refine ended_r rfl (frz_bool ?_)
        refine (decide_eq_false (fun e => h5 ?_)).symm
        subst e
        rw [hx] at hy
        exact Option.some.inj hy
      · have h5 := Decidable.of_not_not h5
        subst h5
        repeat' (first | apply tr_seq | apply tr_region | apply run_nil | apply thn_n | apply thn_e | apply thn_r | apply blk_e | apply blk_n | apply blk_r | (refine blk_ne ?_ ?_; decide) | apply tr_block | apply tr_skip | apply tr_label | apply tr_exit | apply tr_ret | (refine tr_region_draw (bars := []) mixed (by kernel_rfl) ?_) | apply rund_nil | ((first | apply run_v | apply rund_v); simp (disch := omega) [if_pos]; (first | rfl | exact ⟨rfl, rfl⟩); decide) | ((first | apply run_bs | apply run_app | apply run_build | apply run_box | apply run_alloc | apply rund_build); simp (disch := omega) [if_pos]; (first | rfl | exact ⟨rfl, rfl⟩ | exact ⟨rfl, rfl, rfl, rfl⟩); decide) | (apply run_sto; simp (disch := omega) [if_pos]; rfl))
        refine ⟨⟨i + 1, by omega, ?_⟩, ?_, by show a.length - (i + 1) < a.length - i; omega⟩
        · rw [List.take_add_one, List.take_add_one, hm, hx, hy]
        · (refine le_to [] (by decide) (by simp) (by simp) ?_ ?_; (repeat' (first | exact wkfr_nil | refine wkfr_cons ?_ ?_)); (all_goals (try (first | exact wk_junk | exact wk_imm (imm_lit _) | exact wk_imm (imm_sl _ _) | exact wk_imm (imm_ptr _ _) | exact wk_rsl rfl | exact wk_rslE rfl (by simp) | exact wk_ref rfl | exact wkst_nil | exact wk_int (by omega) | refine wkst_eq rfl rfl ?_ ?_ wkst_nil))))
    · repeat' (first | apply tr_seq | apply tr_region | apply run_nil | apply thn_n | apply thn_e | apply thn_r | apply blk_e | apply blk_n | apply blk_r | (refine blk_ne ?_ ?_; decide) | apply tr_block | apply tr_skip | apply tr_label | apply tr_exit | apply tr_ret | (refine tr_region_draw (bars := []) mixed (by kernel_rfl) ?_) | apply rund_nil | ((first | apply run_v | apply rund_v); simp (disch := omega) [if_pos]; (first | rfl | exact ⟨rfl, rfl⟩); decide) | ((first | apply run_bs | apply run_app | apply run_build | apply run_box | apply run_alloc | apply rund_build); simp (disch := omega) [if_pos]; (first | rfl | exact ⟨rfl, rfl⟩ | exact ⟨rfl, rfl, rfl, rfl⟩); decide) | (apply run_sto; simp (disch := omega) [if_pos]; rfl))
      refine ended_r rfl (frz_bool ?_)
      rw [List.take_of_length_le (by omega), List.take_of_length_le (by omega)] at hm
      exact (decide_eq_true hm).symm
def I64 (z : Int) : Prop := -9223372036854775808 ≤ z ∧ z ≤ 9223372036854775807
def aroundI (n m : Int) : Int := (if n < 0 then -(n + 1) else n) % m
theorem aroundI_bd (n : Int) {m : Int} (hm : 0 < m) : 0 ≤ aroundI n m ∧ aroundI n m < m := ⟨Int.emod_nonneg _ (by omega), Int.emod_lt_of_pos _ hm⟩
set_option maxHeartbeats 1000000 in
theorem around_fn (gl : List (Nat × List G)) (n m : Int) (hn : I64 n) (hm : 0 < m) (hm2 : m ≤ 1000000) : Fn' Tryz.prog gl 18 [gInt n, gInt m] (gInt (aroundI n m)) := by
  unfold I64 at hn
  refine fn_enter Tryz.func18 rfl (by simp [Tryz.ntmps18]) ?_
  simp only [St.enter, enterFr, Tryz.ntmps18]
  repeat' (first | apply tr_seq | apply tr_region | apply run_nil | apply thn_n | apply thn_e | apply thn_r | apply blk_e | apply blk_n | apply blk_r | (refine blk_ne ?_ ?_; decide) | apply tr_block | apply tr_skip | apply tr_label | apply tr_exit | apply tr_ret | (refine tr_region_draw (bars := []) mixed (by kernel_rfl) ?_) | apply rund_nil | ((first | apply run_v | apply rund_v); simp (disch := omega) [if_pos]; (first | rfl | exact ⟨rfl, rfl⟩); decide) | ((first | apply run_bs | apply run_app | apply run_build | apply run_box | apply run_alloc | apply rund_build); simp (disch := omega) [if_pos]; (first | rfl | exact ⟨rfl, rfl⟩ | exact ⟨rfl, rfl, rfl, rfl⟩); decide) | (apply run_sto; simp (disch := omega) [if_pos]; rfl))
  refine tr_condP (p := n < 0) ?_ (fun h => ?_) (fun h => ?_)
  · simp
  · repeat' (first | apply tr_seq | apply tr_region | apply run_nil | apply thn_n | apply thn_e | apply thn_r | apply blk_e | apply blk_n | apply blk_r | (refine blk_ne ?_ ?_; decide) | apply tr_block | apply tr_skip | apply tr_label | apply tr_exit | apply tr_ret | (refine tr_region_draw (bars := []) mixed (by kernel_rfl) ?_) | apply rund_nil | ((first | apply run_v | apply rund_v); simp (disch := omega) [if_pos]; (first | rfl | exact ⟨rfl, rfl⟩); decide) | ((first | apply run_bs | apply run_app | apply run_build | apply run_box | apply run_alloc | apply rund_build); simp (disch := omega) [if_pos]; (first | rfl | exact ⟨rfl, rfl⟩ | exact ⟨rfl, rfl, rfl, rfl⟩); decide) | (apply run_sto; simp (disch := omega) [if_pos]; rfl))
    refine ended_r rfl (frz_int ?_)
    unfold aroundI
    rw [if_pos h]
  · repeat' (first | apply tr_seq | apply tr_region | apply run_nil | apply thn_n | apply thn_e | apply thn_r | apply blk_e | apply blk_n | apply blk_r | (refine blk_ne ?_ ?_; decide) | apply tr_block | apply tr_skip | apply tr_label | apply tr_exit | apply tr_ret | (refine tr_region_draw (bars := []) mixed (by kernel_rfl) ?_) | apply rund_nil | ((first | apply run_v | apply rund_v); simp (disch := omega) [if_pos]; (first | rfl | exact ⟨rfl, rfl⟩); decide) | ((first | apply run_bs | apply run_app | apply run_build | apply run_box | apply run_alloc | apply rund_build); simp (disch := omega) [if_pos]; (first | rfl | exact ⟨rfl, rfl⟩ | exact ⟨rfl, rfl, rfl, rfl⟩); decide) | (apply run_sto; simp (disch := omega) [if_pos]; rfl))
    refine ended_r rfl (frz_int ?_)
    unfold aroundI
    rw [if_neg h]
def tmOf (n : Int) : Tm := ⟨1 + aroundI n 100000 % 3, aroundI n 100000 / 3 % 2, aroundI n 100000 / 6 % 2, 0, aroundI n 100000 / 12 % 2, aroundI n 100000 / 24 % 2⟩
set_option maxHeartbeats 1000000 in
theorem term_fn (gl : List (Nat × List G)) (n : Int) (hn : I64 n) : Fn' Tryz.prog gl 17 [gInt n] (gT (tmOf n)) := by
  have hA := around_fn gl n 100000 hn (by omega) (by omega)
  obtain ⟨a1, a2⟩ := aroundI_bd n (m := 100000) (by omega)
  rw [gT_c]
  unfold tmOf
  generalize aroundI n 100000 = k at *
  refine fn_enter Tryz.func17 rfl (by simp [Tryz.ntmps17]) ?_
  simp only [St.enter, enterFr, Tryz.ntmps17]
  repeat' (first | apply tr_seq | apply tr_region | apply run_nil | apply thn_n | apply thn_e | apply thn_r | apply blk_e | apply blk_n | apply blk_r | (refine blk_ne ?_ ?_; decide) | apply tr_block | apply tr_skip | apply tr_label | apply tr_exit | apply tr_ret | (refine tr_region_draw (bars := []) mixed (by kernel_rfl) ?_) | apply rund_nil | ((first | apply run_v | apply rund_v); simp (disch := omega) [if_pos]; (first | rfl | exact ⟨rfl, rfl⟩); decide) | ((first | apply run_bs | apply run_app | apply run_build | apply run_box | apply run_alloc | apply rund_build); simp (disch := omega) [if_pos]; (first | rfl | exact ⟨rfl, rfl⟩ | exact ⟨rfl, rfl, rfl, rfl⟩); decide) | (apply run_sto; simp (disch := omega) [if_pos]; rfl))
  refine run_c hA (by kernel_rfl) (by decide) rfl (imm2 (imm_lit _) (imm_lit _)) ?_
  repeat' (first | apply tr_seq | apply tr_region | apply run_nil | apply thn_n | apply thn_e | apply thn_r | apply blk_e | apply blk_n | apply blk_r | (refine blk_ne ?_ ?_; decide) | apply tr_block | apply tr_skip | apply tr_label | apply tr_exit | apply tr_ret | (refine tr_region_draw (bars := []) mixed (by kernel_rfl) ?_) | apply rund_nil | ((first | apply run_v | apply rund_v); simp (disch := omega) [if_pos]; (first | rfl | exact ⟨rfl, rfl⟩); decide) | ((first | apply run_bs | apply run_app | apply run_build | apply run_box | apply run_alloc | apply rund_build); simp (disch := omega) [if_pos]; (first | rfl | exact ⟨rfl, rfl⟩ | exact ⟨rfl, rfl, rfl, rfl⟩); decide) | (apply run_sto; simp (disch := omega) [if_pos]; rfl))
  refine run_build (g := gOp (k / 3 % 2) (k / 6 % 2) 0) (by kernel_rfl) (by decide) ?_
  repeat' (first | apply tr_seq | apply tr_region | apply run_nil | apply thn_n | apply thn_e | apply thn_r | apply blk_e | apply blk_n | apply blk_r | (refine blk_ne ?_ ?_; decide) | apply tr_block | apply tr_skip | apply tr_label | apply tr_exit | apply tr_ret | (refine tr_region_draw (bars := []) mixed (by kernel_rfl) ?_) | apply rund_nil | ((first | apply run_v | apply rund_v); simp (disch := omega) [if_pos]; (first | rfl | exact ⟨rfl, rfl⟩); decide) | ((first | apply run_bs | apply run_app | apply run_build | apply run_box | apply run_alloc | apply rund_build); simp (disch := omega) [if_pos]; (first | rfl | exact ⟨rfl, rfl⟩ | exact ⟨rfl, rfl, rfl, rfl⟩); decide) | (apply run_sto; simp (disch := omega) [if_pos]; rfl))
  refine run_build (g := .agg [gInt (1 + k % 3), gInt (k / 3 % 2), gInt (k / 6 % 2), .lit (.int .u64 0), gInt (k / 12 % 2), gInt (k / 24 % 2)]) (by kernel_rfl) (by decide) ?_
  refine run_sto (i := 0) (ob := ⟨38, [gInt (1 + k % 3), gInt (k / 3 % 2), gInt (k / 6 % 2), .lit (.int .u64 0), gInt (k / 12 % 2), gInt (k / 24 % 2)], none⟩) (by kernel_rfl) ?_
  repeat' (first | apply tr_seq | apply tr_region | apply run_nil | apply thn_n | apply thn_e | apply thn_r | apply blk_e | apply blk_n | apply blk_r | (refine blk_ne ?_ ?_; decide) | apply tr_block | apply tr_skip | apply tr_label | apply tr_exit | apply tr_ret | (refine tr_region_draw (bars := []) mixed (by kernel_rfl) ?_) | apply rund_nil | ((first | apply run_v | apply rund_v); simp (disch := omega) [if_pos]; (first | rfl | exact ⟨rfl, rfl⟩); decide) | ((first | apply run_bs | apply run_app | apply run_build | apply run_box | apply run_alloc | apply rund_build); simp (disch := omega) [if_pos]; (first | rfl | exact ⟨rfl, rfl⟩ | exact ⟨rfl, rfl, rfl, rfl⟩); decide) | (apply run_sto; simp (disch := omega) [if_pos]; rfl))
  refine ended (.inr rfl) (gs := [.agg [gInt (1 + k % 3), gInt (k / 3 % 2), gInt (k / 6 % 2), .lit (.int .u64 0), gInt (k / 12 % 2), gInt (k / 24 % 2)]]) (by kernel_rfl) (frz_imm (imm_agg fun g hg => ?_))
  simp only [List.mem_cons, List.not_mem_nil, or_false] at hg
  rcases hg with rfl | rfl | rfl | rfl | rfl | rfl <;> exact imm_lit _
abbrev rowI (zs : List Int) : G := .sl (zs.map gInt) zs.length
theorem ixI {zs : List Int} {i : Nat} {z : Int} (h : zs[i]? = some z) : gindex Tryz.prog 22 (rowI zs) (i : Int) = some (.ptr (zs.map gInt) i) := by
  have hi := (List.getElem?_eq_some_iff.1 h).1
  simp only [gindex]
  rw [show telem Tryz.prog 22 = some 3 by kernel_rfl]
  simp only []
  rw [show tsize Tryz.prog 3 = some 1 by kernel_rfl]
  simp only [Option.bind_some]
  rw [if_pos (by simp; omega)]
  simp
theorem ldI {zs : List Int} {i : Nat} {z : Int} {σ : Sto} (h : zs[i]? = some z) : gload Tryz.prog σ 3 (.ptr (zs.map gInt) i) = some (gInt z) := by
  simp only [gload]
  unfold gpart
  rw [show tagg Tryz.prog 3 = some false by kernel_rfl, show tsize Tryz.prog 3 = some 1 by kernel_rfl]
  simp only []
  rw [List.getElem?_map, h]
  rfl
def Ints (zs : List Int) : Prop := zs.length ≤ 9223372036854775807 ∧ ∀ z ∈ zs, I64 z
end
section
open Go.RowKit
set_option linter.unusedVariables false
set_option linter.unusedSimpArgs false
set_option linter.unusedSectionVars false
section
variable {P : Program} {ops : Array Oper} {K : St → Prop} {rest : List Oper} {inf : List DI} {st : St}
abbrev dR : DI := .rd [] fun _ => false
theorem memOps {parts : Array (Nat × Operand)} {q : Nat × Operand} (h : q ∈ parts.toList) : q.2 ∈ (parts.toList.map (·.2)).toArray := List.mem_toArray.2 (List.mem_map.2 ⟨q, h, rfl⟩)
theorem rf_nil (h : K st) : RunF P ops K [] [] st := h
/-- What reads no object. -/
theorem rf_v {o : Oper} {d : Tmp} {g : G} (hg : o.guard = none) (ho : o.dst = some d) (hd : d < st.n) (he : evVal P (gev st) st.σ o = some g) (hl : ∀ t x, o.op = .load t x → rdOf (gev st x) = []) (h : RunF P ops K rest inf (st.put (some d) g)) : RunF P ops K (o :: rest) (dR :: inf) st := by
  refine ⟨g, st.put o.dst g, ⟨fun _ => ⟨_, rfl⟩, .inl ⟨by simp [gwant, hg], .inr ⟨[], _, rfl, rfl, fun V hV st'' e1 e2 e3 e4 => ?_⟩⟩⟩, by rw [ho]; exact h⟩
  refine gs_val (fun x e => by rw [ho] at e; cases e; rw [e1]; exact hd) ?_
  rw [evVal_congr (ρ := gev st'') (ρ' := gev st) e4, evVal_storeL (ρ := gev st) (σ := st.σ) (σ' := st''.σ) (fun t x hx i hi => by rw [hl t x hx] at hi; cases hi)]
  exact he
theorem rf_b {o : Oper} {d : Tmp} {g : G} {t : TypeId} {parts : Array (Nat × Operand)} (hg : o.guard = none) (hop : o.op = .build t parts) (ho : o.dst = some d) (hd : d < st.n) (he : gbuild P t (parts.toList.map fun q => (q.1, gev st q.2)) = some g) (h : RunF P ops K rest inf (st.put (some d) g)) : RunF P ops K (o :: rest) (dR :: inf) st := by
  refine ⟨g, st.put o.dst g, ⟨fun _ => ⟨_, rfl⟩, .inl ⟨by simp [gwant, hg], .inr ⟨[], _, rfl, rfl, fun V hV st'' e1 e2 e3 e4 => ?_⟩⟩⟩, by rw [ho]; exact h⟩
  refine gs_build hop (fun x e => by rw [ho] at e; cases e; rw [e1]; exact hd) ?_
  rw [← he]
  congr 1
  refine List.map_congr_left fun q hq => ?_
  rw [e4 q.2 (by rw [hop]; simp only [Op.operands]; exact memOps hq)]
theorem noRun : RunOk P (fun _ _ _ => none) := ⟨fun _ _ _ _ h => (by cases h), fun _ _ _ _ h => (by cases h)⟩
/-- What writes, at a number kept ahead. -/
theorem rf_w {o : Oper} {d : Tmp} {g : G} {U O : Sto} {R : List Nat} (k : Nat) (hO : O = U.map fun q => (q.1, sget st.σ q.1)) (hg : o.guard = none) (ho : o.dst = some d) (hd : d < st.n) (hf : isFree o = false) (he : xeffF P (fun _ _ _ => none) o st k = some (g, U, R, false, st.c)) (h : RunF P ops K rest inf ({ st with σ := U ++ st.σ }.put (some d) g)) :
    RunF P ops K (o :: rest) (.wr R U O false :: inf) st := by
  subst hO
  have hb := (xeffF_bg noRun (fun x e => by rw [ho] at e; cases e; exact hd) he).1
  refine ⟨g, { st with σ := U ++ st.σ, c := st.c }.put o.dst g, ⟨fun hf' => (by rw [hf] at hf'; cases hf'), .inl ⟨by simp [gwant, hg], .inl ⟨R, U, _, false, st.c, rfl, rfl, fun _ => rfl, fun x hx => ?_, by simp, fun st'' e1 e2 e3 e4 e5 e6 => ?_⟩⟩⟩, by rw [ho]; exact h⟩
  · have hx : x ∈ U.map (·.1) := hx
    have key : ∀ (U : Sto), x ∈ U.map (·.1) → sget (U.map fun q => (q.1, sget st.σ q.1)) x = sget st.σ x := by
      intro U
      induction U with
      | nil => intro h; cases h
      | cons q r ih =>
        intro h
        rw [List.map_cons, sget_cons]
        split
        · rename_i e; rw [e]
        · rename_i e
          simp only [List.map_cons, List.mem_cons] at h
          exact ih (h.resolve_left fun e' => e e'.symm)
    exact key U hx
  · exact hb st'' e1 e2 e3 e4 e5 e6
theorem xeff_bs {run : XRun} {o : Oper} {k m : Nat} {t e : TypeId} {parts : Array (Nat × Operand)} {l : List G} (hop : o.op = .buildSlice t m parts) (hr : isResv (sget st.σ k) = true) (hp : Nat.ble st.p k = true) (hg : gbs P t m (parts.toList.map fun q => (q.1, gev st q.2)) = some (e, l)) :
    xeffF P run o st k = some (.rsl k 0 m, [(k, some ⟨e, l, none⟩)], [k], false, st.c) := by
  obtain ⟨dst, op, ty, pos, af, gd⟩ := o
  obtain rfl : op = _ := hop
  unfold xeffF
  simp only [hr, hp, hg, Bool.and_self, cond_true, Option.map_some]
theorem xeff_app {run : XRun} {o : Oper} {k i n m : Nat} {t e : TypeId} {x y : Operand} {l : List G} (hop : o.op = .call { callee := .builtin .append, args := #[x, y], argTypes := #[t, t] }) (hr : isResv (sget st.σ k) = true) (hp : Nat.ble st.p k = true) (hx : gev st x = .rsl i 0 n) (hg : gapp P st.σ st.c t (gev st x) (gev st y) = some (e, i, m, l)) :
    xeffF P run o st k = some (.rsl k 0 m, [(k, some ⟨e, l, none⟩), (i, none)], k :: i :: rdOf (gev st y), false, st.c) := by
  obtain ⟨dst, op, ty, pos, af, gd⟩ := o
  obtain rfl : op = _ := hop
  unfold xeffF
  simp only [hr, hp, Bool.and_self, cond_true, hx, if_true]
  rw [hx] at hg
  rw [hg]
  rfl
end
end
section
open Go.RowKit
set_option linter.unusedVariables false
set_option linter.unusedSimpArgs false
def edOf (a b c : Int) : Ed := (if aroundI b 17 = 5 then [] else if aroundI b 3 = 1 then [tmOf a, tmOf b] else [tmOf a], tmOf c)
def f1 (a b : Int) : List Tm := if aroundI b 3 = 1 then [tmOf a, tmOf b] else [tmOf a]
def webN (zs : List Int) (n : Nat) : List Ed := (List.range n).map fun i => edOf (zs.getD (3 * i) 0) (zs.getD (3 * i + 1) 0) (zs.getD (3 * i + 2) 0)
def webOf (zs : List Int) : List Ed := webN zs (min 20 (zs.length / 3))
theorem web_few (zs ts : List Int) (n : Nat) (hn : n ≤ 1000) : Few (webOf zs) ((ts.take n).map tmOf) := by
  refine ⟨?_, ?_, ?_⟩
  · simp [webOf, webN]; omega
  · simp; omega
  · intro e he
    unfold webOf webN at he
    obtain ⟨i, _, rfl⟩ := List.mem_map.1 he
    unfold edOf
    dsimp only
    split
    · simp
    · split <;> simp
theorem bsE (e : Ed) : gbs Tryz.prog 23 1 [(0, .agg (cE e))] = some (47, cellsE [e]) := by kernel_rfl
theorem bsE2 (e : Ed) : gbs Tryz.prog 29 1 [(0, .agg (cE e))] = some (49, cellsE [e]) := by kernel_rfl
theorem appE {t T : TypeId} (h1 : telem Tryz.prog t = some T) (h2 : tsize Tryz.prog T = some 7) (h3 : tzero Tryz.prog T = some [.slice none 0 0, .int .i64 0, .int .i64 0, .int .i64 0, .int .u64 0, .int .i64 0, .int .i64 0]) (h4 : (Tryz.prog.info? T).map (·.bytes) = some 72)
    {σ : Sto} {c q q2 : Nat} {l n : List Ed} (hl : l.length + n.length ≤ 1000000) (ho : sget σ q = some ⟨T, cellsE l, none⟩) (hn : sget σ q2 = some ⟨T, cellsE n, none⟩) : gapp Tryz.prog σ c t (.rsl q 0 l.length) (.rsl q2 0 n.length) = some (T, q, l.length + n.length, cellsE (l ++ n)) := by
  unfold gapp
  rw [h1, Option.bind_some, h2, Option.bind_some, h3, Option.bind_some, h4, Option.bind_some]
  have e1 : gsrc σ c T 7 (.rsl q 0 l.length) = some (q, l.length, cellsE l) := by
    simp only [gsrc, ho, Option.bind_some]
    rw [if_pos ⟨trivial, len_cellsE l, rfl⟩]
  have e2 : gview σ 7 (.rsl q2 0 n.length) = some (cellsE n, n.length) := by
    simp only [gview, hn, Option.bind_some]
    rw [if_pos (by rw [len_cellsE]; omega), List.drop_zero, List.take_of_length_le (by rw [len_cellsE]; exact Nat.le_refl _)]
  rw [e1, Option.bind_some]
  dsimp only
  rw [e2, Option.bind_some]
  dsimp only
  rw [if_pos ⟨by decide, rfl, by omega, by omega⟩]
  simp [cellsE]
theorem bdE (e : Ed) : gbuild Tryz.prog 49 [(0, rowT e.1), (1, gT e.2)] = some (.agg (cE e)) := by rw [gT_c]; kernel_rfl
theorem bdE2 (e : Ed) : gbuild Tryz.prog 47 [(0, rowT e.1), (1, gT e.2)] = some (.agg (cE e)) := by rw [gT_c]; kernel_rfl
abbrev rowEO (l : List Ed) : Ob := ⟨47, cellsE l, none⟩
abbrev rowES (l : List Ed) : Ob := ⟨49, cellsE l, none⟩
theorem wk_nilT {P : Program} {st : St} {ρ : List (Nat × Nat)} : Wk P st ρ (.lit (.slice none 0 0)) (rowT []) := fun cx a w β r v hv => by
  have e := hv.lit_eq
  subst e
  exact .imm _ _ (.sl [] 0 none 0 (fun _ => undef) (Nat.le_refl _) (Nat.zero_le _) (by simp) (by simp) (by simp))
attribute [local irreducible] gT tmOf
attribute [local irreducible] Tr Run RunD GS TG Le Wk Frz Fn' ImmG Flat WkFr WkSt EndM GSn Vw Rn FnM
set_option maxHeartbeats 1000000 in
theorem one_fnR (gl : List (Nat × List G)) (x : Tm) : FnR Tryz.prog gl 16 [gT x] 38 1 (cellsT [x]) := by
  refine fnr_enter Tryz.func16 rfl (by simp [Tryz.ntmps16]) ?_
  simp only [St.enter, enterFr, Tryz.ntmps16]
  apply tr_seq
  apply tr_region
  refine run_box (l := cT x) (by rw [gT_c]; kernel_rfl) (by decide) ?_
  refine run_v (g := .lit (.slice none 0 0)) (by kernel_rfl) (by decide) ?_
  apply run_nil
  repeat' (first | apply tr_seq | apply tr_region | apply run_nil | apply thn_n | apply thn_e | apply thn_r | apply blk_e | apply blk_n | apply blk_r | (refine blk_ne ?_ ?_; decide) | apply tr_block | apply tr_skip | apply tr_label | apply tr_exit | apply tr_ret)
  refine run_v (g := gT x) (by rw [gT_c]; kernel_rfl) (by decide) ?_
  refine run_bs (bsT x) (by decide) ?_
  refine run_v (g := .rsl 1 0 1) (by kernel_rfl) (by decide) ?_
  apply run_nil
  repeat' (first | apply tr_seq | apply tr_region | apply run_nil | apply thn_n | apply thn_e | apply thn_r | apply blk_e | apply blk_n | apply blk_r | (refine blk_ne ?_ ?_; decide) | apply tr_block | apply tr_skip | apply tr_label | apply tr_exit | apply tr_ret)
  exact endR (i := 1) (u := 2) rfl rfl rfl rfl (cellsT_imm _) (.inr rfl)
set_option maxHeartbeats 2000000 in
theorem terms_fn (gl : List (Nat × List G)) (zs : List Int) (hz : Ints zs) (m : Nat) (hm : m ≤ 1000) : Fn' Tryz.prog gl 7 [rowI zs, gInt (m : Int)] (rowT ((zs.take m).map tmOf)) := by
  obtain ⟨hz1, hz2⟩ := hz
  refine FnR.fn (t := 38) (s := 6) (m := ((zs.take m).map tmOf).length) (l := cellsT ((zs.take m).map tmOf)) ?_ (by kernel_rfl) (len_cells _) (cellsT_imm _)
  refine fnr_enter Tryz.func7 rfl (by simp [Tryz.ntmps7]) ?_
  simp only [St.enter, enterFr, Tryz.ntmps7]
  repeat' (first | apply tr_seq | apply tr_region | apply run_nil | apply thn_n | apply thn_e | apply thn_r | apply blk_e | apply blk_n | apply blk_r | (refine blk_ne ?_ ?_; decide) | apply tr_block | apply tr_skip | apply tr_label | apply tr_exit | apply tr_ret | (refine tr_region_draw (bars := []) mixed (by kernel_rfl) ?_) | apply rund_nil | ((first | apply run_v | apply rund_v); simp (disch := omega) [if_pos]; (first | rfl | exact ⟨rfl, rfl⟩); decide) | ((first | apply run_bs | apply run_app | apply run_build | apply run_box | apply run_alloc | apply rund_build); simp (disch := omega) [if_pos]; (first | rfl | exact ⟨rfl, rfl⟩ | exact ⟨rfl, rfl, rfl, rfl⟩); decide) | (apply run_sto; simp (disch := omega) [if_pos]; rfl))
  refine tr_virt 38 5 (by decide) rfl ?_
  refine tr_loop (fun q : {q : Nat // q ≤ zs.length ∧ q ≤ m} => ⟨27, gl, [(0, rowI zs), (1, gInt (m : Int)), (5, .rsl 0 0 ((zs.take q.1).map tmOf).length), (6, gInt (q.1 : Int))], [(0, some (rowO ((zs.take q.1).map tmOf)))], 1, 0, false⟩) (fun q => m - q.1) ⟨0, by omega, by omega⟩ ?_ ?_
  · refine le_to [(0, 0)] (by decide) (by decide) (by decide) (wkfr_cons (wk_imm (imm_sl _ _)) (wkfr_cons (wk_imm (imm_lit _)) (wkfr_cons (wk_rsl rfl) (wkfr_cons (wk_imm (imm_lit _)) wkfr_nil)))) (wkst_eq rfl rfl rfl (cellsT_imm _) wkst_nil)
  · rintro ⟨i, hi, him⟩
    dsimp only
    obtain ⟨out, hout⟩ : ∃ out, out = (zs.take i).map tmOf := ⟨_, rfl⟩
    have hl : out.length = i := by rw [hout]; simp; omega
    rw [← hout]
    have fin : ¬ (i < zs.length ∧ i < m) → zs.take i = zs.take m := fun h => by
      by_cases h1 : i = m
      · rw [h1]
      · rw [List.take_of_length_le (by omega), List.take_of_length_le (by omega)]
    apply tr_seq
    apply tr_seq
    apply tr_region
    refine run_v (g := gInt (i : Int)) (by kernel_rfl) (by decide) ?_
    refine run_v (g := rowI zs) (by kernel_rfl) (by decide) ?_
    refine run_v (g := gInt (zs.length : Int)) (by kernel_rfl) (by decide) ?_
    by_cases h1 : i < zs.length
    · have m0 : decide ((i : Int) < zs.length) = true := by simp; omega
      refine run_v (g := .lit (.bool true)) (by rw [← m0]; kernel_rfl) (by decide) ?_
      refine run_v (g := .lit (.bool true)) (by kernel_rfl) (by decide) ?_
      refine gun_v (g := gInt (i : Int)) (by kernel_rfl) (by kernel_rfl) (by decide) ?_
      refine gun_v (g := gInt (m : Int)) (by kernel_rfl) (by kernel_rfl) (by decide) ?_
      refine gun_v (g := .lit (.bool (decide ((i : Int) < m)))) (by kernel_rfl) (by kernel_rfl) (by decide) ?_
      refine run_v (g := .lit (.bool (decide ((i : Int) < m)))) (by cases decide ((i : Int) < m) <;> kernel_rfl) (by decide) ?_
      apply run_nil
      apply thn_n
      refine tr_condP (p := (i : Int) < m) rfl (fun h2 => ?_) (fun h2 => ?_)
      · obtain ⟨z, hz⟩ : ∃ z, zs[i]? = some z := ⟨_, List.getElem?_eq_getElem h1⟩
        have a1 := ixI hz
        have a2 : ∀ σ, gload Tryz.prog σ 3 (.ptr (zs.map gInt) i) = some (gInt z) := fun σ => ldI hz
        repeat' (first | apply tr_seq | apply tr_region | apply run_nil | apply thn_n | apply thn_e | apply thn_r | apply blk_e | apply blk_n | apply blk_r | (refine blk_ne ?_ ?_; decide) | apply tr_block | apply tr_skip | apply tr_label | apply tr_exit | apply tr_ret | (refine tr_region_draw (bars := []) mixed (by kernel_rfl) ?_) | apply rund_nil | ((first | apply run_v | apply rund_v); simp (disch := omega) [if_pos, -gindex, -gload, a1, a2]; (first | rfl | exact ⟨rfl, rfl⟩); decide) | ((first | apply run_bs | apply run_app | apply run_build | apply run_box | apply run_alloc | apply rund_build); simp (disch := omega) [if_pos, -gindex, -gload, a1, a2]; (first | rfl | exact ⟨rfl, rfl⟩ | exact ⟨rfl, rfl, rfl, rfl⟩); decide) | (apply run_sto; simp (disch := omega) [if_pos, -gindex, -gload, a1, a2]; rfl))
        refine run_c (term_fn gl z (hz2 z (List.mem_of_getElem? hz))) (by kernel_rfl) (by decide) rfl (imm1 (imm_lit _)) ?_
        refine run_bs (bsT (tmOf z)) (by decide) ?_
        refine run_app (i := 0) (appT (q := 0) (q2 := 1) (l := out) (n := [tmOf z]) (by rw [hl]; show i + 1 ≤ _; omega) rfl rfl) (by decide) ?_
        refine run_v (g := .rsl 2 0 (out.length + 1)) (by kernel_rfl) (by decide) ?_
        apply run_nil
        repeat' (first | apply tr_seq | apply tr_region | apply run_nil | apply thn_n | apply thn_e | apply thn_r | apply blk_e | apply blk_n | apply blk_r | (refine blk_ne ?_ ?_; decide) | apply tr_block | apply tr_skip | apply tr_label | apply tr_exit | apply tr_ret | (refine tr_region_draw (bars := []) mixed (by kernel_rfl) ?_) | apply rund_nil | ((first | apply run_v | apply rund_v); simp (disch := omega) [if_pos]; (first | rfl | exact ⟨rfl, rfl⟩); decide) | ((first | apply run_bs | apply run_app | apply run_build | apply run_box | apply run_alloc | apply rund_build); simp (disch := omega) [if_pos]; (first | rfl | exact ⟨rfl, rfl⟩ | exact ⟨rfl, rfl, rfl, rfl⟩); decide) | (apply run_sto; simp (disch := omega) [if_pos]; rfl))
        refine ⟨⟨i + 1, by omega, by omega⟩, ?_, by show m - (i + 1) < m - i; omega⟩
        have e : (zs.take (i + 1)).map tmOf = out ++ [tmOf z] := by rw [List.take_add_one, hz, hout]; simp
        dsimp only
        rw [e, List.length_append]
        refine le_to [(0, 2)] (by decide) (by decide) (by decide) (wkfr_cons (wk_imm (imm_sl _ _)) (wkfr_cons (wk_imm (imm_lit _)) (wkfr_cons (wk_rsl rfl) (wkfr_cons (wk_int (by omega)) wkfr_nil)))) (wkst_eq rfl rfl rfl (cellsT_imm _) wkst_nil)
      · rw [hout, fin (by omega)]
        repeat' (first | apply tr_seq | apply tr_region | apply run_nil | apply thn_n | apply thn_e | apply thn_r | apply blk_e | apply blk_n | apply blk_r | (refine blk_ne ?_ ?_; decide) | apply tr_block | apply tr_skip | apply tr_label | apply tr_exit | apply tr_ret)
        refine run_v (g := .rsl 0 0 ((zs.take m).map tmOf).length) (by kernel_rfl) (by decide) ?_
        refine run_v (g := .rsl 0 0 ((zs.take m).map tmOf).length) (by kernel_rfl) (by decide) ?_
        apply run_nil
        repeat' (first | apply tr_seq | apply tr_region | apply run_nil | apply thn_n | apply thn_e | apply thn_r | apply blk_e | apply blk_n | apply blk_r | (refine blk_ne ?_ ?_; decide) | apply tr_block | apply tr_skip | apply tr_label | apply tr_exit | apply tr_ret)
        exact endR (i := 0) (u := 4) rfl rfl rfl rfl (cellsT_imm _) (.inr rfl)
    · have m0 : decide ((i : Int) < zs.length) = false := by simp; omega
      refine run_v (g := .lit (.bool false)) (by rw [← m0]; kernel_rfl) (by decide) ?_
      refine run_v (g := .lit (.bool false)) (by kernel_rfl) (by decide) ?_
      iterate 3 refine gun_n (by kernel_rfl) (by decide) ?_
      refine run_v (g := .lit (.bool false)) (by kernel_rfl) (by decide) ?_
      apply run_nil
      apply thn_n
      refine tr_condF rfl ?_
      rw [hout, fin (by omega)]
      repeat' (first | apply tr_seq | apply tr_region | apply run_nil | apply thn_n | apply thn_e | apply thn_r | apply blk_e | apply blk_n | apply blk_r | (refine blk_ne ?_ ?_; decide) | apply tr_block | apply tr_skip | apply tr_label | apply tr_exit | apply tr_ret)
      refine run_v (g := .rsl 0 0 ((zs.take m).map tmOf).length) (by kernel_rfl) (by decide) ?_
      refine run_v (g := .rsl 0 0 ((zs.take m).map tmOf).length) (by kernel_rfl) (by decide) ?_
      apply run_nil
      repeat' (first | apply tr_seq | apply tr_region | apply run_nil | apply thn_n | apply thn_e | apply thn_r | apply blk_e | apply blk_n | apply blk_r | (refine blk_ne ?_ ?_; decide) | apply tr_block | apply tr_skip | apply tr_label | apply tr_exit | apply tr_ret)
      exact endR (i := 0) (u := 4) rfl rfl rfl rfl (cellsT_imm _) (.inr rfl)
set_option maxHeartbeats 2000000 in
theorem own_fn (gl : List (Nat × List G)) (l : List Ed) (hl : l.length ≤ 1000) : Fn' Tryz.prog gl 10 [rowE l] (rowE l) := by
  refine FnR.fn (t := 49) (s := 7) (m := l.length) (l := cellsE l) ?_ (by kernel_rfl) (len_cellsE _) (cellsE_imm _)
  refine fnr_enter Tryz.func10 rfl (by simp [Tryz.ntmps10]) ?_
  simp only [St.enter, enterFr, Tryz.ntmps10]
  repeat' (first | apply tr_seq | apply tr_region | apply run_nil | apply thn_n | apply thn_e | apply thn_r | apply blk_e | apply blk_n | apply blk_r | (refine blk_ne ?_ ?_; decide) | apply tr_block | apply tr_skip | apply tr_label | apply tr_exit | apply tr_ret | (refine tr_region_draw (bars := []) mixed (by kernel_rfl) ?_) | apply rund_nil | ((first | apply run_v | apply rund_v); simp (disch := omega) [if_pos]; (first | rfl | exact ⟨rfl, rfl⟩); decide) | ((first | apply run_bs | apply run_app | apply run_build | apply run_box | apply run_alloc | apply rund_build); simp (disch := omega) [if_pos]; (first | rfl | exact ⟨rfl, rfl⟩ | exact ⟨rfl, rfl, rfl, rfl⟩); decide) | (apply run_sto; simp (disch := omega) [if_pos]; rfl))
  refine tr_virt 49 3 (by decide) rfl ?_
  refine tr_loop (fun q : {q : Nat // q ≤ l.length} => ⟨26, gl, [(0, rowE l), (3, .rsl 0 0 (l.take q.1).length), (4, gInt (q.1 : Int))], [(0, some (rowES (l.take q.1)))], 1, 0, false⟩) (fun q => l.length - q.1) ⟨0, Nat.zero_le _⟩ ?_ ?_
  · refine le_to [(0, 0)] (by decide) (by decide) (by decide) (wkfr_cons (wk_imm (imm_sl _ _)) (wkfr_cons (wk_rsl rfl) (wkfr_cons (wk_imm (imm_lit _)) wkfr_nil))) (wkst_eq rfl rfl rfl (cellsE_imm _) wkst_nil)
  · rintro ⟨i, hi⟩
    dsimp only
    obtain ⟨out, hout⟩ : ∃ out, out = l.take i := ⟨_, rfl⟩
    have hl2 : out.length = i := by rw [hout]; simp; omega
    rw [← hout]
    repeat' (first | apply tr_seq | apply tr_region | apply run_nil | apply thn_n | apply thn_e | apply thn_r | apply blk_e | apply blk_n | apply blk_r | (refine blk_ne ?_ ?_; decide) | apply tr_block | apply tr_skip | apply tr_label | apply tr_exit | apply tr_ret | (refine tr_region_draw (bars := []) mixed (by kernel_rfl) ?_) | apply rund_nil | ((first | apply run_v | apply rund_v); simp (disch := omega) [if_pos]; (first | rfl | exact ⟨rfl, rfl⟩); decide) | ((first | apply run_bs | apply run_app | apply run_build | apply run_box | apply run_alloc | apply rund_build); simp (disch := omega) [if_pos]; (first | rfl | exact ⟨rfl, rfl⟩ | exact ⟨rfl, rfl, rfl, rfl⟩); decide) | (apply run_sto; simp (disch := omega) [if_pos]; rfl))
    refine tr_condP (p := i < l.length) ?_ (fun h => ?_) (fun h => ?_)
    · simp
    · obtain ⟨e, he⟩ : ∃ e, l[i]? = some e := ⟨_, List.getElem?_eq_getElem h⟩
      have ix := ixE2 he
      have lx1 : ∀ σ, gload Tryz.prog σ 25 (.ptr (cellsE l) (i * 7 + 0)) = some (rowT e.1) := fun σ => ldE1 he
      have lx2 : ∀ σ, gload Tryz.prog σ 38 (.ptr (cellsE l) (i * 7 + 1)) = some (gT e.2) := fun σ => ldE2 he
      repeat' (first | apply tr_skip | apply thn_n | apply tr_block | apply tr_seq)
      refine Tr.le ?_ ((le_resv _).trans (le_resv _))
      dsimp only
      refine tr_region_draw4 (inf := [dR, dR, dR, dR, dR, dR, dR, dR, dR, dR, dR, dR, .wr [1] [(1, some (rowES [e]))] [(1, some resvOb)] false, .wr [2, 0, 1] [(2, some (rowES (out ++ [e]))), (0, none)] [(2, some resvOb), (0, some (rowES out))] false, dR]) mixed ?_ ?_
      rotate_left
      · 
        refine rf_v (d := 11) (g := .rsl 0 0 out.length) rfl rfl (by show 11 < 26; decide) rfl (fun t x h => by cases h) ?_
        simp only [St.put]
        refine rf_v (d := 12) (g := rowE l) rfl rfl (by show 12 < 26; decide) rfl (fun t x h => by cases h) ?_
        simp only [St.put]
        refine rf_v (d := 13) (g := gInt (i : Int)) rfl rfl (by show 13 < 26; decide) rfl (fun t x h => by cases h) ?_
        simp only [St.put]
        refine rf_v (d := 14) (g := .ptr (cellsE l) (i * 7)) rfl rfl (by show 14 < 26; decide) (Eq.trans (by kernel_rfl) ix) (fun t x h => by cases h) ?_
        simp only [St.put]
        refine rf_v (d := 15) (g := .ptr (cellsE l) (i * 7 + 0)) rfl rfl (by show 15 < 26; decide) (by kernel_rfl) (fun t x h => by cases h) ?_
        simp only [St.put]
        refine rf_v (d := 16) (g := rowT e.1) rfl rfl (by show 16 < 26; decide) (Eq.trans (by kernel_rfl) (lx1 [])) (fun t x h => by cases h; rfl) ?_
        simp only [St.put]
        refine rf_v (d := 17) (g := rowE l) rfl rfl (by show 17 < 26; decide) rfl (fun t x h => by cases h) ?_
        simp only [St.put]
        refine rf_v (d := 18) (g := gInt (i : Int)) rfl rfl (by show 18 < 26; decide) rfl (fun t x h => by cases h) ?_
        simp only [St.put]
        refine rf_v (d := 19) (g := .ptr (cellsE l) (i * 7)) rfl rfl (by show 19 < 26; decide) (Eq.trans (by kernel_rfl) ix) (fun t x h => by cases h) ?_
        simp only [St.put]
        refine rf_v (d := 20) (g := .ptr (cellsE l) (i * 7 + 1)) rfl rfl (by show 20 < 26; decide) (by kernel_rfl) (fun t x h => by cases h) ?_
        simp only [St.put]
        refine rf_v (d := 21) (g := gT e.2) rfl rfl (by show 21 < 26; decide) (Eq.trans (by kernel_rfl) (lx2 [])) (fun t x h => by cases h; rfl) ?_
        simp only [St.put]
        refine rf_b (d := 22) (g := .agg (cE e)) rfl rfl rfl (by show 22 < 26; decide) (bdE e) ?_
        simp only [St.put]
        refine rf_w (d := 23) (g := .rsl 1 0 1) (U := [(1, some (rowES [e]))]) (R := [1]) 1 rfl rfl rfl (by show 23 < 26; decide) rfl (xeff_bs rfl rfl rfl (bsE2 e)) ?_
        simp only [St.put]
        refine rf_w (d := 24) (g := .rsl 2 0 (out.length + 1)) (U := [(2, some (rowES (out ++ [e]))), (0, none)]) (R := [2, 0, 1]) 2 rfl rfl rfl (by show 24 < 26; decide) rfl ?_ ?_
        · exact xeff_app (x := .tmp 11) (y := .tmp 23) (k := 2) (i := 0) (n := out.length) (m := out.length + 1) (e := 49) (l := cellsE (out ++ [e])) rfl rfl rfl rfl (appE (t := 29) (T := 49) (q := 0) (q2 := 1) (l := out) (n := [e]) (by kernel_rfl) (by kernel_rfl) (by kernel_rfl) (by kernel_rfl) (by rw [hl2]; show i + 1 ≤ _; omega) rfl rfl)
        simp only [St.put]
        refine rf_v (d := 3) (g := .rsl 2 0 (out.length + 1)) rfl rfl (by show 3 < 26; decide) rfl (fun t x h => by cases h) ?_
        simp only [St.put]
        refine rf_nil (blk_n (thn_n ?_))
        dsimp only [List.cons_append, List.nil_append]
        repeat' (first | apply tr_seq | apply tr_region | apply run_nil | apply thn_n | apply thn_e | apply thn_r | apply blk_e | apply blk_n | apply blk_r | (refine blk_ne ?_ ?_; decide) | apply tr_block | apply tr_skip | apply tr_label | apply tr_exit | apply tr_ret | (refine tr_region_draw (bars := []) mixed (by kernel_rfl) ?_) | apply rund_nil | ((first | apply run_v | apply rund_v); simp (disch := omega) [if_pos]; (first | rfl | exact ⟨rfl, rfl⟩); decide) | ((first | apply run_bs | apply run_app | apply run_build | apply run_box | apply run_alloc | apply rund_build); simp (disch := omega) [if_pos]; (first | rfl | exact ⟨rfl, rfl⟩ | exact ⟨rfl, rfl, rfl, rfl⟩); decide) | (apply run_sto; simp (disch := omega) [if_pos]; rfl))
        refine ⟨⟨i + 1, by omega⟩, ?_, by show l.length - (i + 1) < l.length - i; omega⟩
        have e5 : l.take (i + 1) = out ++ [e] := by rw [List.take_add_one, he, hout]; rfl
        dsimp only
        rw [e5, List.length_append]
        refine le_to [(0, 2)] (by decide) (by decide) (by decide) (wkfr_cons (wk_imm (imm_sl _ _)) (wkfr_cons (wk_rsl rfl) (wkfr_cons (wk_int (by omega)) wkfr_nil))) (wkst_eq rfl rfl rfl (cellsE_imm _) wkst_nil)
      · kernel_rfl
    · have e0 : l.take i = l := List.take_of_length_le (by omega)
      rw [hout, e0]
      repeat' (first | apply tr_seq | apply tr_region | apply run_nil | apply thn_n | apply thn_e | apply thn_r | apply blk_e | apply blk_n | apply blk_r | (refine blk_ne ?_ ?_; decide) | apply tr_block | apply tr_skip | apply tr_label | apply tr_exit | apply tr_ret | (refine tr_region_draw (bars := []) mixed (by kernel_rfl) ?_) | apply rund_nil | ((first | apply run_v | apply rund_v); simp (disch := omega) [if_pos]; (first | rfl | exact ⟨rfl, rfl⟩); decide) | ((first | apply run_bs | apply run_app | apply run_build | apply run_box | apply run_alloc | apply rund_build); simp (disch := omega) [if_pos]; (first | rfl | exact ⟨rfl, rfl⟩ | exact ⟨rfl, rfl, rfl, rfl⟩); decide) | (apply run_sto; simp (disch := omega) [if_pos]; rfl))
      exact endR (i := 0) (u := 2) rfl rfl rfl rfl (cellsE_imm _) (.inr rfl)
/-- A row of the walk's own, which is written no more: as it reads. -/
theorem wkFrzT {st : St} {ρ : List (Nat × Nat)} {q : Nat} {l : List Tm} (hk : ∀ p ∈ ρ, p.2 ≠ q) (h : sget st.σ q = some (rowO l)) : Wk Tryz.prog st ρ (.rsl q 0 l.length) (rowT l) := by
  have := wk_rsl_frz (P := Tryz.prog) (st := st) (ρ := ρ) (i := q) (o := 0) (n := l.length) (s := 6) (ob := rowO l) hk h (by kernel_rfl) (by rw [len_cells]; omega) (cellsT_imm l)
  rw [List.drop_zero, List.take_of_length_le (by rw [len_cells]; exact Nat.le_refl _)] at this
  exact this
theorem sget1_lt {x : Ob} : ∀ q ob, sget [(0, some x)] q = some ob → q < 1 := fun q ob hq => by
  rw [sget_cons] at hq
  split at hq
  · rename_i e; omega
  · cases hq
/-- Both arms of a test come to one state. -/
theorem tr_join {P : Program} {c : Operand} {x y z : Code} {t : Bool} {st : St} {Q : Exit → St → Prop} (S' : St) (hc : gev st c = .lit (.bool t)) (h1 : t = true → Tr P x st (fun e s => e = .normal ∧ Le P s S')) (h2 : t = false → Tr P y st (fun e s => e = .normal ∧ Le P s S')) (h : Tr P z S' Q) : Tr P (.cond c x y) st (Thn (fun s => Tr P z s Q) Q) :=
  tr_cond2 hc (fun ht => (h1 ht).mono fun e s hs => by obtain ⟨rfl, hle⟩ := hs; exact thn_n (h.le hle)) (fun ht => (h2 ht).mono fun e s hs => by obtain ⟨rfl, hle⟩ := hs; exact thn_n (h.le hle))
set_option maxHeartbeats 4000000 in
theorem web_fn (gl : List (Nat × List G)) (zs : List Int) (hz : Ints zs) : Fn' Tryz.prog gl 6 [rowI zs] (rowE (webOf zs)) := by
  obtain ⟨hz1, hz2⟩ := hz
  refine FnR.fn (t := 47) (s := 7) (m := (webOf zs).length) (l := cellsE (webOf zs)) ?_ (by kernel_rfl) (len_cellsE _) (cellsE_imm _)
  refine fnr_enter Tryz.func6 rfl (by simp [Tryz.ntmps6]) ?_
  simp only [St.enter, enterFr, Tryz.ntmps6]
  repeat' (first | apply tr_seq | apply tr_region | apply run_nil | apply thn_n | apply thn_e | apply thn_r | apply blk_e | apply blk_n | apply blk_r | (refine blk_ne ?_ ?_; decide) | apply tr_block | apply tr_skip | apply tr_label | apply tr_exit | apply tr_ret | (refine tr_region_draw (bars := []) mixed (by kernel_rfl) ?_) | apply rund_nil | ((first | apply run_v | apply rund_v); simp (disch := omega) [if_pos]; (first | rfl | exact ⟨rfl, rfl⟩); decide) | ((first | apply run_bs | apply run_app | apply run_build | apply run_box | apply run_alloc | apply rund_build); simp (disch := omega) [if_pos]; (first | rfl | exact ⟨rfl, rfl⟩ | exact ⟨rfl, rfl, rfl, rfl⟩); decide) | (apply run_sto; simp (disch := omega) [if_pos]; rfl))
  refine tr_virt 47 3 (by decide) rfl ?_
  refine tr_loop (fun q : {q : Nat // q ≤ 20 ∧ 3 * q ≤ zs.length} => ⟨64, gl, [(0, rowI zs), (3, .rsl 0 0 (webN zs q.1).length), (4, gInt (q.1 : Int))], [(0, some (rowEO (webN zs q.1)))], 1, 0, false⟩) (fun q => 20 - q.1) ⟨0, by omega⟩ ?_ ?_
  · refine le_to [(0, 0)] (by decide) (by decide) (by decide) (wkfr_cons (wk_imm (imm_sl _ _)) (wkfr_cons (wk_rsl rfl) (wkfr_cons (wk_imm (imm_lit _)) wkfr_nil))) (wkst_eq rfl rfl rfl (cellsE_imm _) wkst_nil)
  · rintro ⟨i, hi, h3⟩
    dsimp only
    obtain ⟨out, hout⟩ : ∃ out, out = webN zs i := ⟨_, rfl⟩
    have hol : out.length = i := by rw [hout]; simp [webN]
    rw [← hout]
    have fin : ¬ (i < 20 ∧ 3 * i + 2 < zs.length) → webOf zs = out := fun h => by
      unfold webOf
      rw [hout]
      congr 1
      omega
    apply tr_seq
    apply tr_seq
    apply tr_region
    refine run_v (g := gInt (i : Int)) (by kernel_rfl) (by decide) ?_
    by_cases h20 : i < 20
    · have m0 : decide ((i : Int) < 20) = true := by simp; omega
      refine run_v (g := .lit (.bool true)) (by rw [← m0]; kernel_rfl) (by decide) ?_
      refine run_v (g := .lit (.bool true)) (by kernel_rfl) (by decide) ?_
      have e1 : IntKind.i64.wrap (3 * (i : Int)) = 3 * (i : Int) := by rw [w64]; omega
      have e2 : IntKind.i64.wrap (3 * (i : Int) + 2) = 3 * (i : Int) + 2 := by rw [w64]; omega
      have g1 : (some (gInt (IntKind.i64.wrap (3 * (i : Int)))) : Option G) = some (gInt (3 * (i : Int))) := by rw [e1]
      have e3 : IntKind.i64.wrap (3 * (i : Int) + 1) = 3 * (i : Int) + 1 := by rw [w64]; omega
      have g3 : (some (gInt (IntKind.i64.wrap (3 * (i : Int) + 1))) : Option G) = some (gInt (3 * (i : Int) + 1)) := by rw [e3]
      have g2 : (some (gInt (IntKind.i64.wrap (3 * (i : Int) + 2))) : Option G) = some (gInt (3 * (i : Int) + 2)) := by rw [e2]
      refine gun_v (g := gInt (i : Int)) (by kernel_rfl) (by kernel_rfl) (by decide) ?_
      refine gun_v (g := gInt (3 * (i : Int))) (by kernel_rfl) (Eq.trans (by kernel_rfl) g1) (by decide) ?_
      refine gun_v (g := gInt (3 * (i : Int) + 2)) (by kernel_rfl) (Eq.trans (by kernel_rfl) g2) (by decide) ?_
      refine gun_v (g := rowI zs) (by kernel_rfl) (by kernel_rfl) (by decide) ?_
      refine gun_v (g := gInt (zs.length : Int)) (by kernel_rfl) (by kernel_rfl) (by decide) ?_
      refine gun_v (g := .lit (.bool (decide (3 * (i : Int) + 2 < zs.length)))) (by kernel_rfl) (by kernel_rfl) (by decide) ?_
      refine run_v (g := .lit (.bool (decide (3 * (i : Int) + 2 < zs.length)))) (by cases decide (3 * (i : Int) + 2 < zs.length) <;> kernel_rfl) (by decide) ?_
      apply run_nil
      apply thn_n
      refine tr_condP (p := 3 * (i : Int) + 2 < zs.length) rfl (fun hlt => ?_) (fun hlt => ?_)
      · obtain ⟨a, ha⟩ : ∃ a, zs[3 * i]? = some a := ⟨_, List.getElem?_eq_getElem (by omega)⟩
        obtain ⟨b, hb⟩ : ∃ b, zs[3 * i + 1]? = some b := ⟨_, List.getElem?_eq_getElem (by omega)⟩
        obtain ⟨d, hd⟩ : ∃ d, zs[3 * i + 2]? = some d := ⟨_, List.getElem?_eq_getElem (by omega)⟩
        have ia := ixI ha
        have ib := ixI hb
        have id' := ixI hd
        simp only [Int.natCast_add, Int.natCast_mul, Int.cast_ofNat_Int] at ia ib id'
        have la : ∀ σ, gload Tryz.prog σ 3 (.ptr (zs.map gInt) (3 * i)) = some (gInt a) := fun σ => ldI ha
        have lb : ∀ σ, gload Tryz.prog σ 3 (.ptr (zs.map gInt) (3 * i + 1)) = some (gInt b) := fun σ => ldI hb
        have ld : ∀ σ, gload Tryz.prog σ 3 (.ptr (zs.map gInt) (3 * i + 2)) = some (gInt d) := fun σ => ldI hd
        have hwb := hz2 b (List.mem_of_getElem? hb)
        have hnext : webN zs (i + 1) = out ++ [edOf a b d] := by
          rw [hout]
          unfold webN
          rw [List.range_succ, List.map_append, List.map_cons, List.map_nil]
          simp only [List.getD_eq_getElem?_getD, ha, hb, hd, Option.getD_some]
        repeat' (first | apply tr_seq | apply tr_region | apply run_nil | apply thn_n | apply thn_e | apply thn_r | apply blk_e | apply blk_n | apply blk_r | (refine blk_ne ?_ ?_; decide) | apply tr_block | apply tr_skip | apply tr_label | apply tr_exit | apply tr_ret)
        refine run_v (g := rowI zs) (by kernel_rfl) (by decide) ?_
        refine run_v (g := gInt (i : Int)) (by kernel_rfl) (by decide) ?_
        refine run_v (g := gInt (3 * (i : Int))) (Eq.trans (by kernel_rfl) g1) (by decide) ?_
        refine run_v (g := .ptr (zs.map gInt) (3 * i)) (Eq.trans (by kernel_rfl) ia) (by decide) ?_
        refine run_v (g := gInt a) (Eq.trans (by kernel_rfl) (la [])) (by decide) ?_
        refine run_c (term_fn gl a (hz2 a (List.mem_of_getElem? ha))) (by kernel_rfl) (by decide) rfl (imm1 (imm_lit _)) ?_
        refine run_cR (one_fnR gl (tmOf a)) (by kernel_rfl) (by decide) rfl (imm1 (imm_T _)) (cellsT_imm _) sget1_lt ?_
        refine run_v (g := .rsl 1 0 1) (by kernel_rfl) (by decide) ?_
        apply run_nil
        repeat' (first | apply tr_seq | apply tr_region | apply run_nil | apply thn_n | apply thn_e | apply thn_r | apply blk_e | apply blk_n | apply blk_r | (refine blk_ne ?_ ?_; decide) | apply tr_block | apply tr_skip | apply tr_label | apply tr_exit | apply tr_ret)
        refine run_v (g := rowI zs) (by kernel_rfl) (by decide) ?_
        refine run_v (g := gInt (i : Int)) (by kernel_rfl) (by decide) ?_
        refine run_v (g := gInt (3 * (i : Int))) (Eq.trans (by kernel_rfl) g1) (by decide) ?_
        refine run_v (g := gInt (3 * (i : Int) + 1)) (Eq.trans (by kernel_rfl) g3) (by decide) ?_
        refine run_v (g := .ptr (zs.map gInt) (3 * i + 1)) (Eq.trans (by kernel_rfl) ib) (by decide) ?_
        refine run_v (g := gInt b) (Eq.trans (by kernel_rfl) (lb [])) (by decide) ?_
        refine run_c (around_fn gl b 3 hwb (by decide) (by decide)) (by kernel_rfl) (by decide) rfl (imm2 (imm_lit _) (imm_lit _)) ?_
        refine run_v (g := .lit (.bool (decide (aroundI b 3 = 1)))) (by rw [show decide (aroundI b 3 = 1) = (aroundI b 3 == 1) from rfl]; kernel_rfl) (by decide) ?_
        apply run_nil
        apply thn_n
        refine tr_join (t := decide (aroundI b 3 = 1)) ⟨64, gl, [(0, rowI zs), (3, .rsl 0 0 out.length), (4, gInt (i : Int)), (5, .rsl 1 0 (f1 a b).length)], [(0, some (rowEO out)), (1, some (rowO (f1 a b)))], 2, 0, false⟩ rfl (fun hx => ?_) (fun hx => ?_) ?_
        · have hx1 : aroundI b 3 = 1 := of_decide_eq_true hx
          refine tr_region ?_
          refine run_v (g := .rsl 1 0 1) (by kernel_rfl) (by decide) ?_
          refine run_v (g := rowI zs) (by kernel_rfl) (by decide) ?_
          refine run_v (g := gInt (i : Int)) (by kernel_rfl) (by decide) ?_
          refine run_v (g := gInt (3 * (i : Int))) (Eq.trans (by kernel_rfl) g1) (by decide) ?_
          refine run_v (g := gInt (3 * (i : Int) + 1)) (Eq.trans (by kernel_rfl) g3) (by decide) ?_
          refine run_v (g := .ptr (zs.map gInt) (3 * i + 1)) (Eq.trans (by kernel_rfl) ib) (by decide) ?_
          refine run_v (g := gInt b) (Eq.trans (by kernel_rfl) (lb [])) (by decide) ?_
          refine run_c (term_fn gl b hwb) (by kernel_rfl) (by decide) rfl (imm1 (imm_lit _)) ?_
          refine run_bs (bsT (tmOf b)) (by decide) ?_
          refine run_app (i := 1) (appT (q := 1) (q2 := 2) (l := [tmOf a]) (n := [tmOf b]) (by simp) rfl rfl) (by decide) ?_
          refine run_v (g := .rsl 3 0 2) (by kernel_rfl) (by decide) ?_
          apply run_nil
          refine ⟨rfl, ?_⟩
          rw [show f1 a b = [tmOf a, tmOf b] by unfold f1; rw [if_pos hx1]]
          exact le_to [(0, 0), (1, 3)] (by decide) (by decide) (by decide) (wkfr_cons (wk_imm (imm_sl _ _)) (wkfr_cons (wk_rsl rfl) (wkfr_cons (wk_imm (imm_lit _)) (wkfr_cons (wk_rsl rfl) wkfr_nil)))) (wkst_eq rfl rfl rfl (cellsE_imm _) (wkst_eq rfl rfl rfl (cellsT_imm _) wkst_nil))
        · have hx1 : ¬ aroundI b 3 = 1 := of_decide_eq_false hx
          refine tr_skip ⟨rfl, ?_⟩
          rw [show f1 a b = [tmOf a] by unfold f1; rw [if_neg hx1]]
          exact le_to [(0, 0), (1, 1)] (by decide) (by decide) (by decide) (wkfr_cons (wk_imm (imm_sl _ _)) (wkfr_cons (wk_rsl rfl) (wkfr_cons (wk_imm (imm_lit _)) (wkfr_cons (wk_rsl rfl) wkfr_nil)))) (wkst_eq rfl rfl rfl (cellsE_imm _) (wkst_eq rfl rfl rfl (cellsT_imm _) wkst_nil))
        · repeat' (first | apply tr_seq | apply tr_region | apply run_nil | apply thn_n | apply thn_e | apply thn_r | apply blk_e | apply blk_n | apply blk_r | (refine blk_ne ?_ ?_; decide) | apply tr_block | apply tr_skip | apply tr_label | apply tr_exit | apply tr_ret)
          refine run_v (g := rowI zs) (by kernel_rfl) (by decide) ?_
          refine run_v (g := gInt (i : Int)) (by kernel_rfl) (by decide) ?_
          refine run_v (g := gInt (3 * (i : Int))) (Eq.trans (by kernel_rfl) g1) (by decide) ?_
          refine run_v (g := gInt (3 * (i : Int) + 1)) (Eq.trans (by kernel_rfl) g3) (by decide) ?_
          refine run_v (g := .ptr (zs.map gInt) (3 * i + 1)) (Eq.trans (by kernel_rfl) ib) (by decide) ?_
          refine run_v (g := gInt b) (Eq.trans (by kernel_rfl) (lb [])) (by decide) ?_
          refine run_c (around_fn gl b 17 hwb (by decide) (by decide)) (by kernel_rfl) (by decide) rfl (imm2 (imm_lit _) (imm_lit _)) ?_
          refine run_v (g := .lit (.bool (decide (aroundI b 17 = 5)))) (by rw [show decide (aroundI b 17 = 5) = (aroundI b 17 == 5) from rfl]; kernel_rfl) (by decide) ?_
          apply run_nil
          apply thn_n
          refine tr_join (t := decide (aroundI b 17 = 5)) ⟨64, gl, [(0, rowI zs), (3, .rsl 0 0 out.length), (4, gInt (i : Int)), (5, rowT (edOf a b d).1)], [(0, some (rowEO out))], 1, 0, false⟩ rfl (fun hy => ?_) (fun hy => ?_) ?_
          · have hy1 : aroundI b 17 = 5 := of_decide_eq_true hy
            refine tr_region ?_
            refine run_v (g := .lit (.slice none 0 0)) (by kernel_rfl) (by decide) ?_
            apply run_nil
            refine ⟨rfl, ?_⟩
            rw [show (edOf a b d).1 = [] by unfold edOf; rw [if_pos hy1]]
            exact le_to [(0, 0)] (by decide) (by decide) (by decide) (wkfr_cons (wk_imm (imm_sl _ _)) (wkfr_cons (wk_rsl rfl) (wkfr_cons (wk_imm (imm_lit _)) (wkfr_cons wk_nilT wkfr_nil)))) (wkst_eq rfl rfl rfl (cellsE_imm _) wkst_nil)
          · have hy1 : ¬ aroundI b 17 = 5 := of_decide_eq_false hy
            refine tr_skip ⟨rfl, ?_⟩
            rw [show (edOf a b d).1 = f1 a b by unfold edOf f1; rw [if_neg hy1]]
            exact le_to [(0, 0)] (by decide) (by decide) (by decide) (wkfr_cons (wk_imm (imm_sl _ _)) (wkfr_cons (wk_rsl rfl) (wkfr_cons (wk_imm (imm_lit _)) (wkfr_cons (wkFrzT (q := 1) (by decide) rfl) wkfr_nil)))) (wkst_eq rfl rfl rfl (cellsE_imm _) wkst_nil)
          · repeat' (first | apply tr_seq | apply tr_region | apply run_nil | apply thn_n | apply thn_e | apply thn_r | apply blk_e | apply blk_n | apply blk_r | (refine blk_ne ?_ ?_; decide) | apply tr_block | apply tr_skip | apply tr_label | apply tr_exit | apply tr_ret)
            refine run_v (g := .rsl 0 0 out.length) (by kernel_rfl) (by decide) ?_
            refine run_v (g := rowT (edOf a b d).1) (by kernel_rfl) (by decide) ?_
            refine run_v (g := rowI zs) (by kernel_rfl) (by decide) ?_
            refine run_v (g := gInt (i : Int)) (by kernel_rfl) (by decide) ?_
            refine run_v (g := gInt (3 * (i : Int))) (Eq.trans (by kernel_rfl) g1) (by decide) ?_
            refine run_v (g := gInt (3 * (i : Int) + 2)) (Eq.trans (by kernel_rfl) g2) (by decide) ?_
            refine run_v (g := .ptr (zs.map gInt) (3 * i + 2)) (Eq.trans (by kernel_rfl) id') (by decide) ?_
            refine run_v (g := gInt d) (Eq.trans (by kernel_rfl) (ld [])) (by decide) ?_
            refine run_c (term_fn gl d (hz2 d (List.mem_of_getElem? hd))) (by kernel_rfl) (by decide) rfl (imm1 (imm_lit _)) ?_
            refine run_build (g := .agg (cE (edOf a b d))) (bdE2 (edOf a b d)) (by decide) ?_
            refine run_bs (bsE (edOf a b d)) (by decide) ?_
            refine run_app (i := 0) (appE (t := 23) (T := 47) (q := 0) (q2 := 1) (l := out) (n := [edOf a b d]) (by kernel_rfl) (by kernel_rfl) (by kernel_rfl) (by kernel_rfl) (by rw [hol]; show i + 1 ≤ _; omega) rfl rfl) (by decide) ?_
            refine run_v (g := .rsl 2 0 (out.length + 1)) (by kernel_rfl) (by decide) ?_
            apply run_nil
            repeat' (first | apply tr_seq | apply tr_region | apply run_nil | apply thn_n | apply thn_e | apply thn_r | apply blk_e | apply blk_n | apply blk_r | (refine blk_ne ?_ ?_; decide) | apply tr_block | apply tr_skip | apply tr_label | apply tr_exit | apply tr_ret | (refine tr_region_draw (bars := []) mixed (by kernel_rfl) ?_) | apply rund_nil | ((first | apply run_v | apply rund_v); simp (disch := omega) [if_pos]; (first | rfl | exact ⟨rfl, rfl⟩); decide) | ((first | apply run_bs | apply run_app | apply run_build | apply run_box | apply run_alloc | apply rund_build); simp (disch := omega) [if_pos]; (first | rfl | exact ⟨rfl, rfl⟩ | exact ⟨rfl, rfl, rfl, rfl⟩); decide) | (apply run_sto; simp (disch := omega) [if_pos]; rfl))
            refine ⟨⟨i + 1, by omega, by omega⟩, ?_, by show 20 - (i + 1) < 20 - i; omega⟩
            dsimp only
            rw [hnext, List.length_append]
            refine le_to [(0, 2)] (by decide) (by decide) (by decide) (wkfr_cons (wk_imm (imm_sl _ _)) (wkfr_cons (wk_rsl rfl) (wkfr_cons (wk_int (by omega)) wkfr_nil))) (wkst_eq rfl rfl rfl (cellsE_imm _) wkst_nil)
      · rw [fin (by omega)]
        repeat' (first | apply tr_seq | apply tr_region | apply run_nil | apply thn_n | apply thn_e | apply thn_r | apply blk_e | apply blk_n | apply blk_r | (refine blk_ne ?_ ?_; decide) | apply tr_block | apply tr_skip | apply tr_label | apply tr_exit | apply tr_ret)
        refine run_v (g := .rsl 0 0 out.length) (by kernel_rfl) (by decide) ?_
        refine run_v (g := .rsl 0 0 out.length) (by kernel_rfl) (by decide) ?_
        apply run_nil
        repeat' (first | apply tr_seq | apply tr_region | apply run_nil | apply thn_n | apply thn_e | apply thn_r | apply blk_e | apply blk_n | apply blk_r | (refine blk_ne ?_ ?_; decide) | apply tr_block | apply tr_skip | apply tr_label | apply tr_exit | apply tr_ret)
        exact endR (i := 0) (u := 2) rfl rfl rfl rfl (cellsE_imm _) (.inr rfl)
    · have m0 : decide ((i : Int) < 20) = false := by simp; omega
      refine run_v (g := .lit (.bool false)) (by rw [← m0]; kernel_rfl) (by decide) ?_
      refine run_v (g := .lit (.bool false)) (by kernel_rfl) (by decide) ?_
      iterate 6 refine gun_n (by kernel_rfl) (by decide) ?_
      refine run_v (g := .lit (.bool false)) (by kernel_rfl) (by decide) ?_
      apply run_nil
      apply thn_n
      refine tr_condF rfl ?_
      rw [fin (by omega)]
      repeat' (first | apply tr_seq | apply tr_region | apply run_nil | apply thn_n | apply thn_e | apply thn_r | apply blk_e | apply blk_n | apply blk_r | (refine blk_ne ?_ ?_; decide) | apply tr_block | apply tr_skip | apply tr_label | apply tr_exit | apply tr_ret)
      refine run_v (g := .rsl 0 0 out.length) (by kernel_rfl) (by decide) ?_
      refine run_v (g := .rsl 0 0 out.length) (by kernel_rfl) (by decide) ?_
      apply run_nil
      repeat' (first | apply tr_seq | apply tr_region | apply run_nil | apply thn_n | apply thn_e | apply thn_r | apply blk_e | apply blk_n | apply blk_r | (refine blk_ne ?_ ?_; decide) | apply tr_block | apply tr_skip | apply tr_label | apply tr_exit | apply tr_ret)
      exact endR (i := 0) (u := 2) rfl rfl rfl rfl (cellsE_imm _) (.inr rfl)
end
section
open Go.RowKit
set_option linter.unusedVariables false
set_option linter.unusedSimpArgs false
theorem reach_fn (gl : List (Nat × List G)) (l : List Ed) (t : List Tm) (hF : Few l t) : Fn' Tryz.prog gl 9 [rowE l, rowT t] (rowT (reachA ltB l t)) :=
  (reach_fnR sortsT gl l t hF).fn (s := 6) (by kernel_rfl) (len_cells _) (cellsT_imm _)
theorem reach_len (l : List Ed) (t : List Tm) (hF : Few l t) : (reachA ltB l t).length ≤ 2000 := by
  have h1 := fin_len l t
  have h2 : (reachA ltB l t).length = (finA l (startA t)).length := (sortS_perm totB _).length_eq
  have := hF.rules
  have := hF.terms
  omega
end
end Go.Proofs.YtjbbgjbknfoddaaGreatDoor
