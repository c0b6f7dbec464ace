/- SpyCloses, walked. -/
import Derived.Test.YtjbbgjbknfoddaaGreatDoorReL
namespace Go.Proofs.YtjbbgjbknfoddaaGreatDoor
open Go.RowKit
set_option linter.unusedVariables false
set_option linter.unusedSimpArgs false
theorem wkFrzE {st : St} {ρ : List (Nat × Nat)} {q : Nat} {l : List Ed} (hk : ∀ p ∈ ρ, p.2 ≠ q) (h : sget st.σ q = some (rowES l)) : Wk Tryz.prog st ρ (.rsl q 0 l.length) (rowE l) := by
  have := wk_rsl_frz (P := Tryz.prog) (st := st) (ρ := ρ) (i := q) (o := 0) (n := l.length) (s := 7) (ob := rowES l) hk h (by kernel_rfl) (by rw [len_cellsE]; omega) (cellsE_imm l)
  rw [List.drop_zero, List.take_of_length_le (by rw [len_cellsE]; exact Nat.le_refl _)] at this
  exact this
theorem viewF {σ : Sto} (l : List Tm) : gview σ 6 (rowT l) = some (cellsT l, l.length) := by
  simp only [gview]
  rw [if_pos (len_cells l)]
theorem appEF {σ : Sto} {c q : Nat} {l n : List Ed} (hl : l.length + n.length ≤ 1000000) (ho : sget σ q = some (rowES l)) : gapp Tryz.prog σ c 29 (.rsl q 0 l.length) (rowE n) = some (49, q, l.length + n.length, cellsE (l ++ n)) := by
  unfold gapp
  rw [show telem Tryz.prog 29 = some 49 by kernel_rfl, Option.bind_some, show tsize Tryz.prog 49 = some 7 by kernel_rfl, Option.bind_some, show tzero Tryz.prog 49 = some [.slice none 0 0, .int .i64 0, .int .i64 0, .int .i64 0, .int .u64 0, .int .i64 0, .int .i64 0] by kernel_rfl, Option.bind_some, show (Tryz.prog.info? 49).map (·.bytes) = some 72 by kernel_rfl, Option.bind_some]
  have e1 : gsrc σ c 49 7 (.rsl q 0 l.length) = some (q, l.length, cellsE l) := by
    simp only [gsrc, ho, Option.bind_some]
    rw [if_pos ⟨trivial, len_cellsE l, rfl⟩]
  have e2 : gview σ 7 (rowE n) = some (cellsE n, n.length) := by
    simp only [gview]
    rw [if_pos (len_cellsE n)]
  rw [e1, Option.bind_some]
  dsimp only
  rw [e2, Option.bind_some]
  dsimp only
  rw [if_pos ⟨by decide, rfl, by omega, by omega⟩]
  simp [cellsE]
theorem bsE0 : gbs Tryz.prog 29 0 [] = some (49, cellsE []) := by kernel_rfl
theorem bsT0 : gbs Tryz.prog 25 0 [] = some (38, cellsT []) := by kernel_rfl
attribute [local irreducible] gT tmOf
attribute [local irreducible] Tr Run RunD GS TG Le Wk Frz Fn' ImmG Flat WkFr WkSt EndM GSn Vw Rn FnM
set_option maxHeartbeats 8000000 in
theorem lawCloses_fn (gl : List (Nat × List G)) (hl : Fn' Tryz.prog gl 12 [] (.lit (.bool true))) (zs ms ss os : List Int) (hz : Ints zs) (hm : Ints ms) (hs : Ints ss) (ho : Ints os) : Fn' Tryz.prog gl 5 [rowI zs, rowI ms, rowI ss, rowI os] (.lit (.bool true)) := by
  obtain ⟨W, hW⟩ : ∃ W, W = webOf zs := ⟨_, rfl⟩
  obtain ⟨W2, hW2⟩ : ∃ W, W = webOf ms := ⟨_, rfl⟩
  obtain ⟨T, hT⟩ : ∃ T, T = (ss.take 5).map tmOf := ⟨_, rfl⟩
  obtain ⟨T2, hT2⟩ : ∃ T, T = (os.take 4).map tmOf := ⟨_, rfl⟩
  have F1 := web_few zs ss 5 (by decide)
  have F2 := web_few ms os 4 (by decide)
  have lW : W.length ≤ 20 := by rw [hW]; simp [webOf, webN]; omega
  have lW2 : W2.length ≤ 20 := by rw [hW2]; simp [webOf, webN]; omega
  have lT : T.length ≤ 5 := by rw [hT]; simp; omega
  have lT2 : T2.length ≤ 4 := by rw [hT2]; simp; omega
  rw [← hW, ← hT] at F1
  rw [← hW2, ← hT2] at F2
  have FB : Few W (T ++ T2) := ⟨F1.rules, by simp; omega, F1.each⟩
  have FC : Few (W ++ W2) T := ⟨by simp; omega, F1.terms, fun e he => by
    rcases List.mem_append.1 he with h | h
    · exact F1.each e h
    · exact F2.each e h⟩
  have la := reach_len W T F1
  have hFA : Few W (reachA ltB W T) := ⟨F1.rules, by
    have h1 := fin_len W T
    have h2 : (reachA ltB W T).length = (finA W (startA T)).length := (sortS_perm totB _).length_eq
    omega, F1.each⟩
  obtain ⟨A, hA⟩ : ∃ A, A = reachA ltB W T := ⟨_, rfl⟩
  obtain ⟨B, hB⟩ : ∃ B, B = reachA ltB W (T ++ T2) := ⟨_, rfl⟩
  obtain ⟨C, hC⟩ : ∃ C, C = reachA ltB (W ++ W2) T := ⟨_, rfl⟩
  have lb := reach_len _ _ FB
  have lc := reach_len _ _ FC
  have TA : ∀ x ∈ T, x ∈ A := fun x hx => by rw [hA]; exact reach_has totB W T hx
  have AB : ∀ x ∈ A, x ∈ B := fun x hx => by
    rw [hB]; rw [hA] at hx
    exact reach_mono totB (fun _ h => h) (fun y hy => List.mem_append_left _ hy) hx
  have AC : ∀ x ∈ A, x ∈ C := fun x hx => by
    rw [hC]; rw [hA] at hx
    exact reach_mono totB (fun e he => List.mem_append_left _ he) (fun _ h => h) hx
  have AS : A.Pairwise (fun a b => ltB a b = true) := by rw [hA]; exact reach_strict totB W T
  have AA : reachA ltB W A = A := by rw [hA]; exact reach_again totB W T
  rw [← hA] at la hFA
  rw [← hB] at lb
  rw [← hC] at lc
  refine fn_enter Tryz.func5 rfl (by simp [Tryz.ntmps5]) ?_
  simp only [St.enter, enterFr, Tryz.ntmps5]
  repeat' (first | apply tr_seq | apply tr_region | apply run_nil | apply thn_n | apply thn_e | apply thn_r | apply blk_e | apply blk_n | apply blk_r | (refine blk_ne ?_ ?_; decide) | apply tr_block | apply tr_skip | apply tr_label | apply tr_exit | apply tr_ret)
  refine run_v (g := .lit (.bool false)) (by kernel_rfl) (by decide) ?_
  apply run_nil
  repeat' (first | apply tr_seq | apply tr_region | apply run_nil | apply thn_n | apply thn_e | apply thn_r | apply blk_e | apply blk_n | apply blk_r | (refine blk_ne ?_ ?_; decide) | apply tr_block | apply tr_skip | apply tr_label | apply tr_exit | apply tr_ret)
  refine run_v (g := rowI zs) (by kernel_rfl) (by decide) ?_
  refine run_c (r := rowE W) (by rw [hW]; exact web_fn gl zs hz) (by kernel_rfl) (by decide) rfl (imm1 (imm_sl _ _)) ?_
  refine run_c (own_fn gl W F1.rules) (by kernel_rfl) (by decide) rfl (imm1 (imm_sl _ _)) ?_
  refine run_v (g := rowE W) (by kernel_rfl) (by decide) ?_
  apply run_nil
  repeat' (first | apply tr_seq | apply tr_region | apply run_nil | apply thn_n | apply thn_e | apply thn_r | apply blk_e | apply blk_n | apply blk_r | (refine blk_ne ?_ ?_; decide) | apply tr_block | apply tr_skip | apply tr_label | apply tr_exit | apply tr_ret)
  refine run_bs bsE0 (by decide) ?_
  refine run_v (g := rowE W) (by kernel_rfl) (by decide) ?_
  refine run_app (i := 0) (appEF (q := 0) (l := []) (n := W) (by simp; omega) rfl) (by decide) ?_
  simp only [List.length_nil, Nat.zero_add, List.nil_append]
  refine run_v (g := rowI ms) (by kernel_rfl) (by decide) ?_
  refine run_c (r := rowE W2) (by rw [hW2]; exact web_fn gl ms hm) (by kernel_rfl) (by decide) rfl (imm1 (imm_sl _ _)) ?_
  refine run_c (own_fn gl W2 F2.rules) (by kernel_rfl) (by decide) rfl (imm1 (imm_sl _ _)) ?_
  refine run_app (i := 1) (appEF (q := 1) (l := W) (n := W2) (by omega) rfl) (by decide) ?_
  refine run_v (g := .rsl 2 0 (W ++ W2).length) (by rw [List.length_append]; kernel_rfl) (by decide) ?_
  apply run_nil
  apply thn_n
  refine Tr.le (st' := ⟨105, gl, [(2, rowI ss), (3, rowI os), (9, rowE W), (10, rowE (W ++ W2))], [], 0, 0, false⟩) ?_ ?_
  rotate_left
  · exact le_to [] (by decide) (by simp) (by simp) (wkfr_cons (wk_imm (imm_sl _ _)) (wkfr_cons (wk_imm (imm_sl _ _)) (wkfr_cons (wk_imm (imm_sl _ _)) (wkfr_cons (wkFrzE (q := 2) (by simp) rfl) wkfr_nil)))) wkst_nil
  repeat' (first | apply tr_seq | apply tr_region | apply run_nil | apply thn_n | apply thn_e | apply thn_r | apply blk_e | apply blk_n | apply blk_r | (refine blk_ne ?_ ?_; decide) | apply tr_block | apply tr_skip | apply tr_label | apply tr_exit | apply tr_ret)
  refine run_v (g := rowI ss) (by kernel_rfl) (by decide) ?_
  refine run_c (r := rowT T) (by rw [hT]; exact terms_fn gl ss hs 5 (by decide)) (by kernel_rfl) (by decide) rfl (imm2 (imm_sl _ _) (imm_lit _)) ?_
  refine run_v (g := rowT T) (by kernel_rfl) (by decide) ?_
  apply run_nil
  repeat' (first | apply tr_seq | apply tr_region | apply run_nil | apply thn_n | apply thn_e | apply thn_r | apply blk_e | apply blk_n | apply blk_r | (refine blk_ne ?_ ?_; decide) | apply tr_block | apply tr_skip | apply tr_label | apply tr_exit | apply tr_ret)
  refine run_bs bsT0 (by decide) ?_
  refine run_v (g := rowT T) (by kernel_rfl) (by decide) ?_
  refine run_app (i := 0) (appG (l := []) (n := T) (by simp; omega) (srcT (q := 0) (l := []) rfl) (viewF T)) (by decide) ?_
  simp only [List.length_nil, Nat.zero_add, List.nil_append]
  refine run_v (g := rowI os) (by kernel_rfl) (by decide) ?_
  refine run_c (r := rowT T2) (by rw [hT2]; exact terms_fn gl os ho 4 (by decide)) (by kernel_rfl) (by decide) rfl (imm2 (imm_sl _ _) (imm_lit _)) ?_
  refine run_app (i := 1) (appG (l := T) (n := T2) (by omega) (srcT (q := 1) (l := T) rfl) (viewF T2)) (by decide) ?_
  refine run_v (g := .rsl 2 0 (T ++ T2).length) (by rw [List.length_append]; kernel_rfl) (by decide) ?_
  apply run_nil
  apply thn_n
  refine Tr.le (st' := ⟨105, gl, [(9, rowE W), (10, rowE (W ++ W2)), (11, rowT T), (12, rowT (T ++ T2))], [], 0, 0, false⟩) ?_ ?_
  rotate_left
  · exact le_to [] (by decide) (by simp) (by simp) (wkfr_cons (wk_imm (imm_sl _ _)) (wkfr_cons (wk_imm (imm_sl _ _)) (wkfr_cons (wk_imm (imm_sl _ _)) (wkfr_cons (wkFrzT (q := 2) (by simp) rfl) wkfr_nil)))) wkst_nil
  repeat' (first | apply tr_seq | apply tr_region | apply run_nil | apply thn_n | apply thn_e | apply thn_r | apply blk_e | apply blk_n | apply blk_r | (refine blk_ne ?_ ?_; decide) | apply tr_block | apply tr_skip | apply tr_label | apply tr_exit | apply tr_ret)
  refine run_v (g := rowE W) (by kernel_rfl) (by decide) ?_
  refine run_v (g := rowT T) (by kernel_rfl) (by decide) ?_
  refine run_c (r := rowT A) (by rw [hA]; exact reach_fn gl W T F1) (by kernel_rfl) (by decide) rfl (imm2 (imm_sl _ _) (imm_sl _ _)) ?_
  refine run_v (g := rowT A) (by kernel_rfl) (by decide) ?_
  apply run_nil
  repeat' (first | apply tr_seq | apply tr_region | apply run_nil | apply thn_n | apply thn_e | apply thn_r | apply blk_e | apply blk_n | apply blk_r | (refine blk_ne ?_ ?_; decide) | apply tr_block | apply tr_skip | apply tr_label | apply tr_exit | apply tr_ret)
  refine run_v (g := rowE W) (by kernel_rfl) (by decide) ?_
  refine run_v (g := rowT (T ++ T2)) (by kernel_rfl) (by decide) ?_
  refine run_c (r := rowT B) (by rw [hB]; exact reach_fn gl W (T ++ T2) FB) (by kernel_rfl) (by decide) rfl (imm2 (imm_sl _ _) (imm_sl _ _)) ?_
  refine run_v (g := rowT B) (by kernel_rfl) (by decide) ?_
  apply run_nil
  repeat' (first | apply tr_seq | apply tr_region | apply run_nil | apply thn_n | apply thn_e | apply thn_r | apply blk_e | apply blk_n | apply blk_r | (refine blk_ne ?_ ?_; decide) | apply tr_block | apply tr_skip | apply tr_label | apply tr_exit | apply tr_ret)
  refine run_v (g := rowE (W ++ W2)) (by kernel_rfl) (by decide) ?_
  refine run_v (g := rowT T) (by kernel_rfl) (by decide) ?_
  refine run_c (r := rowT C) (by rw [hC]; exact reach_fn gl (W ++ W2) T FC) (by kernel_rfl) (by decide) rfl (imm2 (imm_sl _ _) (imm_sl _ _)) ?_
  refine run_v (g := rowT C) (by kernel_rfl) (by decide) ?_
  apply run_nil
  repeat' (first | apply tr_seq | apply tr_region | apply run_nil | apply thn_n | apply thn_e | apply thn_r | apply blk_e | apply blk_n | apply blk_r | (refine blk_ne ?_ ?_; decide) | apply tr_block | apply tr_skip | apply tr_label | apply tr_exit | apply tr_ret | (refine tr_region_draw (bars := []) mixed (by kernel_rfl) ?_) | apply rund_nil | (apply run_v; simp (disch := omega) [if_pos]; (first | rfl | exact ⟨rfl, rfl⟩ | exact ⟨rfl, rfl, rfl, rfl⟩); decide) | (apply rund_v; simp (disch := omega) [if_pos]; (first | rfl | exact ⟨rfl, rfl⟩ | exact ⟨rfl, rfl, rfl, rfl⟩); decide) | (apply run_conv; simp (disch := omega) [if_pos]; (first | rfl | exact ⟨rfl, rfl⟩ | exact ⟨rfl, rfl, rfl, rfl⟩); decide) | (apply rund_conv; simp (disch := omega) [if_pos]; (first | rfl | exact ⟨rfl, rfl⟩ | exact ⟨rfl, rfl, rfl, rfl⟩); decide) | (apply run_min; simp (disch := omega) [if_pos]; (first | rfl | exact ⟨rfl, rfl⟩ | exact ⟨rfl, rfl, rfl, rfl⟩); decide) | (apply rund_min; simp (disch := omega) [if_pos]; (first | rfl | exact ⟨rfl, rfl⟩ | exact ⟨rfl, rfl, rfl, rfl⟩); decide) | (apply run_max; simp (disch := omega) [if_pos]; (first | rfl | exact ⟨rfl, rfl⟩ | exact ⟨rfl, rfl, rfl, rfl⟩); decide) | (apply rund_max; simp (disch := omega) [if_pos]; (first | rfl | exact ⟨rfl, rfl⟩ | exact ⟨rfl, rfl, rfl, rfl⟩); decide) | (apply run_lenS; simp (disch := omega) [if_pos]; (first | rfl | exact ⟨rfl, rfl⟩ | exact ⟨rfl, rfl, rfl, rfl⟩); decide) | (apply rund_lenS; simp (disch := omega) [if_pos]; (first | rfl | exact ⟨rfl, rfl⟩ | exact ⟨rfl, rfl, rfl, rfl⟩); decide) | (apply run_bs; simp (disch := omega) [if_pos]; (first | rfl | exact ⟨rfl, rfl⟩ | exact ⟨rfl, rfl, rfl, rfl⟩); decide) | (apply run_app; simp (disch := omega) [if_pos]; (first | rfl | exact ⟨rfl, rfl⟩ | exact ⟨rfl, rfl, rfl, rfl⟩); decide) | (apply run_build; simp (disch := omega) [if_pos]; (first | rfl | exact ⟨rfl, rfl⟩ | exact ⟨rfl, rfl, rfl, rfl⟩); decide) | (apply run_box; simp (disch := omega) [if_pos]; (first | rfl | exact ⟨rfl, rfl⟩ | exact ⟨rfl, rfl, rfl, rfl⟩); decide) | (apply run_alloc; simp (disch := omega) [if_pos]; (first | rfl | exact ⟨rfl, rfl⟩ | exact ⟨rfl, rfl, rfl, rfl⟩); decide) | (apply rund_build; simp (disch := omega) [if_pos]; (first | rfl | exact ⟨rfl, rfl⟩ | exact ⟨rfl, rfl, rfl, rfl⟩); decide) | (apply run_sto; simp (disch := omega) [if_pos]; rfl) | (apply rund_bs; decide; simp (disch := omega) [if_pos]; (first | rfl | exact ⟨rfl, rfl⟩ | exact ⟨rfl, rfl, rfl, rfl⟩); decide) | (apply rund_app; decide; simp (disch := omega) [if_pos]; (first | rfl | exact ⟨rfl, rfl⟩ | exact ⟨rfl, rfl, rfl, rfl⟩); decide) | (apply rund_sto; decide; simp (disch := omega) [if_pos]; rfl))
  refine tr_loop (fun q : {q : Nat // q ≤ T.length} => ⟨105, gl, [(9, rowE W), (11, rowT T), (13, rowT A), (14, rowT B), (15, rowT C), (16, gInt (q.1 : Int))], [], 0, 0, false⟩) (fun q => T.length - q.1) ⟨0, Nat.zero_le _⟩ ?_ ?_
  · exact le_to [] (by decide) (by simp) (by simp) (wkfr_cons (wk_imm (imm_sl _ _)) (wkfr_cons (wk_imm (imm_sl _ _)) (wkfr_cons (wk_imm (imm_sl _ _)) (wkfr_cons (wk_imm (imm_sl _ _)) (wkfr_cons (wk_imm (imm_sl _ _)) (wkfr_cons (wk_imm (imm_lit _)) wkfr_nil)))))) wkst_nil
  · rintro ⟨i, hi⟩
    dsimp only
    repeat' (first | apply tr_seq | apply tr_region | apply run_nil | apply thn_n | apply thn_e | apply thn_r | apply blk_e | apply blk_n | apply blk_r | (refine blk_ne ?_ ?_; decide) | apply tr_block | apply tr_skip | apply tr_label | apply tr_exit | apply tr_ret | (refine tr_region_draw (bars := []) mixed (by kernel_rfl) ?_) | apply rund_nil | (apply run_v; simp (disch := omega) [if_pos]; (first | rfl | exact ⟨rfl, rfl⟩ | exact ⟨rfl, rfl, rfl, rfl⟩); decide) | (apply rund_v; simp (disch := omega) [if_pos]; (first | rfl | exact ⟨rfl, rfl⟩ | exact ⟨rfl, rfl, rfl, rfl⟩); decide) | (apply run_conv; simp (disch := omega) [if_pos]; (first | rfl | exact ⟨rfl, rfl⟩ | exact ⟨rfl, rfl, rfl, rfl⟩); decide) | (apply rund_conv; simp (disch := omega) [if_pos]; (first | rfl | exact ⟨rfl, rfl⟩ | exact ⟨rfl, rfl, rfl, rfl⟩); decide) | (apply run_min; simp (disch := omega) [if_pos]; (first | rfl | exact ⟨rfl, rfl⟩ | exact ⟨rfl, rfl, rfl, rfl⟩); decide) | (apply rund_min; simp (disch := omega) [if_pos]; (first | rfl | exact ⟨rfl, rfl⟩ | exact ⟨rfl, rfl, rfl, rfl⟩); decide) | (apply run_max; simp (disch := omega) [if_pos]; (first | rfl | exact ⟨rfl, rfl⟩ | exact ⟨rfl, rfl, rfl, rfl⟩); decide) | (apply rund_max; simp (disch := omega) [if_pos]; (first | rfl | exact ⟨rfl, rfl⟩ | exact ⟨rfl, rfl, rfl, rfl⟩); decide) | (apply run_lenS; simp (disch := omega) [if_pos]; (first | rfl | exact ⟨rfl, rfl⟩ | exact ⟨rfl, rfl, rfl, rfl⟩); decide) | (apply rund_lenS; simp (disch := omega) [if_pos]; (first | rfl | exact ⟨rfl, rfl⟩ | exact ⟨rfl, rfl, rfl, rfl⟩); decide) | (apply run_bs; simp (disch := omega) [if_pos]; (first | rfl | exact ⟨rfl, rfl⟩ | exact ⟨rfl, rfl, rfl, rfl⟩); decide) | (apply run_app; simp (disch := omega) [if_pos]; (first | rfl | exact ⟨rfl, rfl⟩ | exact ⟨rfl, rfl, rfl, rfl⟩); decide) | (apply run_build; simp (disch := omega) [if_pos]; (first | rfl | exact ⟨rfl, rfl⟩ | exact ⟨rfl, rfl, rfl, rfl⟩); decide) | (apply run_box; simp (disch := omega) [if_pos]; (first | rfl | exact ⟨rfl, rfl⟩ | exact ⟨rfl, rfl, rfl, rfl⟩); decide) | (apply run_alloc; simp (disch := omega) [if_pos]; (first | rfl | exact ⟨rfl, rfl⟩ | exact ⟨rfl, rfl, rfl, rfl⟩); decide) | (apply rund_build; simp (disch := omega) [if_pos]; (first | rfl | exact ⟨rfl, rfl⟩ | exact ⟨rfl, rfl, rfl, rfl⟩); decide) | (apply run_sto; simp (disch := omega) [if_pos]; rfl) | (apply rund_bs; decide; simp (disch := omega) [if_pos]; (first | rfl | exact ⟨rfl, rfl⟩ | exact ⟨rfl, rfl, rfl, rfl⟩); decide) | (apply rund_app; decide; simp (disch := omega) [if_pos]; (first | rfl | exact ⟨rfl, rfl⟩ | exact ⟨rfl, rfl, rfl, rfl⟩); decide) | (apply rund_sto; decide; simp (disch := omega) [if_pos]; rfl))
    refine tr_condP (p := i < T.length) ?_ (fun h => ?_) (fun h => ?_)
    · simp
    · obtain ⟨x, hx⟩ : ∃ x, T[i]? = some x := ⟨_, List.getElem?_eq_getElem h⟩
      have i1 := ixT hx
      have i2 : ∀ σ, gload Tryz.prog σ 38 (.ptr (cellsT T) (i * 6)) = some (gT x) := fun σ => ldT hx
      have hh : Fn' Tryz.prog gl 15 [rowT A, gT x] (.lit (.bool true)) := by
        have := has_fn gl A x (by omega)
        rwa [decide_eq_true (TA x (List.mem_of_getElem? hx))] at this
      repeat' (first | apply tr_seq | apply tr_region | apply run_nil | apply thn_n | apply thn_e | apply thn_r | apply blk_e | apply blk_n | apply blk_r | (refine blk_ne ?_ ?_; decide) | apply tr_block | apply tr_skip | apply tr_label | apply tr_exit | apply tr_ret)
      refine run_v (g := rowT A) (by kernel_rfl) (by decide) ?_
      refine run_v (g := rowT T) (by kernel_rfl) (by decide) ?_
      refine run_v (g := gInt (i : Int)) (by kernel_rfl) (by decide) ?_
      refine run_v (g := .ptr (cellsT T) (i * 6)) (Eq.trans (by kernel_rfl) i1) (by decide) ?_
      refine run_v (g := gT x) (Eq.trans (by kernel_rfl) (i2 [])) (by decide) ?_
      refine run_c hh (by kernel_rfl) (by decide) rfl (imm2 (imm_sl _ _) (imm_T _)) ?_
      refine run_v (g := .lit (.bool false)) (by kernel_rfl) (by decide) ?_
      apply run_nil
      repeat' (first | apply tr_seq | apply tr_region | apply run_nil | apply thn_n | apply thn_e | apply thn_r | apply blk_e | apply blk_n | apply blk_r | (refine blk_ne ?_ ?_; decide) | apply tr_block | apply tr_skip | apply tr_label | apply tr_exit | apply tr_ret)
      refine tr_condF rfl ?_
      repeat' (first | apply tr_seq | apply tr_region | apply run_nil | apply thn_n | apply thn_e | apply thn_r | apply blk_e | apply blk_n | apply blk_r | (refine blk_ne ?_ ?_; decide) | apply tr_block | apply tr_skip | apply tr_label | apply tr_exit | apply tr_ret | (refine tr_region_draw (bars := []) mixed (by kernel_rfl) ?_) | apply rund_nil | (apply run_v; simp (disch := omega) [if_pos]; (first | rfl | exact ⟨rfl, rfl⟩ | exact ⟨rfl, rfl, rfl, rfl⟩); decide) | (apply rund_v; simp (disch := omega) [if_pos]; (first | rfl | exact ⟨rfl, rfl⟩ | exact ⟨rfl, rfl, rfl, rfl⟩); decide) | (apply run_conv; simp (disch := omega) [if_pos]; (first | rfl | exact ⟨rfl, rfl⟩ | exact ⟨rfl, rfl, rfl, rfl⟩); decide) | (apply rund_conv; simp (disch := omega) [if_pos]; (first | rfl | exact ⟨rfl, rfl⟩ | exact ⟨rfl, rfl, rfl, rfl⟩); decide) | (apply run_min; simp (disch := omega) [if_pos]; (first | rfl | exact ⟨rfl, rfl⟩ | exact ⟨rfl, rfl, rfl, rfl⟩); decide) | (apply rund_min; simp (disch := omega) [if_pos]; (first | rfl | exact ⟨rfl, rfl⟩ | exact ⟨rfl, rfl, rfl, rfl⟩); decide) | (apply run_max; simp (disch := omega) [if_pos]; (first | rfl | exact ⟨rfl, rfl⟩ | exact ⟨rfl, rfl, rfl, rfl⟩); decide) | (apply rund_max; simp (disch := omega) [if_pos]; (first | rfl | exact ⟨rfl, rfl⟩ | exact ⟨rfl, rfl, rfl, rfl⟩); decide) | (apply run_lenS; simp (disch := omega) [if_pos]; (first | rfl | exact ⟨rfl, rfl⟩ | exact ⟨rfl, rfl, rfl, rfl⟩); decide) | (apply rund_lenS; simp (disch := omega) [if_pos]; (first | rfl | exact ⟨rfl, rfl⟩ | exact ⟨rfl, rfl, rfl, rfl⟩); decide) | (apply run_bs; simp (disch := omega) [if_pos]; (first | rfl | exact ⟨rfl, rfl⟩ | exact ⟨rfl, rfl, rfl, rfl⟩); decide) | (apply run_app; simp (disch := omega) [if_pos]; (first | rfl | exact ⟨rfl, rfl⟩ | exact ⟨rfl, rfl, rfl, rfl⟩); decide) | (apply run_build; simp (disch := omega) [if_pos]; (first | rfl | exact ⟨rfl, rfl⟩ | exact ⟨rfl, rfl, rfl, rfl⟩); decide) | (apply run_box; simp (disch := omega) [if_pos]; (first | rfl | exact ⟨rfl, rfl⟩ | exact ⟨rfl, rfl, rfl, rfl⟩); decide) | (apply run_alloc; simp (disch := omega) [if_pos]; (first | rfl | exact ⟨rfl, rfl⟩ | exact ⟨rfl, rfl, rfl, rfl⟩); decide) | (apply rund_build; simp (disch := omega) [if_pos]; (first | rfl | exact ⟨rfl, rfl⟩ | exact ⟨rfl, rfl, rfl, rfl⟩); decide) | (apply run_sto; simp (disch := omega) [if_pos]; rfl) | (apply rund_bs; decide; simp (disch := omega) [if_pos]; (first | rfl | exact ⟨rfl, rfl⟩ | exact ⟨rfl, rfl, rfl, rfl⟩); decide) | (apply rund_app; decide; simp (disch := omega) [if_pos]; (first | rfl | exact ⟨rfl, rfl⟩ | exact ⟨rfl, rfl, rfl, rfl⟩); decide) | (apply rund_sto; decide; simp (disch := omega) [if_pos]; rfl))
      refine ⟨⟨i + 1, by omega⟩, ?_, by show T.length - (i + 1) < T.length - i; omega⟩
      dsimp only
      exact le_to [] (by decide) (by simp) (by simp) (wkfr_cons (wk_imm (imm_sl _ _)) (wkfr_cons (wk_imm (imm_sl _ _)) (wkfr_cons (wk_imm (imm_sl _ _)) (wkfr_cons (wk_imm (imm_sl _ _)) (wkfr_cons (wk_imm (imm_sl _ _)) (wkfr_cons (wk_int (by omega)) wkfr_nil)))))) wkst_nil
    · repeat' (first | apply tr_seq | apply tr_region | apply run_nil | apply thn_n | apply thn_e | apply thn_r | apply blk_e | apply blk_n | apply blk_r | (refine blk_ne ?_ ?_; decide) | apply tr_block | apply tr_skip | apply tr_label | apply tr_exit | apply tr_ret | (refine tr_region_draw (bars := []) mixed (by kernel_rfl) ?_) | apply rund_nil | (apply run_v; simp (disch := omega) [if_pos]; (first | rfl | exact ⟨rfl, rfl⟩ | exact ⟨rfl, rfl, rfl, rfl⟩); decide) | (apply rund_v; simp (disch := omega) [if_pos]; (first | rfl | exact ⟨rfl, rfl⟩ | exact ⟨rfl, rfl, rfl, rfl⟩); decide) | (apply run_conv; simp (disch := omega) [if_pos]; (first | rfl | exact ⟨rfl, rfl⟩ | exact ⟨rfl, rfl, rfl, rfl⟩); decide) | (apply rund_conv; simp (disch := omega) [if_pos]; (first | rfl | exact ⟨rfl, rfl⟩ | exact ⟨rfl, rfl, rfl, rfl⟩); decide) | (apply run_min; simp (disch := omega) [if_pos]; (first | rfl | exact ⟨rfl, rfl⟩ | exact ⟨rfl, rfl, rfl, rfl⟩); decide) | (apply rund_min; simp (disch := omega) [if_pos]; (first | rfl | exact ⟨rfl, rfl⟩ | exact ⟨rfl, rfl, rfl, rfl⟩); decide) | (apply run_max; simp (disch := omega) [if_pos]; (first | rfl | exact ⟨rfl, rfl⟩ | exact ⟨rfl, rfl, rfl, rfl⟩); decide) | (apply rund_max; simp (disch := omega) [if_pos]; (first | rfl | exact ⟨rfl, rfl⟩ | exact ⟨rfl, rfl, rfl, rfl⟩); decide) | (apply run_lenS; simp (disch := omega) [if_pos]; (first | rfl | exact ⟨rfl, rfl⟩ | exact ⟨rfl, rfl, rfl, rfl⟩); decide) | (apply rund_lenS; simp (disch := omega) [if_pos]; (first | rfl | exact ⟨rfl, rfl⟩ | exact ⟨rfl, rfl, rfl, rfl⟩); decide) | (apply run_bs; simp (disch := omega) [if_pos]; (first | rfl | exact ⟨rfl, rfl⟩ | exact ⟨rfl, rfl, rfl, rfl⟩); decide) | (apply run_app; simp (disch := omega) [if_pos]; (first | rfl | exact ⟨rfl, rfl⟩ | exact ⟨rfl, rfl, rfl, rfl⟩); decide) | (apply run_build; simp (disch := omega) [if_pos]; (first | rfl | exact ⟨rfl, rfl⟩ | exact ⟨rfl, rfl, rfl, rfl⟩); decide) | (apply run_box; simp (disch := omega) [if_pos]; (first | rfl | exact ⟨rfl, rfl⟩ | exact ⟨rfl, rfl, rfl, rfl⟩); decide) | (apply run_alloc; simp (disch := omega) [if_pos]; (first | rfl | exact ⟨rfl, rfl⟩ | exact ⟨rfl, rfl, rfl, rfl⟩); decide) | (apply rund_build; simp (disch := omega) [if_pos]; (first | rfl | exact ⟨rfl, rfl⟩ | exact ⟨rfl, rfl, rfl, rfl⟩); decide) | (apply run_sto; simp (disch := omega) [if_pos]; rfl) | (apply rund_bs; decide; simp (disch := omega) [if_pos]; (first | rfl | exact ⟨rfl, rfl⟩ | exact ⟨rfl, rfl, rfl, rfl⟩); decide) | (apply rund_app; decide; simp (disch := omega) [if_pos]; (first | rfl | exact ⟨rfl, rfl⟩ | exact ⟨rfl, rfl, rfl, rfl⟩); decide) | (apply rund_sto; decide; simp (disch := omega) [if_pos]; rfl))
      refine tr_loop (fun q : {q : Nat // q ≤ A.length} => ⟨105, gl, [(9, rowE W), (13, rowT A), (14, rowT B), (15, rowT C), (17, gInt (q.1 : Int))], [], 0, 0, false⟩) (fun q => A.length - q.1) ⟨0, Nat.zero_le _⟩ ?_ ?_
      · exact le_to [] (by decide) (by simp) (by simp) (wkfr_cons (wk_imm (imm_sl _ _)) (wkfr_cons (wk_imm (imm_sl _ _)) (wkfr_cons (wk_imm (imm_sl _ _)) (wkfr_cons (wk_imm (imm_sl _ _)) (wkfr_cons (wk_imm (imm_lit _)) wkfr_nil))))) wkst_nil
      · rintro ⟨i, hi⟩
        dsimp only
        repeat' (first | apply tr_seq | apply tr_region | apply run_nil | apply thn_n | apply thn_e | apply thn_r | apply blk_e | apply blk_n | apply blk_r | (refine blk_ne ?_ ?_; decide) | apply tr_block | apply tr_skip | apply tr_label | apply tr_exit | apply tr_ret | (refine tr_region_draw (bars := []) mixed (by kernel_rfl) ?_) | apply rund_nil | (apply run_v; simp (disch := omega) [if_pos]; (first | rfl | exact ⟨rfl, rfl⟩ | exact ⟨rfl, rfl, rfl, rfl⟩); decide) | (apply rund_v; simp (disch := omega) [if_pos]; (first | rfl | exact ⟨rfl, rfl⟩ | exact ⟨rfl, rfl, rfl, rfl⟩); decide) | (apply run_conv; simp (disch := omega) [if_pos]; (first | rfl | exact ⟨rfl, rfl⟩ | exact ⟨rfl, rfl, rfl, rfl⟩); decide) | (apply rund_conv; simp (disch := omega) [if_pos]; (first | rfl | exact ⟨rfl, rfl⟩ | exact ⟨rfl, rfl, rfl, rfl⟩); decide) | (apply run_min; simp (disch := omega) [if_pos]; (first | rfl | exact ⟨rfl, rfl⟩ | exact ⟨rfl, rfl, rfl, rfl⟩); decide) | (apply rund_min; simp (disch := omega) [if_pos]; (first | rfl | exact ⟨rfl, rfl⟩ | exact ⟨rfl, rfl, rfl, rfl⟩); decide) | (apply run_max; simp (disch := omega) [if_pos]; (first | rfl | exact ⟨rfl, rfl⟩ | exact ⟨rfl, rfl, rfl, rfl⟩); decide) | (apply rund_max; simp (disch := omega) [if_pos]; (first | rfl | exact ⟨rfl, rfl⟩ | exact ⟨rfl, rfl, rfl, rfl⟩); decide) | (apply run_lenS; simp (disch := omega) [if_pos]; (first | rfl | exact ⟨rfl, rfl⟩ | exact ⟨rfl, rfl, rfl, rfl⟩); decide) | (apply rund_lenS; simp (disch := omega) [if_pos]; (first | rfl | exact ⟨rfl, rfl⟩ | exact ⟨rfl, rfl, rfl, rfl⟩); decide) | (apply run_bs; simp (disch := omega) [if_pos]; (first | rfl | exact ⟨rfl, rfl⟩ | exact ⟨rfl, rfl, rfl, rfl⟩); decide) | (apply run_app; simp (disch := omega) [if_pos]; (first | rfl | exact ⟨rfl, rfl⟩ | exact ⟨rfl, rfl, rfl, rfl⟩); decide) | (apply run_build; simp (disch := omega) [if_pos]; (first | rfl | exact ⟨rfl, rfl⟩ | exact ⟨rfl, rfl, rfl, rfl⟩); decide) | (apply run_box; simp (disch := omega) [if_pos]; (first | rfl | exact ⟨rfl, rfl⟩ | exact ⟨rfl, rfl, rfl, rfl⟩); decide) | (apply run_alloc; simp (disch := omega) [if_pos]; (first | rfl | exact ⟨rfl, rfl⟩ | exact ⟨rfl, rfl, rfl, rfl⟩); decide) | (apply rund_build; simp (disch := omega) [if_pos]; (first | rfl | exact ⟨rfl, rfl⟩ | exact ⟨rfl, rfl, rfl, rfl⟩); decide) | (apply run_sto; simp (disch := omega) [if_pos]; rfl) | (apply rund_bs; decide; simp (disch := omega) [if_pos]; (first | rfl | exact ⟨rfl, rfl⟩ | exact ⟨rfl, rfl, rfl, rfl⟩); decide) | (apply rund_app; decide; simp (disch := omega) [if_pos]; (first | rfl | exact ⟨rfl, rfl⟩ | exact ⟨rfl, rfl, rfl, rfl⟩); decide) | (apply rund_sto; decide; simp (disch := omega) [if_pos]; rfl))
        refine tr_condP (p := i < A.length) ?_ (fun h => ?_) (fun h => ?_)
        · simp
        · obtain ⟨x, hx⟩ : ∃ x, A[i]? = some x := ⟨_, List.getElem?_eq_getElem h⟩
          have hxm := List.mem_of_getElem? hx
          have i1 := ixT hx
          have i2 : ∀ σ, gload Tryz.prog σ 38 (.ptr (cellsT A) (i * 6)) = some (gT x) := fun σ => ldT hx
          have hb1 : Fn' Tryz.prog gl 15 [rowT B, gT x] (.lit (.bool true)) := by
            have := has_fn gl B x (by omega)
            rwa [decide_eq_true (AB x hxm)] at this
          have hc1 : Fn' Tryz.prog gl 15 [rowT C, gT x] (.lit (.bool true)) := by
            have := has_fn gl C x (by omega)
            rwa [decide_eq_true (AC x hxm)] at this
          repeat' (first | apply tr_skip | apply thn_n | apply tr_block | apply tr_seq)
          refine tr_region_draw (bars := []) mixed (by kernel_rfl) ?_
          refine rund_v (g := rowT B) (by kernel_rfl) (by decide) ?_
          refine rund_v (g := rowT A) (by kernel_rfl) (by decide) ?_
          refine rund_v (g := gInt (i : Int)) (by kernel_rfl) (by decide) ?_
          refine rund_v (g := .ptr (cellsT A) (i * 6)) (Eq.trans (by kernel_rfl) i1) (by decide) ?_
          refine rund_v (g := gT x) (Eq.trans (by kernel_rfl) (i2 [])) (by decide) ?_
          refine rund_c hb1 (by kernel_rfl) (by decide) rfl (imm2 (imm_sl _ _) (imm_T _)) ?_
          refine rund_v (g := .lit (.bool false)) (by kernel_rfl) (by decide) ?_
          refine rund_v (g := .lit (.bool false)) (by kernel_rfl) (by decide) ?_
          refine gund_v (g := rowT C) (by kernel_rfl) (by kernel_rfl) (by decide) ?_
          refine gund_v (g := rowT A) (by kernel_rfl) (by kernel_rfl) (by decide) ?_
          refine gund_v (g := gInt (i : Int)) (by kernel_rfl) (by kernel_rfl) (by decide) ?_
          refine gund_v (g := .ptr (cellsT A) (i * 6)) (by kernel_rfl) (Eq.trans (by kernel_rfl) i1) (by decide) ?_
          refine gund_v (g := gT x) (by kernel_rfl) (Eq.trans (by kernel_rfl) (i2 [])) (by decide) ?_
          refine gund_c (vs := [rowT C, gT x]) (by kernel_rfl) (by kernel_rfl) (by kernel_rfl) (imm2 (imm_sl _ _) (imm_T _)) hc1 (by decide) ?_
          refine gund_v (g := .lit (.bool false)) (by kernel_rfl) (by kernel_rfl) (by decide) ?_
          refine rund_v (g := .lit (.bool false)) (by kernel_rfl) (by decide) ?_
          refine rund_v (g := .lit (.bool false)) (by kernel_rfl) (by decide) ?_
          refine gund_v (g := gInt (i : Int)) (by kernel_rfl) (by kernel_rfl) (by decide) ?_
          have done : ∀ (fr : Fr), fget fr 9 = rowE W → fget fr 13 = rowT A → fget fr 14 = rowT B → fget fr 15 = rowT C → fget fr 17 = gInt ((i + 1 : Nat) : Int) → ∃ q : {q : Nat // q ≤ A.length}, Le Tryz.prog ⟨105, gl, fr, [], 0, 0, false⟩ ⟨105, gl, [(9, rowE W), (13, rowT A), (14, rowT B), (15, rowT C), (17, gInt (q.1 : Int))], [], 0, 0, false⟩ ∧ A.length - q.1 < A.length - i := by
            intro fr f1 f2 f3 f4 f5
            refine ⟨⟨i + 1, by omega⟩, ?_, by show A.length - (i + 1) < A.length - i; omega⟩
            refine le_to [] (by decide) (by simp) (by simp) (wkfr_cons ?_ (wkfr_cons ?_ (wkfr_cons ?_ (wkfr_cons ?_ (wkfr_cons ?_ wkfr_nil))))) wkst_nil
            · show Wk _ _ _ (fget fr 9) _; rw [f1]; exact wk_imm (imm_sl _ _)
            · show Wk _ _ _ (fget fr 13) _; rw [f2]; exact wk_imm (imm_sl _ _)
            · show Wk _ _ _ (fget fr 14) _; rw [f3]; exact wk_imm (imm_sl _ _)
            · show Wk _ _ _ (fget fr 15) _; rw [f4]; exact wk_imm (imm_sl _ _)
            · show Wk _ _ _ (fget fr 17) _; rw [f5]; exact wk_imm (imm_lit _)
          by_cases h0 : 0 < i
          · have m0 : decide ((i : Int) > 0) = true := by simp; omega
            obtain ⟨y, hy⟩ : ∃ y, A[i - 1]? = some y := ⟨_, List.getElem?_eq_getElem (by omega)⟩
            have j1 := ixT hy
            have j2 : ∀ σ, gload Tryz.prog σ 38 (.ptr (cellsT A) ((i - 1) * 6)) = some (gT y) := fun σ => ldT hy
            have ej : ((i - 1 : Nat) : Int) = (i : Int) - 1 := by omega
            rw [ej] at j1
            have e1 : (some (gInt (IntKind.i64.wrap ((i : Int) - 1))) : Option G) = some (gInt ((i : Int) - 1)) := by rw [w64]; omega
            have hyx : ltT y x := by
              have h5 := List.pairwise_iff_getElem.1 AS (i - 1) i (by omega) h (by omega)
              rw [List.getElem?_eq_getElem (by omega)] at hy hx
              cases hy; cases hx
              exact of_decide_eq_true h5
            have hless : Fn' Tryz.prog gl 13 [gT y, gT x] (.lit (.bool true)) := by
              have := lessT (gl := gl) y x
              rwa [decide_eq_true hyx] at this
            refine gund_v (g := .lit (.bool true)) (by kernel_rfl) (by rw [← m0]; kernel_rfl) (by decide) ?_
            refine gund_v (g := .lit (.bool true)) (by kernel_rfl) (by kernel_rfl) (by decide) ?_
            refine gund_v (g := rowT A) (by kernel_rfl) (by kernel_rfl) (by decide) ?_
            refine gund_v (g := gInt (i : Int)) (by kernel_rfl) (by kernel_rfl) (by decide) ?_
            refine gund_v (g := gInt ((i : Int) - 1)) (by kernel_rfl) (Eq.trans (by kernel_rfl) e1) (by decide) ?_
            refine gund_v (g := .ptr (cellsT A) ((i - 1) * 6)) (by kernel_rfl) (Eq.trans (by kernel_rfl) j1) (by decide) ?_
            refine gund_v (g := gT y) (by kernel_rfl) (Eq.trans (by kernel_rfl) (j2 [])) (by decide) ?_
            refine gund_v (g := rowT A) (by kernel_rfl) (by kernel_rfl) (by decide) ?_
            refine gund_v (g := gInt (i : Int)) (by kernel_rfl) (by kernel_rfl) (by decide) ?_
            refine gund_v (g := .ptr (cellsT A) (i * 6)) (by kernel_rfl) (Eq.trans (by kernel_rfl) i1) (by decide) ?_
            refine gund_v (g := gT x) (by kernel_rfl) (Eq.trans (by kernel_rfl) (i2 [])) (by decide) ?_
            refine gund_c (vs := [gT y, gT x]) (by kernel_rfl) (by kernel_rfl) (by kernel_rfl) (imm2 (imm_T _) (imm_T _)) hless (by decide) ?_
            refine gund_v (g := .lit (.bool false)) (by kernel_rfl) (by kernel_rfl) (by decide) ?_
            refine gund_v (g := .lit (.bool false)) (by kernel_rfl) (by kernel_rfl) (by decide) ?_
            refine rund_v (g := .lit (.bool false)) (by kernel_rfl) (by decide) ?_
            apply rund_nil
            apply thn_n
            refine tr_condF rfl ?_
            repeat' (first | apply tr_seq | apply tr_region | apply run_nil | apply thn_n | apply thn_e | apply thn_r | apply blk_e | apply blk_n | apply blk_r | (refine blk_ne ?_ ?_; decide) | apply tr_block | apply tr_skip | apply tr_label | apply tr_exit | apply tr_ret | (refine tr_region_draw (bars := []) mixed (by kernel_rfl) ?_) | apply rund_nil | (apply run_v; simp (disch := omega) [if_pos]; (first | rfl | exact ⟨rfl, rfl⟩ | exact ⟨rfl, rfl, rfl, rfl⟩); decide) | (apply rund_v; simp (disch := omega) [if_pos]; (first | rfl | exact ⟨rfl, rfl⟩ | exact ⟨rfl, rfl, rfl, rfl⟩); decide) | (apply run_conv; simp (disch := omega) [if_pos]; (first | rfl | exact ⟨rfl, rfl⟩ | exact ⟨rfl, rfl, rfl, rfl⟩); decide) | (apply rund_conv; simp (disch := omega) [if_pos]; (first | rfl | exact ⟨rfl, rfl⟩ | exact ⟨rfl, rfl, rfl, rfl⟩); decide) | (apply run_min; simp (disch := omega) [if_pos]; (first | rfl | exact ⟨rfl, rfl⟩ | exact ⟨rfl, rfl, rfl, rfl⟩); decide) | (apply rund_min; simp (disch := omega) [if_pos]; (first | rfl | exact ⟨rfl, rfl⟩ | exact ⟨rfl, rfl, rfl, rfl⟩); decide) | (apply run_max; simp (disch := omega) [if_pos]; (first | rfl | exact ⟨rfl, rfl⟩ | exact ⟨rfl, rfl, rfl, rfl⟩); decide) | (apply rund_max; simp (disch := omega) [if_pos]; (first | rfl | exact ⟨rfl, rfl⟩ | exact ⟨rfl, rfl, rfl, rfl⟩); decide) | (apply run_lenS; simp (disch := omega) [if_pos]; (first | rfl | exact ⟨rfl, rfl⟩ | exact ⟨rfl, rfl, rfl, rfl⟩); decide) | (apply rund_lenS; simp (disch := omega) [if_pos]; (first | rfl | exact ⟨rfl, rfl⟩ | exact ⟨rfl, rfl, rfl, rfl⟩); decide) | (apply run_bs; simp (disch := omega) [if_pos]; (first | rfl | exact ⟨rfl, rfl⟩ | exact ⟨rfl, rfl, rfl, rfl⟩); decide) | (apply run_app; simp (disch := omega) [if_pos]; (first | rfl | exact ⟨rfl, rfl⟩ | exact ⟨rfl, rfl, rfl, rfl⟩); decide) | (apply run_build; simp (disch := omega) [if_pos]; (first | rfl | exact ⟨rfl, rfl⟩ | exact ⟨rfl, rfl, rfl, rfl⟩); decide) | (apply run_box; simp (disch := omega) [if_pos]; (first | rfl | exact ⟨rfl, rfl⟩ | exact ⟨rfl, rfl, rfl, rfl⟩); decide) | (apply run_alloc; simp (disch := omega) [if_pos]; (first | rfl | exact ⟨rfl, rfl⟩ | exact ⟨rfl, rfl, rfl, rfl⟩); decide) | (apply rund_build; simp (disch := omega) [if_pos]; (first | rfl | exact ⟨rfl, rfl⟩ | exact ⟨rfl, rfl, rfl, rfl⟩); decide) | (apply run_sto; simp (disch := omega) [if_pos]; rfl) | (apply rund_bs; decide; simp (disch := omega) [if_pos]; (first | rfl | exact ⟨rfl, rfl⟩ | exact ⟨rfl, rfl, rfl, rfl⟩); decide) | (apply rund_app; decide; simp (disch := omega) [if_pos]; (first | rfl | exact ⟨rfl, rfl⟩ | exact ⟨rfl, rfl, rfl, rfl⟩); decide) | (apply rund_sto; decide; simp (disch := omega) [if_pos]; rfl))
            exact done _ rfl rfl rfl rfl rfl
          · have m0 : decide ((i : Int) > 0) = false := by simp; omega
            refine gund_v (g := .lit (.bool false)) (by kernel_rfl) (by rw [← m0]; kernel_rfl) (by decide) ?_
            refine gund_v (g := .lit (.bool false)) (by kernel_rfl) (by kernel_rfl) (by decide) ?_
            iterate 11 refine gund_n (by kernel_rfl) ?_
            refine gund_v (g := .lit (.bool false)) (by kernel_rfl) (by kernel_rfl) (by decide) ?_
            refine rund_v (g := .lit (.bool false)) (by kernel_rfl) (by decide) ?_
            apply rund_nil
            apply thn_n
            refine tr_condF rfl ?_
            repeat' (first | apply tr_seq | apply tr_region | apply run_nil | apply thn_n | apply thn_e | apply thn_r | apply blk_e | apply blk_n | apply blk_r | (refine blk_ne ?_ ?_; decide) | apply tr_block | apply tr_skip | apply tr_label | apply tr_exit | apply tr_ret | (refine tr_region_draw (bars := []) mixed (by kernel_rfl) ?_) | apply rund_nil | (apply run_v; simp (disch := omega) [if_pos]; (first | rfl | exact ⟨rfl, rfl⟩ | exact ⟨rfl, rfl, rfl, rfl⟩); decide) | (apply rund_v; simp (disch := omega) [if_pos]; (first | rfl | exact ⟨rfl, rfl⟩ | exact ⟨rfl, rfl, rfl, rfl⟩); decide) | (apply run_conv; simp (disch := omega) [if_pos]; (first | rfl | exact ⟨rfl, rfl⟩ | exact ⟨rfl, rfl, rfl, rfl⟩); decide) | (apply rund_conv; simp (disch := omega) [if_pos]; (first | rfl | exact ⟨rfl, rfl⟩ | exact ⟨rfl, rfl, rfl, rfl⟩); decide) | (apply run_min; simp (disch := omega) [if_pos]; (first | rfl | exact ⟨rfl, rfl⟩ | exact ⟨rfl, rfl, rfl, rfl⟩); decide) | (apply rund_min; simp (disch := omega) [if_pos]; (first | rfl | exact ⟨rfl, rfl⟩ | exact ⟨rfl, rfl, rfl, rfl⟩); decide) | (apply run_max; simp (disch := omega) [if_pos]; (first | rfl | exact ⟨rfl, rfl⟩ | exact ⟨rfl, rfl, rfl, rfl⟩); decide) | (apply rund_max; simp (disch := omega) [if_pos]; (first | rfl | exact ⟨rfl, rfl⟩ | exact ⟨rfl, rfl, rfl, rfl⟩); decide) | (apply run_lenS; simp (disch := omega) [if_pos]; (first | rfl | exact ⟨rfl, rfl⟩ | exact ⟨rfl, rfl, rfl, rfl⟩); decide) | (apply rund_lenS; simp (disch := omega) [if_pos]; (first | rfl | exact ⟨rfl, rfl⟩ | exact ⟨rfl, rfl, rfl, rfl⟩); decide) | (apply run_bs; simp (disch := omega) [if_pos]; (first | rfl | exact ⟨rfl, rfl⟩ | exact ⟨rfl, rfl, rfl, rfl⟩); decide) | (apply run_app; simp (disch := omega) [if_pos]; (first | rfl | exact ⟨rfl, rfl⟩ | exact ⟨rfl, rfl, rfl, rfl⟩); decide) | (apply run_build; simp (disch := omega) [if_pos]; (first | rfl | exact ⟨rfl, rfl⟩ | exact ⟨rfl, rfl, rfl, rfl⟩); decide) | (apply run_box; simp (disch := omega) [if_pos]; (first | rfl | exact ⟨rfl, rfl⟩ | exact ⟨rfl, rfl, rfl, rfl⟩); decide) | (apply run_alloc; simp (disch := omega) [if_pos]; (first | rfl | exact ⟨rfl, rfl⟩ | exact ⟨rfl, rfl, rfl, rfl⟩); decide) | (apply rund_build; simp (disch := omega) [if_pos]; (first | rfl | exact ⟨rfl, rfl⟩ | exact ⟨rfl, rfl, rfl, rfl⟩); decide) | (apply run_sto; simp (disch := omega) [if_pos]; rfl) | (apply rund_bs; decide; simp (disch := omega) [if_pos]; (first | rfl | exact ⟨rfl, rfl⟩ | exact ⟨rfl, rfl, rfl, rfl⟩); decide) | (apply rund_app; decide; simp (disch := omega) [if_pos]; (first | rfl | exact ⟨rfl, rfl⟩ | exact ⟨rfl, rfl, rfl, rfl⟩); decide) | (apply rund_sto; decide; simp (disch := omega) [if_pos]; rfl))
            exact done _ rfl rfl rfl rfl rfl
        · repeat' (first | apply tr_seq | apply tr_region | apply run_nil | apply thn_n | apply thn_e | apply thn_r | apply blk_e | apply blk_n | apply blk_r | (refine blk_ne ?_ ?_; decide) | apply tr_block | apply tr_skip | apply tr_label | apply tr_exit | apply tr_ret)
          refine run_v (g := rowE W) (by kernel_rfl) (by decide) ?_
          refine run_v (g := rowT A) (by kernel_rfl) (by decide) ?_
          refine run_c (r := rowT A) (by have := reach_fn gl W A hFA; rwa [AA] at this) (by kernel_rfl) (by decide) rfl (imm2 (imm_sl _ _) (imm_sl _ _)) ?_
          refine run_v (g := rowT A) (by kernel_rfl) (by decide) ?_
          refine run_c (r := .lit (.bool true)) (by have := same_fn gl A A (by omega); rwa [decide_eq_true rfl] at this) (by kernel_rfl) (by decide) rfl (imm2 (imm_sl _ _) (imm_sl _ _)) ?_
          refine run_v (g := .lit (.bool true)) (by kernel_rfl) (by decide) ?_
          refine gun_c (vs := []) (by kernel_rfl) rfl (by kernel_rfl) (fun _ h => by cases h) hl (by decide) ?_
          refine run_v (g := .lit (.bool true)) (by kernel_rfl) (by decide) ?_
          refine run_v (g := .lit (.bool true)) (by kernel_rfl) (by decide) ?_
          apply run_nil
          repeat' (first | apply tr_seq | apply tr_region | apply run_nil | apply thn_n | apply thn_e | apply thn_r | apply blk_e | apply blk_n | apply blk_r | (refine blk_ne ?_ ?_; decide) | apply tr_block | apply tr_skip | apply tr_label | apply tr_exit | apply tr_ret)
          exact ended_r rfl (frz_bool rfl)
end Go.Proofs.YtjbbgjbknfoddaaGreatDoor
