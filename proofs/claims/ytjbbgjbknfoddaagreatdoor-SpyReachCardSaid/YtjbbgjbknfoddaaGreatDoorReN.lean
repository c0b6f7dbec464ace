/- huddleref34.Sorted: walked. -/
import Derived.Test.YtjbbgjbknfoddaaGreatDoorRe6
import Derived.Test.YtjbbgjbknfoddaaGreatDoorReL
namespace Go.Proofs.YtjbbgjbknfoddaaGreatDoor
section
open Go.RowKit
set_option linter.unusedVariables false
set_option linter.unusedSimpArgs false
theorem takeWhile_at {α : Type} {p : α → Bool} : ∀ (l : List α) (k : Nat), (∀ y ∈ l.take k, p y = true) → (∀ y, l[k]? = some y → p y = false) → k ≤ l.length → l.takeWhile p = l.take k ∧ l.dropWhile p = l.drop k
  | [], k, _, _, hk => by simp at hk; subst hk; simp
  | a :: r, 0, _, h, _ => by
    have := h a rfl
    simp [this]
  | a :: r, k + 1, h1, h2, hk => by
    have ha := h1 a (by simp)
    obtain ⟨e1, e2⟩ := takeWhile_at (p := p) r k (fun y hy => h1 y (by simp [hy])) (fun y hy => h2 y (by simpa using hy)) (by simpa using hk)
    rw [List.takeWhile_cons, List.dropWhile_cons, if_pos ha, if_pos ha, e1, e2]
    simp
theorem srcN {σ : Sto} {c : Nat} {t : TypeId} : gsrc σ c t 6 (.lit (.slice none 0 0)) = some (c, ([] : List Tm).length, cellsT []) := rfl
theorem viewP {σ : Sto} {q k : Nat} {l : List Tm} (h : sget σ q = some ⟨38, cellsT l, none⟩) (hk : k ≤ l.length) : gview σ 6 (.rsl q 0 k) = some (cellsT (l.take k), (l.take k).length) := by
  have e : (l.take k).length = k := by simp; omega
  simp only [gview, h, Option.bind_some]
  rw [if_pos (by rw [len_cells]; have := Nat.mul_le_mul_right 6 hk; omega), List.drop_zero, rows_take len_cT, e]
theorem viewS {σ : Sto} {q k : Nat} {l : List Tm} (h : sget σ q = some ⟨38, cellsT l, none⟩) (hk : k ≤ l.length) : gview σ 6 (.rsl q (k * 6) (l.length - k)) = some (cellsT (l.drop k), (l.drop k).length) := by
  have e : (l.drop k).length = l.length - k := by simp
  have hm : k * 6 + (l.length - k) * 6 = l.length * 6 := by rw [← Nat.add_mul]; congr 1; omega
  simp only [gview, h, Option.bind_some]
  rw [if_pos (by rw [len_cells]; omega), rows_drop len_cT, List.take_of_length_le (by rw [rows_len len_cT, e]; exact Nat.le_refl _), e]
theorem slP {q n k : Nat} (hk : k ≤ n) : gslice Tryz.prog 25 (.rsl q 0 n) none (some (k : Int)) = some (.rsl q 0 k) := by
  simp only [gslice]
  rw [show telem Tryz.prog 25 = some 38 by kernel_rfl]
  simp only []
  rw [show tsize Tryz.prog 38 = some 6 by kernel_rfl]
  simp only [Option.bind_some]
  rw [if_neg (by decide), if_pos (by omega)]
  simp
theorem slS {q n k : Nat} (hk : k ≤ n) : gslice Tryz.prog 25 (.rsl q 0 n) (some (k : Int)) none = some (.rsl q (k * 6) (n - k)) := by
  simp only [gslice]
  rw [show telem Tryz.prog 25 = some 38 by kernel_rfl]
  simp only []
  rw [show tsize Tryz.prog 38 = some 6 by kernel_rfl]
  simp only [Option.bind_some]
  rw [if_neg (by decide), if_pos (by omega)]
  simp
attribute [local irreducible] gT
attribute [local irreducible] Tr Run RunD GS TG Le Wk Frz Fn' ImmG Flat WkFr WkSt EndM GSn Vw Rn FnM
set_option maxHeartbeats 8000000 in
theorem rsorted_fnR (gl : List (Nat × List G)) (l : List Tm) (hl : l.length ≤ 100000) : FnR Tryz.prog gl 22 [rowT l] 38 (sortS ltB l).length (cellsT (sortS ltB l)) := by
  refine fnr_enter Tryz.func22 rfl (by simp [Tryz.ntmps22]) ?_
  simp only [St.enter, enterFr, Tryz.ntmps22]
  repeat' (first | apply tr_seq | apply tr_region | apply run_nil | apply thn_n | apply thn_e | apply thn_r | apply blk_e | apply blk_n | apply blk_r | (refine blk_ne ?_ ?_; decide) | apply tr_block | apply tr_skip | apply tr_label | apply tr_exit | apply tr_ret | (refine tr_region_draw (bars := []) mixed (by kernel_rfl) ?_) | apply rund_nil | ((first | apply run_v | apply rund_v); simp (disch := omega) [if_pos]; (first | rfl | exact ⟨rfl, rfl⟩); decide) | ((first | apply run_bs | apply run_app | apply run_build | apply run_box | apply run_alloc | apply rund_build); simp (disch := omega) [if_pos]; (first | rfl | exact ⟨rfl, rfl⟩ | exact ⟨rfl, rfl, rfl, rfl⟩); decide) | (apply run_sto; simp (disch := omega) [if_pos]; rfl))
  refine tr_virt 38 3 (by decide) rfl ?_
  refine tr_loop (fun q : {q : Nat // q ≤ l.length} => ⟨48, gl, [(0, rowT l), (3, .rsl 0 0 (sortS ltB (l.take q.1)).length), (4, gInt (q.1 : Int))], [(0, some (rowO (sortS ltB (l.take q.1))))], 1, 0, false⟩) (fun q => l.length - q.1) ⟨0, Nat.zero_le _⟩ ?_ ?_
  · refine le_to [(0, 0)] (by decide) (by decide) (by decide) (wkfr_cons (wk_imm (imm_sl _ _)) (wkfr_cons (wk_rsl rfl) (wkfr_cons (wk_imm (imm_lit _)) wkfr_nil))) ?_
    exact wkst_eq rfl rfl rfl (cellsT_imm _) wkst_nil
  · rintro ⟨i, hi⟩
    dsimp only
    have hol : (sortS ltB (l.take i)).length = i := by rw [(sortS_perm totB _).length_eq]; simp; omega
    obtain ⟨out, ho⟩ : ∃ out, out = sortS ltB (l.take i) := ⟨_, rfl⟩
    rw [← ho] at hol ⊢
    repeat' (first | apply tr_seq | apply tr_region | apply run_nil | apply thn_n | apply thn_e | apply thn_r | apply blk_e | apply blk_n | apply blk_r | (refine blk_ne ?_ ?_; decide) | apply tr_block | apply tr_skip | apply tr_label | apply tr_exit | apply tr_ret | (refine tr_region_draw (bars := []) mixed (by kernel_rfl) ?_) | apply rund_nil | ((first | apply run_v | apply rund_v); simp (disch := omega) [if_pos]; (first | rfl | exact ⟨rfl, rfl⟩); decide) | ((first | apply run_bs | apply run_app | apply run_build | apply run_box | apply run_alloc | apply rund_build); simp (disch := omega) [if_pos]; (first | rfl | exact ⟨rfl, rfl⟩ | exact ⟨rfl, rfl, rfl, rfl⟩); decide) | (apply run_sto; simp (disch := omega) [if_pos]; rfl))
    refine tr_condP (p := i < l.length) ?_ (fun h => ?_) (fun h => ?_)
    · simp
    · obtain ⟨x, hx⟩ : ∃ x, l[i]? = some x := ⟨_, List.getElem?_eq_getElem h⟩
      have hst : sortS ltB (l.take (i + 1)) = insS ltB out x := by
        rw [List.take_add_one, hx, ho]
        unfold sortS
        rw [List.foldl_append]
        rfl
      have ix := ixT hx
      have lx : ∀ σ, gload Tryz.prog σ 38 (.ptr (cellsT l) (i * 6)) = some (gT x) := fun σ => ldT hx
      repeat' (first | apply tr_seq | apply tr_region | apply run_nil | apply thn_n | apply thn_e | apply thn_r | apply blk_e | apply blk_n | apply blk_r | (refine blk_ne ?_ ?_; decide) | apply tr_block | apply tr_skip | apply tr_label | apply tr_exit | apply tr_ret | (refine tr_region_draw (bars := []) mixed (by kernel_rfl) ?_) | apply rund_nil | ((first | apply run_v | apply rund_v); simp (disch := omega) [if_pos]; (first | rfl | exact ⟨rfl, rfl⟩); decide) | ((first | apply run_bs | apply run_app | apply run_build | apply run_box | apply run_alloc | apply rund_build); simp (disch := omega) [if_pos]; (first | rfl | exact ⟨rfl, rfl⟩ | exact ⟨rfl, rfl, rfl, rfl⟩); decide) | (apply run_sto; simp (disch := omega) [if_pos]; rfl))
      refine tr_loop (fun q : {q : Nat // q ≤ out.length ∧ ∀ y ∈ out.take q, ltB y x = true} => ⟨48, gl, [(0, rowT l), (3, .rsl 0 0 out.length), (4, gInt (i : Int)), (5, gInt (q.1 : Int))], [(0, some (rowO out))], 1, 0, false⟩) (fun q => out.length - q.1) ⟨0, by simp⟩ ?_ ?_
      · dsimp only
        refine le_to [(0, 0)] (by decide) (by decide) (by decide) (wkfr_cons (wk_imm (imm_sl _ _)) (wkfr_cons (wk_rsl rfl) (wkfr_cons (wk_imm (imm_lit _)) (wkfr_cons (wk_imm (imm_lit _)) wkfr_nil)))) ?_
        exact wkst_eq rfl rfl rfl (cellsT_imm _) wkst_nil
      · rintro ⟨k, hk, hall⟩
        dsimp only
        by_cases hkl : k < out.length
        · obtain ⟨y, hy⟩ : ∃ y, out[k]? = some y := ⟨_, List.getElem?_eq_getElem hkl⟩
          have m0 : decide ((k : Int) < out.length) = true := by simp; omega
          have iy := ixTr (q := 0) hy
          have ly : gload Tryz.prog [(0, some (rowO out))] 38 (.ref 0 (k * 6)) = some (gT y) := ldTr rfl rfl hy
          apply tr_seq
          apply tr_seq
          refine tr_region_draw (bars := []) mixed (by kernel_rfl) ?_
          refine rund_v (g := gInt (k : Int)) (by kernel_rfl) (by decide) ?_
          refine rund_v (g := .rsl 0 0 out.length) (by kernel_rfl) (by decide) ?_
          refine rund_v (g := gInt (out.length : Int)) (by kernel_rfl) (by decide) ?_
          refine rund_v (g := .lit (.bool true)) (by rw [← m0]; kernel_rfl) (by decide) ?_
          refine rund_v (g := .lit (.bool true)) (by kernel_rfl) (by decide) ?_
          refine gund_v (g := .rsl 0 0 out.length) (by kernel_rfl) (by kernel_rfl) (by decide) ?_
          refine gund_v (g := gInt (k : Int)) (by kernel_rfl) (by kernel_rfl) (by decide) ?_
          refine gund_v (g := .ref 0 (k * 6)) (by kernel_rfl) (Eq.trans (by kernel_rfl) iy) (by decide) ?_
          refine gund_v (g := gT y) (by kernel_rfl) (Eq.trans (by kernel_rfl) ly) (by decide) ?_
          refine gund_v (g := rowT l) (by kernel_rfl) (by kernel_rfl) (by decide) ?_
          refine gund_v (g := gInt (i : Int)) (by kernel_rfl) (by kernel_rfl) (by decide) ?_
          refine gund_v (g := .ptr (cellsT l) (i * 6)) (by kernel_rfl) (Eq.trans (by kernel_rfl) ix) (by decide) ?_
          refine gund_v (g := gT x) (by kernel_rfl) (Eq.trans (by kernel_rfl) (lx [])) (by decide) ?_
          refine gund_c (vs := [gT y, gT x]) (by kernel_rfl) (by kernel_rfl) (by kernel_rfl) (imm2 (imm_T _) (imm_T _)) (lessTR y x) (by decide) ?_
          refine gund_v (g := .lit (.bool (decide (ltT y x)))) (by kernel_rfl) (by kernel_rfl) (by decide) ?_
          apply rund_nil
          apply thn_n
          refine tr_condP (p := ltT y x) rfl (fun hlt => ?_) (fun hlt => ?_)
          · repeat' (first | apply tr_seq | apply tr_region | apply run_nil | apply thn_n | apply thn_e | apply thn_r | apply blk_e | apply blk_n | apply blk_r | (refine blk_ne ?_ ?_; decide) | apply tr_block | apply tr_skip | apply tr_label | apply tr_exit | apply tr_ret | (refine tr_region_draw (bars := []) mixed (by kernel_rfl) ?_) | apply rund_nil | ((first | apply run_v | apply rund_v); simp (disch := omega) [if_pos]; (first | rfl | exact ⟨rfl, rfl⟩); decide) | ((first | apply run_bs | apply run_app | apply run_build | apply run_box | apply run_alloc | apply rund_build); simp (disch := omega) [if_pos]; (first | rfl | exact ⟨rfl, rfl⟩ | exact ⟨rfl, rfl, rfl, rfl⟩); decide) | (apply run_sto; simp (disch := omega) [if_pos]; rfl))
            refine ⟨⟨k + 1, by omega, ?_⟩, ?_, by show out.length - (k + 1) < out.length - k; omega⟩
            · intro z hz
              rw [List.take_add_one, hy] at hz
              rcases List.mem_append.1 hz with hz | hz
              · exact hall z hz
              · simp at hz; subst hz; exact decide_eq_true hlt
            · dsimp only
              refine le_to [(0, 0)] (by decide) (by decide) (by decide) (wkfr_cons (wk_imm (imm_sl _ _)) (wkfr_cons (wk_rsl rfl) (wkfr_cons (wk_imm (imm_lit _)) (wkfr_cons (wk_int (by omega)) wkfr_nil)))) ?_
              exact wkst_eq rfl rfl rfl (cellsT_imm _) wkst_nil
          · have hnot : ∀ y', out[k]? = some y' → ltB y' x = false := fun y' hy' => by
              rw [hy] at hy'
              cases hy'
              exact decide_eq_false hlt
            have hins : insS ltB out x = out.take k ++ [x] ++ out.drop k := by
              have hq := takeWhile_at (p := fun y => ltB y x) out k hall hnot hk
              unfold insS
              rw [hq.1, hq.2]
              simp
            have hA : (out.take k).length = k := by simp; omega
            repeat' (first | apply tr_seq | apply tr_region | apply run_nil | apply thn_n | apply thn_e | apply thn_r | apply blk_e | apply blk_n | apply blk_r | (refine blk_ne ?_ ?_; decide) | apply tr_block | apply tr_skip | apply tr_label | apply tr_exit | apply tr_ret)
            refine run_v (g := .lit (.slice none 0 0)) (by kernel_rfl) (by decide) ?_
            apply run_nil
            repeat' (first | apply tr_seq | apply tr_region | apply run_nil | apply thn_n | apply thn_e | apply thn_r | apply blk_e | apply blk_n | apply blk_r | (refine blk_ne ?_ ?_; decide) | apply tr_block | apply tr_skip | apply tr_label | apply tr_exit | apply tr_ret)
            refine run_v (g := .lit (.slice none 0 0)) (by kernel_rfl) (by decide) ?_
            refine run_v (g := .rsl 0 0 out.length) (by kernel_rfl) (by decide) ?_
            refine run_v (g := gInt (k : Int)) (by kernel_rfl) (by decide) ?_
            refine run_v (g := .rsl 0 0 k) (Eq.trans (by kernel_rfl) (slP hk)) (by decide) ?_
            refine run_app (i := 1) (appG (l := []) (n := out.take k) (by simp; omega) srcN (viewP rfl hk)) (by decide) ?_
            simp only [List.length_nil, Nat.zero_add, List.nil_append]
            refine run_v (g := .rsl 1 0 (out.take k).length) (by kernel_rfl) (by decide) ?_
            apply run_nil
            repeat' (first | apply tr_seq | apply tr_region | apply run_nil | apply thn_n | apply thn_e | apply thn_r | apply blk_e | apply blk_n | apply blk_r | (refine blk_ne ?_ ?_; decide) | apply tr_block | apply tr_skip | apply tr_label | apply tr_exit | apply tr_ret)
            refine run_v (g := .rsl 1 0 (out.take k).length) (by kernel_rfl) (by decide) ?_
            refine run_v (g := rowT l) (by kernel_rfl) (by decide) ?_
            refine run_v (g := gInt (i : Int)) (by kernel_rfl) (by decide) ?_
            refine run_v (g := .ptr (cellsT l) (i * 6)) (Eq.trans (by kernel_rfl) ix) (by decide) ?_
            refine run_v (g := gT x) (Eq.trans (by kernel_rfl) (lx [])) (by decide) ?_
            refine run_bs (bsT x) (by decide) ?_
            refine run_app (i := 1) (appT (q := 1) (q2 := 2) (l := out.take k) (n := [x]) (by simp; omega) rfl rfl) (by decide) ?_
            refine run_v (g := .rsl 3 0 (out.take k ++ [x]).length) (by rw [List.length_append]; kernel_rfl) (by decide) ?_
            apply run_nil
            repeat' (first | apply tr_seq | apply tr_region | apply run_nil | apply thn_n | apply thn_e | apply thn_r | apply blk_e | apply blk_n | apply blk_r | (refine blk_ne ?_ ?_; decide) | apply tr_block | apply tr_skip | apply tr_label | apply tr_exit | apply tr_ret)
            refine run_v (g := .rsl 3 0 (out.take k ++ [x]).length) (by kernel_rfl) (by decide) ?_
            refine run_v (g := .rsl 0 0 out.length) (by kernel_rfl) (by decide) ?_
            refine run_v (g := gInt (k : Int)) (by kernel_rfl) (by decide) ?_
            refine run_v (g := .rsl 0 (k * 6) (out.length - k)) (Eq.trans (by kernel_rfl) (slS hk)) (by decide) ?_
            refine run_app (i := 3) (appG (l := out.take k ++ [x]) (n := out.drop k) (by simp; omega) (srcT rfl) (viewS rfl hk)) (by decide) ?_
            refine run_v (g := .rsl 4 0 ((out.take k ++ [x]).length + (out.drop k).length)) (by kernel_rfl) (by decide) ?_
            apply run_nil
            repeat' (first | apply tr_seq | apply tr_region | apply run_nil | apply thn_n | apply thn_e | apply thn_r | apply blk_e | apply blk_n | apply blk_r | (refine blk_ne ?_ ?_; decide) | apply tr_block | apply tr_skip | apply tr_label | apply tr_exit | apply tr_ret | (refine tr_region_draw (bars := []) mixed (by kernel_rfl) ?_) | apply rund_nil | ((first | apply run_v | apply rund_v); simp (disch := omega) [if_pos]; (first | rfl | exact ⟨rfl, rfl⟩); decide) | ((first | apply run_bs | apply run_app | apply run_build | apply run_box | apply run_alloc | apply rund_build); simp (disch := omega) [if_pos]; (first | rfl | exact ⟨rfl, rfl⟩ | exact ⟨rfl, rfl, rfl, rfl⟩); decide) | (apply run_sto; simp (disch := omega) [if_pos]; rfl))
            refine ⟨⟨i + 1, by omega⟩, ?_, by show l.length - (i + 1) < l.length - i; omega⟩
            dsimp only
            rw [hst, hins]
            rw [← List.length_append]
            refine le_to [(0, 4)] (by decide) (by decide) (by decide) (wkfr_cons (wk_imm (imm_sl _ _)) (wkfr_cons (wk_rsl rfl) (wkfr_cons (wk_int (by omega)) wkfr_nil))) ?_
            exact wkst_eq rfl rfl rfl (cellsT_imm _) wkst_nil
        · have m0 : decide ((k : Int) < out.length) = false := by simp; omega
          apply tr_seq
          apply tr_seq
          refine tr_region_draw (bars := []) mixed (by kernel_rfl) ?_
          refine rund_v (g := gInt (k : Int)) (by kernel_rfl) (by decide) ?_
          refine rund_v (g := .rsl 0 0 out.length) (by kernel_rfl) (by decide) ?_
          refine rund_v (g := gInt (out.length : Int)) (by kernel_rfl) (by decide) ?_
          refine rund_v (g := .lit (.bool false)) (by rw [← m0]; kernel_rfl) (by decide) ?_
          refine rund_v (g := .lit (.bool false)) (by kernel_rfl) (by decide) ?_
          iterate 9 refine gund_n (by kernel_rfl) ?_
          refine gund_v (g := .lit (.bool false)) (by kernel_rfl) (by kernel_rfl) (by decide) ?_
          apply rund_nil
          apply thn_n
          refine tr_condF rfl ?_
          have hnot : ∀ y', out[k]? = some y' → ltB y' x = false := fun y' hy' => by
            rw [List.getElem?_eq_none (by omega)] at hy'
            cases hy'
          have hins : insS ltB out x = out.take k ++ [x] ++ out.drop k := by
            have hq := takeWhile_at (p := fun y => ltB y x) out k hall hnot hk
            unfold insS
            rw [hq.1, hq.2]
            simp
          have hA : (out.take k).length = k := by simp; omega
          repeat' (first | apply tr_seq | apply tr_region | apply run_nil | apply thn_n | apply thn_e | apply thn_r | apply blk_e | apply blk_n | apply blk_r | (refine blk_ne ?_ ?_; decide) | apply tr_block | apply tr_skip | apply tr_label | apply tr_exit | apply tr_ret)
          refine run_v (g := .lit (.slice none 0 0)) (by kernel_rfl) (by decide) ?_
          apply run_nil
          repeat' (first | apply tr_seq | apply tr_region | apply run_nil | apply thn_n | apply thn_e | apply thn_r | apply blk_e | apply blk_n | apply blk_r | (refine blk_ne ?_ ?_; decide) | apply tr_block | apply tr_skip | apply tr_label | apply tr_exit | apply tr_ret)
          refine run_v (g := .lit (.slice none 0 0)) (by kernel_rfl) (by decide) ?_
          refine run_v (g := .rsl 0 0 out.length) (by kernel_rfl) (by decide) ?_
          refine run_v (g := gInt (k : Int)) (by kernel_rfl) (by decide) ?_
          refine run_v (g := .rsl 0 0 k) (Eq.trans (by kernel_rfl) (slP hk)) (by decide) ?_
          refine run_app (i := 1) (appG (l := []) (n := out.take k) (by simp; omega) srcN (viewP rfl hk)) (by decide) ?_
          simp only [List.length_nil, Nat.zero_add, List.nil_append]
          refine run_v (g := .rsl 1 0 (out.take k).length) (by kernel_rfl) (by decide) ?_
          apply run_nil
          repeat' (first | apply tr_seq | apply tr_region | apply run_nil | apply thn_n | apply thn_e | apply thn_r | apply blk_e | apply blk_n | apply blk_r | (refine blk_ne ?_ ?_; decide) | apply tr_block | apply tr_skip | apply tr_label | apply tr_exit | apply tr_ret)
          refine run_v (g := .rsl 1 0 (out.take k).length) (by kernel_rfl) (by decide) ?_
          refine run_v (g := rowT l) (by kernel_rfl) (by decide) ?_
          refine run_v (g := gInt (i : Int)) (by kernel_rfl) (by decide) ?_
          refine run_v (g := .ptr (cellsT l) (i * 6)) (Eq.trans (by kernel_rfl) ix) (by decide) ?_
          refine run_v (g := gT x) (Eq.trans (by kernel_rfl) (lx [])) (by decide) ?_
          refine run_bs (bsT x) (by decide) ?_
          refine run_app (i := 1) (appT (q := 1) (q2 := 2) (l := out.take k) (n := [x]) (by simp; omega) rfl rfl) (by decide) ?_
          refine run_v (g := .rsl 3 0 (out.take k ++ [x]).length) (by rw [List.length_append]; kernel_rfl) (by decide) ?_
          apply run_nil
          repeat' (first | apply tr_seq | apply tr_region | apply run_nil | apply thn_n | apply thn_e | apply thn_r | apply blk_e | apply blk_n | apply blk_r | (refine blk_ne ?_ ?_; decide) | apply tr_block | apply tr_skip | apply tr_label | apply tr_exit | apply tr_ret)
          refine run_v (g := .rsl 3 0 (out.take k ++ [x]).length) (by kernel_rfl) (by decide) ?_
          refine run_v (g := .rsl 0 0 out.length) (by kernel_rfl) (by decide) ?_
          refine run_v (g := gInt (k : Int)) (by kernel_rfl) (by decide) ?_
          refine run_v (g := .rsl 0 (k * 6) (out.length - k)) (Eq.trans (by kernel_rfl) (slS hk)) (by decide) ?_
          refine run_app (i := 3) (appG (l := out.take k ++ [x]) (n := out.drop k) (by simp; omega) (srcT rfl) (viewS rfl hk)) (by decide) ?_
          refine run_v (g := .rsl 4 0 ((out.take k ++ [x]).length + (out.drop k).length)) (by kernel_rfl) (by decide) ?_
          apply run_nil
          repeat' (first | apply tr_seq | apply tr_region | apply run_nil | apply thn_n | apply thn_e | apply thn_r | apply blk_e | apply blk_n | apply blk_r | (refine blk_ne ?_ ?_; decide) | apply tr_block | apply tr_skip | apply tr_label | apply tr_exit | apply tr_ret | (refine tr_region_draw (bars := []) mixed (by kernel_rfl) ?_) | apply rund_nil | ((first | apply run_v | apply rund_v); simp (disch := omega) [if_pos]; (first | rfl | exact ⟨rfl, rfl⟩); decide) | ((first | apply run_bs | apply run_app | apply run_build | apply run_box | apply run_alloc | apply rund_build); simp (disch := omega) [if_pos]; (first | rfl | exact ⟨rfl, rfl⟩ | exact ⟨rfl, rfl, rfl, rfl⟩); decide) | (apply run_sto; simp (disch := omega) [if_pos]; rfl))
          refine ⟨⟨i + 1, by omega⟩, ?_, by show l.length - (i + 1) < l.length - i; omega⟩
          dsimp only
          rw [hst, hins]
          rw [← List.length_append]
          refine le_to [(0, 4)] (by decide) (by decide) (by decide) (wkfr_cons (wk_imm (imm_sl _ _)) (wkfr_cons (wk_rsl rfl) (wkfr_cons (wk_int (by omega)) wkfr_nil))) ?_
          exact wkst_eq rfl rfl rfl (cellsT_imm _) wkst_nil
    · have e9 : l.take i = l := List.take_of_length_le (by omega)
      rw [ho, e9]
      repeat' (first | apply tr_seq | apply tr_region | apply run_nil | apply thn_n | apply thn_e | apply thn_r | apply blk_e | apply blk_n | apply blk_r | (refine blk_ne ?_ ?_; decide) | apply tr_block | apply tr_skip | apply tr_label | apply tr_exit | apply tr_ret | (refine tr_region_draw (bars := []) mixed (by kernel_rfl) ?_) | apply rund_nil | ((first | apply run_v | apply rund_v); simp (disch := omega) [if_pos]; (first | rfl | exact ⟨rfl, rfl⟩); decide) | ((first | apply run_bs | apply run_app | apply run_build | apply run_box | apply run_alloc | apply rund_build); simp (disch := omega) [if_pos]; (first | rfl | exact ⟨rfl, rfl⟩ | exact ⟨rfl, rfl, rfl, rfl⟩); decide) | (apply run_sto; simp (disch := omega) [if_pos]; rfl))
      exact endR (i := 0) (u := 2) rfl rfl rfl rfl (cellsT_imm _) (.inr rfl)
theorem rsorted_fn (gl : List (Nat × List G)) (l : List Tm) (hl : l.length ≤ 100000) : Fn' Tryz.prog gl 22 [rowT l] (rowT (sortS ltB l)) :=
  (rsorted_fnR gl l hl).fn (s := 6) (by kernel_rfl) (len_cells _) (cellsT_imm _)
end
section
open Go.RowKit
set_option linter.unusedVariables false
set_option linter.unusedSimpArgs false
attribute [local irreducible] gT
attribute [local irreducible] Tr Run RunD GS TG Le Wk Frz Fn' ImmG Flat WkFr WkSt EndM GSn Vw Rn FnM
section
variable {P : Program} {ops : Array Oper} {K : St → Prop} {rest : List Oper}
end
theorem frzT {st : St} {q : Nat} {l : List Tm} (h : sget st.σ q = some (rowO l)) : Frz Tryz.prog st (.rsl q 0 l.length) (rowT l) :=
  frz_rsl (s := 6) h (by kernel_rfl) (by rw [len_cells]; omega) (len_cells l) (fun j g g' h1 h2 => by
    rw [Nat.zero_add] at h1
    have h1 : (cellsT l)[j]? = some g := h1
    rw [h1] at h2
    cases h2
    exact frz_imm (cellsT_imm _ _ (List.mem_of_getElem? h1)))
/-- Has, of a row of the walk's own. -/
theorem hasO {o : Oper} {st : St} {a b : Operand} {ats : Array TypeId} {q : Nat} {l : List Tm} {m : Tm} (ho : o.op = .call { callee := .value (.func 15), args := #[a, b], argTypes := ats }) (hd : ∀ d, o.dst = some d → d < st.n) (ha : gev st a = .rsl q 0 l.length) (hb : gev st b = gT m) (hs : sget st.σ q = some (rowO l)) (hl : l.length < 4611686018427387904) :
    GS Tryz.prog o st (st.put o.dst (.lit (.bool (decide (m ∈ l))))) :=
  gs_lend (fst := []) (cap := []) (gs := [rowT l, gT m]) ho hd rfl (by kernel_rfl) rfl (fun i g g' h1 h2 => by
    match i, h1, h2 with
    | 0, h1, h2 => simp [ha] at h1; subst h1; simp at h2; subst h2; exact frzT hs
    | 1, h1, h2 => simp [hb] at h1; subst h1; simp at h2; subst h2; exact frz_imm (imm_T _)
    | n + 2, h1, h2 => simp at h2) (has_fn st.gl l m hl) (flat_lit _)
theorem iter_len (l : List Ed) (t : List Tm) (n : Nat) : (iterA l n (startA t)).length ≤ t.length + l.length := by
  have h := List.Nodup.length_le_of_subset (l₂ := t ++ l.map (·.2)) (iter_nodup l n (start_nodup t)) (fun x hx => by
    have := der_iter (l := l) (ks := startA t) n (startA t) (fun _ h => .base h) x hx
    cases this with
    | base h => exact List.mem_append_left _ ((start_mem t x).1 h)
    | step he _ => exact List.mem_append_right _ (List.mem_map.2 ⟨_, he, rfl⟩))
  simpa using h
theorem start_len (t : List Tm) : (startA t).length ≤ t.length := List.Nodup.length_le_of_subset (start_nodup t) (fun x hx => (start_mem t x).1 hx)
theorem pass_len (l : List Ed) : ∀ (ks : List Tm), (passA l ks).length ≤ ks.length + l.length := by
  induction l with
  | nil => intro ks; exact Nat.le_refl _
  | cons e r ih =>
    intro ks
    have h1 := ih (stepA ks e)
    obtain ⟨s, hs, hs'⟩ := step_pre ks e
    have : (stepA ks e).length ≤ ks.length + 1 := by unfold stepA; split <;> simp
    show (passA r (stepA ks e)).length ≤ _
    simp only [List.length_cons]
    omega
theorem leFrz {fr : Fr} {σ : Sto} {c : Nat} {gl : List (Nat × List G)} {ks : List Tm} (h1 : fget fr 5 = .rsl 0 0 ks.length) (h2 : sget σ 0 = some (rowO ks)) : Le Tryz.prog ⟨92, gl, fr, σ, c, 0, false⟩ ⟨92, gl, [(5, rowT ks)], [], 0, 0, false⟩ := by
  refine le_to [] (by decide) (by simp) (by simp) (wkfr_cons ?_ wkfr_nil) wkst_nil
  show Wk _ _ _ (fget fr 5) _
  rw [h1]
  have := wk_rsl_frz (P := Tryz.prog) (st := ⟨92, gl, fr, σ, c, 0, false⟩) (ρ := []) (i := 0) (o := 0) (n := ks.length) (s := 6) (ob := rowO ks) (by simp) h2 (by kernel_rfl) (by rw [len_cells]; omega) (cellsT_imm ks)
  rw [List.drop_zero, List.take_of_length_le (by rw [len_cells]; exact Nat.le_refl _)] at this
  exact this
set_option maxHeartbeats 8000000 in
theorem rreach_fn (gl : List (Nat × List G)) (l : List Ed) (t : List Tm) (hF : Few l t) : Fn' Tryz.prog gl 11 [rowE l, rowT t] (rowT (reachA ltB l t)) := by
  have hl := hF.rules
  have ht := hF.terms
  refine fn_enter Tryz.func11 rfl (by simp [Tryz.ntmps11]) ?_
  simp only [St.enter, enterFr, Tryz.ntmps11]
  repeat' (first | apply tr_seq | apply tr_region | apply run_nil | apply thn_n | apply thn_e | apply thn_r | apply blk_e | apply blk_n | apply blk_r | (refine blk_ne ?_ ?_; decide) | apply tr_block | apply tr_skip | apply tr_label | apply tr_exit | apply tr_ret | (refine tr_region_draw (bars := []) mixed (by kernel_rfl) ?_) | apply rund_nil | ((first | apply run_v | apply rund_v); simp (disch := omega) [if_pos]; (first | rfl | exact ⟨rfl, rfl⟩); decide) | ((first | apply run_bs | apply run_app | apply run_build | apply run_box | apply run_alloc | apply rund_build); simp (disch := omega) [if_pos]; (first | rfl | exact ⟨rfl, rfl⟩ | exact ⟨rfl, rfl, rfl, rfl⟩); decide) | (apply run_sto; simp (disch := omega) [if_pos]; rfl))
  refine tr_virt 38 5 (by decide) rfl ?_
  refine tr_loop (fun q : {q : Nat // q ≤ t.length} => ⟨92, gl, [(0, rowE l), (1, rowT t), (5, .rsl 0 0 (startA (t.take q.1)).length), (6, gInt (q.1 : Int))], [(0, some (rowO (startA (t.take q.1))))], 1, 0, false⟩) (fun q => t.length - q.1) ⟨0, Nat.zero_le _⟩ ?_ ?_
  · refine le_to [(0, 0)] (by decide) (by decide) (by decide) (wkfr_cons (wk_imm (imm_sl _ _)) (wkfr_cons (wk_imm (imm_sl _ _)) (wkfr_cons (wk_rsl rfl) (wkfr_cons (wk_imm (imm_lit _)) wkfr_nil)))) ?_
    exact wkst_eq rfl rfl rfl (cellsT_imm _) wkst_nil
  · rintro ⟨i, hi⟩
    dsimp only
    repeat' (first | apply tr_seq | apply tr_region | apply run_nil | apply thn_n | apply thn_e | apply thn_r | apply blk_e | apply blk_n | apply blk_r | (refine blk_ne ?_ ?_; decide) | apply tr_block | apply tr_skip | apply tr_label | apply tr_exit | apply tr_ret | (refine tr_region_draw (bars := []) mixed (by kernel_rfl) ?_) | apply rund_nil | ((first | apply run_v | apply rund_v); simp (disch := omega) [if_pos]; (first | rfl | exact ⟨rfl, rfl⟩); decide) | ((first | apply run_bs | apply run_app | apply run_build | apply run_box | apply run_alloc | apply rund_build); simp (disch := omega) [if_pos]; (first | rfl | exact ⟨rfl, rfl⟩ | exact ⟨rfl, rfl, rfl, rfl⟩); decide) | (apply run_sto; simp (disch := omega) [if_pos]; rfl))
    refine tr_condP (p := i < t.length) ?_ (fun h => ?_) (fun h => ?_)
    · simp
    · obtain ⟨x, hx⟩ : ∃ x, t[i]? = some x := ⟨_, List.getElem?_eq_getElem h⟩
      have h1 := ixT hx
      have h2 : ∀ σ, gload Tryz.prog σ 38 (.ptr (cellsT t) (i * 6)) = some (gT x) := fun σ => ldT hx
      have e : insA (startA (t.take i)) x = startA (t.take (i + 1)) := by
        unfold startA
        rw [List.take_add_one, hx, List.foldl_append]
        rfl
      have hlen := start_len (t.take i)
      have hle2 : (t.take i).length ≤ 1000 := by simp; omega
      obtain ⟨out, ho⟩ : ∃ out, out = startA (t.take i) := ⟨_, rfl⟩
      rw [← ho] at e hlen ⊢
      repeat' (first | apply tr_seq | apply tr_region | apply run_nil | apply thn_n | apply thn_e | apply thn_r | apply blk_e | apply blk_n | apply blk_r | (refine blk_ne ?_ ?_; decide) | apply tr_block | apply tr_skip | apply tr_label | apply tr_exit | apply tr_ret | (refine tr_region_draw (bars := []) mixed (by kernel_rfl) ?_) | apply rund_nil | ((first | apply run_v | apply rund_v); simp (disch := omega) [if_pos, -gindex, -gload, h1, h2]; (first | rfl | exact ⟨rfl, rfl⟩); decide) | ((first | apply run_bs | apply run_app | apply run_build | apply run_box | apply run_alloc | apply rund_build); simp (disch := omega) [if_pos, -gindex, -gload, h1, h2]; (first | rfl | exact ⟨rfl, rfl⟩ | exact ⟨rfl, rfl, rfl, rfl⟩); decide) | (apply run_sto; simp (disch := omega) [if_pos, -gindex, -gload, h1, h2]; rfl))
      refine run_e rfl (hasO (q := 0) (l := out) (m := x) rfl (fun d e => by cases e; show 23 < 92; decide) rfl rfl rfl (by omega)) ?_
      simp only [St.put]
      refine run_v (g := .lit (.bool (!decide (x ∈ out)))) (by cases decide (x ∈ out) <;> kernel_rfl) (by decide) ?_
      apply run_nil
      apply thn_n
      by_cases hin : x ∈ out
      · refine tr_condF (by rw [decide_eq_true hin]; rfl) ?_
        repeat' (first | apply tr_seq | apply tr_region | apply run_nil | apply thn_n | apply thn_e | apply thn_r | apply blk_e | apply blk_n | apply blk_r | (refine blk_ne ?_ ?_; decide) | apply tr_block | apply tr_skip | apply tr_label | apply tr_exit | apply tr_ret | (refine tr_region_draw (bars := []) mixed (by kernel_rfl) ?_) | apply rund_nil | ((first | apply run_v | apply rund_v); simp (disch := omega) [if_pos]; (first | rfl | exact ⟨rfl, rfl⟩); decide) | ((first | apply run_bs | apply run_app | apply run_build | apply run_box | apply run_alloc | apply rund_build); simp (disch := omega) [if_pos]; (first | rfl | exact ⟨rfl, rfl⟩ | exact ⟨rfl, rfl, rfl, rfl⟩); decide) | (apply run_sto; simp (disch := omega) [if_pos]; rfl))
        refine ⟨⟨i + 1, by omega⟩, ?_, by show t.length - (i + 1) < t.length - i; omega⟩
        dsimp only
        rw [← e, show insA out x = out by unfold insA; rw [if_pos hin]]
        refine le_to [(0, 0)] (by decide) (by decide) (by decide) (wkfr_cons (wk_imm (imm_sl _ _)) (wkfr_cons (wk_imm (imm_sl _ _)) (wkfr_cons (wk_rsl rfl) (wkfr_cons (wk_int (by omega)) wkfr_nil)))) ?_
        exact wkst_eq rfl rfl rfl (cellsT_imm _) wkst_nil
      · refine tr_condT (by rw [decide_eq_false hin]; rfl) ?_
        repeat' (first | apply tr_seq | apply tr_region | apply run_nil | apply thn_n | apply thn_e | apply thn_r | apply blk_e | apply blk_n | apply blk_r | (refine blk_ne ?_ ?_; decide) | apply tr_block | apply tr_skip | apply tr_label | apply tr_exit | apply tr_ret | (refine tr_region_draw (bars := []) mixed (by kernel_rfl) ?_) | apply rund_nil | ((first | apply run_v | apply rund_v); simp (disch := omega) [if_pos, -gindex, -gload, h1, h2]; (first | rfl | exact ⟨rfl, rfl⟩); decide) | ((first | apply run_bs | apply run_app | apply run_build | apply run_box | apply run_alloc | apply rund_build); simp (disch := omega) [if_pos, -gindex, -gload, h1, h2]; (first | rfl | exact ⟨rfl, rfl⟩ | exact ⟨rfl, rfl, rfl, rfl⟩); decide) | (apply run_sto; simp (disch := omega) [if_pos, -gindex, -gload, h1, h2]; rfl))
        refine run_bs (bsT x) (by decide) ?_
        refine run_app (i := 0) (appT (q := 0) (q2 := 1) (l := out) (n := [x]) (by simp; omega) rfl rfl) (by decide) ?_
        refine run_v (g := .rsl 2 0 (out.length + 1)) (by kernel_rfl) (by decide) ?_
        apply run_nil
        repeat' (first | apply tr_seq | apply tr_region | apply run_nil | apply thn_n | apply thn_e | apply thn_r | apply blk_e | apply blk_n | apply blk_r | (refine blk_ne ?_ ?_; decide) | apply tr_block | apply tr_skip | apply tr_label | apply tr_exit | apply tr_ret | (refine tr_region_draw (bars := []) mixed (by kernel_rfl) ?_) | apply rund_nil | ((first | apply run_v | apply rund_v); simp (disch := omega) [if_pos]; (first | rfl | exact ⟨rfl, rfl⟩); decide) | ((first | apply run_bs | apply run_app | apply run_build | apply run_box | apply run_alloc | apply rund_build); simp (disch := omega) [if_pos]; (first | rfl | exact ⟨rfl, rfl⟩ | exact ⟨rfl, rfl, rfl, rfl⟩); decide) | (apply run_sto; simp (disch := omega) [if_pos]; rfl))
        refine ⟨⟨i + 1, by omega⟩, ?_, by show t.length - (i + 1) < t.length - i; omega⟩
        dsimp only
        rw [← e, show insA out x = out ++ [x] by unfold insA; rw [if_neg hin]]
        rw [List.length_append]
        refine le_to [(0, 2)] (by decide) (by decide) (by decide) (wkfr_cons (wk_imm (imm_sl _ _)) (wkfr_cons (wk_imm (imm_sl _ _)) (wkfr_cons (wk_rsl rfl) (wkfr_cons (wk_int (by omega)) wkfr_nil)))) ?_
        exact wkst_eq rfl rfl rfl (cellsT_imm _) wkst_nil
    · have e0 : t.take i = t := List.take_of_length_le (by omega)
      rw [e0]
      have hbound := iter_len l t
      have hres : reachA ltB l t = sortS ltB (finA l (startA t)) := rfl
      rw [hres]
      obtain ⟨k0, hk0⟩ : ∃ k0, k0 = startA t := ⟨_, rfl⟩
      rw [← hk0] at hbound ⊢
      repeat' (first | apply tr_seq | apply tr_region | apply run_nil | apply thn_n | apply thn_e | apply thn_r | apply blk_e | apply blk_n | apply blk_r | (refine blk_ne ?_ ?_; decide) | apply tr_block | apply tr_skip | apply tr_label | apply tr_exit | apply tr_ret | (refine tr_region_draw (bars := []) mixed (by kernel_rfl) ?_) | apply rund_nil | ((first | apply run_v | apply rund_v); simp (disch := omega) [if_pos]; (first | rfl | exact ⟨rfl, rfl⟩); decide) | ((first | apply run_bs | apply run_app | apply run_build | apply run_box | apply run_alloc | apply rund_build); simp (disch := omega) [if_pos]; (first | rfl | exact ⟨rfl, rfl⟩ | exact ⟨rfl, rfl, rfl, rfl⟩); decide) | (apply run_sto; simp (disch := omega) [if_pos]; rfl))
      refine tr_loop (fun q : {q : Nat // q ≤ l.length + 1} => ⟨92, gl, [(0, rowE l), (5, .rsl 0 0 (iterA l q.1 k0).length), (7, gInt (q.1 : Int))], [(0, some (rowO (iterA l q.1 k0)))], 1, 0, false⟩) (fun q => l.length + 1 - q.1) ⟨0, Nat.zero_le _⟩ ?_ ?_
      · refine le_to [(0, 0)] (by decide) (by decide) (by decide) (wkfr_cons (wk_imm (imm_sl _ _)) (wkfr_cons (wk_rsl rfl) (wkfr_cons (wk_imm (imm_lit _)) wkfr_nil))) ?_
        exact wkst_eq rfl rfl rfl (cellsT_imm _) wkst_nil
      · rintro ⟨n, hn⟩
        dsimp only
        have hkl := hbound n
        obtain ⟨ks, hks⟩ : ∃ ks, ks = iterA l n k0 := ⟨_, rfl⟩
        rw [← hks] at hkl ⊢
        repeat' (first | apply tr_seq | apply tr_region | apply run_nil | apply thn_n | apply thn_e | apply thn_r | apply blk_e | apply blk_n | apply blk_r | (refine blk_ne ?_ ?_; decide) | apply tr_block | apply tr_skip | apply tr_label | apply tr_exit | apply tr_ret | (refine tr_region_draw (bars := []) mixed (by kernel_rfl) ?_) | apply rund_nil | ((first | apply run_v | apply rund_v); simp (disch := omega) [if_pos]; (first | rfl | exact ⟨rfl, rfl⟩); decide) | ((first | apply run_bs | apply run_app | apply run_build | apply run_box | apply run_alloc | apply rund_build); simp (disch := omega) [if_pos]; (first | rfl | exact ⟨rfl, rfl⟩ | exact ⟨rfl, rfl, rfl, rfl⟩); decide) | (apply run_sto; simp (disch := omega) [if_pos]; rfl))
        refine tr_condP (p := n ≤ l.length) ?_ (fun h => ?_) (fun h => ?_)
        · simp
        · repeat' (first | apply tr_seq | apply tr_region | apply run_nil | apply thn_n | apply thn_e | apply thn_r | apply blk_e | apply blk_n | apply blk_r | (refine blk_ne ?_ ?_; decide) | apply tr_block | apply tr_skip | apply tr_label | apply tr_exit | apply tr_ret | (refine tr_region_draw (bars := []) mixed (by kernel_rfl) ?_) | apply rund_nil | ((first | apply run_v | apply rund_v); simp (disch := omega) [if_pos]; (first | rfl | exact ⟨rfl, rfl⟩); decide) | ((first | apply run_bs | apply run_app | apply run_build | apply run_box | apply run_alloc | apply rund_build); simp (disch := omega) [if_pos]; (first | rfl | exact ⟨rfl, rfl⟩ | exact ⟨rfl, rfl, rfl, rfl⟩); decide) | (apply run_sto; simp (disch := omega) [if_pos]; rfl))
          refine tr_loop (fun q : {q : Nat // q ≤ l.length} => ⟨92, gl, [(0, rowE l), (5, .rsl 0 0 (passA (l.take q.1) ks).length), (7, gInt (n : Int)), (8, gInt (ks.length : Int)), (9, gInt (q.1 : Int))], [(0, some (rowO (passA (l.take q.1) ks)))], 1, 0, false⟩) (fun q => l.length - q.1) ⟨0, Nat.zero_le _⟩ ?_ ?_
          · have e0 : passA (l.take 0) ks = ks := rfl
            dsimp only
            rw [e0]
            refine le_to [(0, 0)] (by decide) (by decide) (by decide) (wkfr_cons (wk_imm (imm_sl _ _)) (wkfr_cons (wk_rsl rfl) (wkfr_cons (wk_imm (imm_lit _)) (wkfr_cons (wk_imm (imm_lit _)) (wkfr_cons (wk_int (by omega)) wkfr_nil))))) (wkst_eq rfl rfl rfl (cellsT_imm _) wkst_nil)
          · rintro ⟨i, hi⟩
            dsimp only
            repeat' (first | apply tr_seq | apply tr_region | apply run_nil | apply thn_n | apply thn_e | apply thn_r | apply blk_e | apply blk_n | apply blk_r | (refine blk_ne ?_ ?_; decide) | apply tr_block | apply tr_skip | apply tr_label | apply tr_exit | apply tr_ret | (refine tr_region_draw (bars := []) mixed (by kernel_rfl) ?_) | apply rund_nil | ((first | apply run_v | apply rund_v); simp (disch := omega) [if_pos]; (first | rfl | exact ⟨rfl, rfl⟩); decide) | ((first | apply run_bs | apply run_app | apply run_build | apply run_box | apply run_alloc | apply rund_build); simp (disch := omega) [if_pos]; (first | rfl | exact ⟨rfl, rfl⟩ | exact ⟨rfl, rfl, rfl, rfl⟩); decide) | (apply run_sto; simp (disch := omega) [if_pos]; rfl))
            refine tr_condP (p := i < l.length) ?_ (fun hil => ?_) (fun hil => ?_)
            · simp
            · obtain ⟨e, he⟩ : ∃ e, l[i]? = some e := ⟨_, List.getElem?_eq_getElem hil⟩
              have hel := hF.each e (List.mem_of_getElem? he)
              have hstep : passA (l.take (i + 1)) ks = stepA (passA (l.take i) ks) e := by
                rw [List.take_add_one, he]
                unfold passA
                rw [List.foldl_append]
                rfl
              have hklen := pass_len (l.take i) ks
              have hti : (l.take i).length ≤ 1000 := by simp; omega
              generalize hk : passA (l.take i) ks = k at *
              have next : ∀ (st : St) (k' : List Tm), stepA k e = k' → Le Tryz.prog st ⟨92, gl, [(0, rowE l), (5, .rsl 0 0 k'.length), (7, gInt (n : Int)), (8, gInt (ks.length : Int)), (9, gInt ((i + 1 : Nat) : Int))], [(0, some (rowO k'))], 1, 0, false⟩ →
                  ∃ q : {q : Nat // q ≤ l.length}, Le Tryz.prog st ⟨92, gl, [(0, rowE l), (5, .rsl 0 0 (passA (l.take q.1) ks).length), (7, gInt (n : Int)), (8, gInt (ks.length : Int)), (9, gInt (q.1 : Int))], [(0, some (rowO (passA (l.take q.1) ks)))], 1, 0, false⟩ ∧ l.length - q.1 < l.length - i := by
                intro st k' h1 h3
                refine ⟨⟨i + 1, by omega⟩, ?_, by show l.length - (i + 1) < l.length - i; omega⟩
                dsimp only
                rw [hstep, h1]
                exact h3
              have ix := ixE2 he
              have lx1 : ∀ σ, gload Tryz.prog σ 25 (.ptr (cellsE l) (i * 7 + 0)) = some (rowT e.1) := fun σ => ldE1 he
              have lx2 : ∀ σ, gload Tryz.prog σ 38 (.ptr (cellsE l) (i * 7 + 1)) = some (gT e.2) := fun σ => ldE2 he
              repeat' (first | apply tr_seq | apply tr_region | apply run_nil | apply thn_n | apply thn_e | apply thn_r | apply blk_e | apply blk_n | apply blk_r | (refine blk_ne ?_ ?_; decide) | apply tr_block | apply tr_skip | apply tr_label | apply tr_exit | apply tr_ret)
              refine run_v (g := .rsl 0 0 k.length) (by kernel_rfl) (by decide) ?_
              refine run_v (g := rowE l) (by kernel_rfl) (by decide) ?_
              refine run_v (g := gInt (i : Int)) (by kernel_rfl) (by decide) ?_
              refine run_v (g := .ptr (cellsE l) (i * 7)) (Eq.trans (by kernel_rfl) ix) (by decide) ?_
              refine run_v (g := .ptr (cellsE l) (i * 7 + 1)) (by kernel_rfl) (by decide) ?_
              refine run_v (g := gT e.2) (Eq.trans (by kernel_rfl) (lx2 [])) (by decide) ?_
              refine run_e rfl (hasO (q := 0) (l := k) (m := e.2) rfl (fun d e => by cases e; show 52 < 92; decide) rfl rfl rfl (by omega)) ?_
              simp only [St.put]
              refine run_v (g := .lit (.bool (!decide (e.2 ∈ k)))) (by cases decide (e.2 ∈ k) <;> kernel_rfl) (by decide) ?_
              refine run_v (g := .lit (.bool (!decide (e.2 ∈ k)))) (by kernel_rfl) (by decide) ?_
              apply run_nil
              repeat' (first | apply tr_seq | apply tr_region | apply run_nil | apply thn_n | apply thn_e | apply thn_r | apply blk_e | apply blk_n | apply blk_r | (refine blk_ne ?_ ?_; decide) | apply tr_block | apply tr_skip | apply tr_label | apply tr_exit | apply tr_ret | (refine tr_region_draw (bars := []) mixed (by kernel_rfl) ?_) | apply rund_nil | ((first | apply run_v | apply rund_v); simp (disch := omega) [if_pos]; (first | rfl | exact ⟨rfl, rfl⟩); decide) | ((first | apply run_bs | apply run_app | apply run_build | apply run_box | apply run_alloc | apply rund_build); simp (disch := omega) [if_pos]; (first | rfl | exact ⟨rfl, rfl⟩ | exact ⟨rfl, rfl, rfl, rfl⟩); decide) | (apply run_sto; simp (disch := omega) [if_pos]; rfl))
              refine tr_loop (fun q : {q : Nat // q ≤ e.1.length} => ⟨92, gl, [(0, rowE l), (5, .rsl 0 0 k.length), (7, gInt (n : Int)), (8, gInt (ks.length : Int)), (9, gInt (i : Int)), (10, .lit (.bool (!decide (e.2 ∈ k) && (e.1.take q.1).all (fun x => decide (x ∈ k))))), (11, gInt (q.1 : Int))], [(0, some (rowO k))], 1, 0, false⟩) (fun q => e.1.length - q.1) ⟨0, Nat.zero_le _⟩ ?_ ?_
              · dsimp only
                refine le_to [(0, 0)] (by decide) (by decide) (by decide) (wkfr_cons (wk_imm (imm_sl _ _)) (wkfr_cons (wk_rsl rfl) (wkfr_cons (wk_imm (imm_lit _)) (wkfr_cons (wk_imm (imm_lit _)) (wkfr_cons (wk_imm (imm_lit _)) (wkfr_cons (wk_boolE (by simp)) (wkfr_cons (wk_imm (imm_lit _)) wkfr_nil))))))) (wkst_eq rfl rfl rfl (cellsT_imm _) wkst_nil)
              · rintro ⟨j, hj⟩
                dsimp only
                obtain ⟨can, hc⟩ : ∃ can : Bool, can = (!decide (e.2 ∈ k) && (e.1.take j).all (fun x => decide (x ∈ k))) := ⟨_, rfl⟩
                rw [← hc]
                apply tr_seq
                apply tr_seq
                apply tr_region
                refine run_v (g := gInt (j : Int)) (by kernel_rfl) (by decide) ?_
                refine run_v (g := rowE l) (by kernel_rfl) (by decide) ?_
                refine run_v (g := gInt (i : Int)) (by kernel_rfl) (by decide) ?_
                refine run_v (g := .ptr (cellsE l) (i * 7)) (Eq.trans (by kernel_rfl) ix) (by decide) ?_
                refine run_v (g := .ptr (cellsE l) (i * 7 + 0)) (by kernel_rfl) (by decide) ?_
                refine run_v (g := rowT e.1) (Eq.trans (by kernel_rfl) (lx1 [])) (by decide) ?_
                refine run_v (g := gInt (e.1.length : Int)) (by kernel_rfl) (by decide) ?_
                by_cases hjl : j < e.1.length
                · obtain ⟨x, hx⟩ : ∃ x, e.1[j]? = some x := ⟨_, List.getElem?_eq_getElem hjl⟩
                  have h3 := ixT hx
                  have h4 : ∀ σ, gload Tryz.prog σ 38 (.ptr (cellsT e.1) (j * 6)) = some (gT x) := fun σ => ldT hx
                  have m0 : decide ((j : Int) < e.1.length) = true := by simp; omega
                  refine run_v (g := .lit (.bool true)) (by rw [← m0]; kernel_rfl) (by decide) ?_
                  refine run_v (g := .lit (.bool true)) (by kernel_rfl) (by decide) ?_
                  refine gun_v (g := .lit (.bool can)) (by kernel_rfl) (by kernel_rfl) (by decide) ?_
                  refine run_v (g := .lit (.bool can)) (by cases can <;> kernel_rfl) (by decide) ?_
                  apply run_nil
                  apply thn_n
                  cases can with
                  | true =>
                    refine tr_condT rfl ?_
                    repeat' (first | apply tr_seq | apply tr_region | apply run_nil | apply thn_n | apply thn_e | apply thn_r | apply blk_e | apply blk_n | apply blk_r | (refine blk_ne ?_ ?_; decide) | apply tr_block | apply tr_skip | apply tr_label | apply tr_exit | apply tr_ret)
                    refine run_v (g := .rsl 0 0 k.length) (by kernel_rfl) (by decide) ?_
                    refine run_v (g := rowE l) (by kernel_rfl) (by decide) ?_
                    refine run_v (g := gInt (i : Int)) (by kernel_rfl) (by decide) ?_
                    refine run_v (g := .ptr (cellsE l) (i * 7)) (Eq.trans (by kernel_rfl) ix) (by decide) ?_
                    refine run_v (g := .ptr (cellsE l) (i * 7 + 0)) (by kernel_rfl) (by decide) ?_
                    refine run_v (g := rowT e.1) (Eq.trans (by kernel_rfl) (lx1 [])) (by decide) ?_
                    refine run_v (g := gInt (j : Int)) (by kernel_rfl) (by decide) ?_
                    refine run_v (g := .ptr (cellsT e.1) (j * 6)) (Eq.trans (by kernel_rfl) h3) (by decide) ?_
                    refine run_v (g := gT x) (Eq.trans (by kernel_rfl) (h4 [])) (by decide) ?_
                    refine run_e rfl (hasO (q := 0) (l := k) (m := x) rfl (fun d e => by cases e; show 76 < 92; decide) rfl rfl rfl (by omega)) ?_
                    simp only [St.put]
                    refine run_v (g := .lit (.bool (decide (x ∈ k)))) (by kernel_rfl) (by decide) ?_
                    apply run_nil
                    repeat' (first | apply tr_seq | apply tr_region | apply run_nil | apply thn_n | apply thn_e | apply thn_r | apply blk_e | apply blk_n | apply blk_r | (refine blk_ne ?_ ?_; decide) | apply tr_block | apply tr_skip | apply tr_label | apply tr_exit | apply tr_ret | (refine tr_region_draw (bars := []) mixed (by kernel_rfl) ?_) | apply rund_nil | ((first | apply run_v | apply rund_v); simp (disch := omega) [if_pos]; (first | rfl | exact ⟨rfl, rfl⟩); decide) | ((first | apply run_bs | apply run_app | apply run_build | apply run_box | apply run_alloc | apply rund_build); simp (disch := omega) [if_pos]; (first | rfl | exact ⟨rfl, rfl⟩ | exact ⟨rfl, rfl, rfl, rfl⟩); decide) | (apply run_sto; simp (disch := omega) [if_pos]; rfl))
                    refine ⟨⟨j + 1, by omega⟩, ?_, by show e.1.length - (j + 1) < e.1.length - j; omega⟩
                    dsimp only
                    have e5 : (!decide (e.2 ∈ k) && (e.1.take (j + 1)).all (fun x => decide (x ∈ k))) = decide (x ∈ k) := by
                      rw [List.take_add_one, hx, List.all_append, ← Bool.and_assoc, ← hc]
                      simp
                    rw [e5]
                    refine le_to [(0, 0)] (by decide) (by decide) (by decide) (wkfr_cons (wk_imm (imm_sl _ _)) (wkfr_cons (wk_rsl rfl) (wkfr_cons (wk_imm (imm_lit _)) (wkfr_cons (wk_imm (imm_lit _)) (wkfr_cons (wk_imm (imm_lit _)) (wkfr_cons (wk_imm (imm_lit _)) (wkfr_cons (wk_int (by omega)) wkfr_nil))))))) (wkst_eq rfl rfl rfl (cellsT_imm _) wkst_nil)
                  | false =>
                    have hcan : canA k e = false := by
                      unfold canA
                      cases h6 : decide (e.2 ∈ k) with
                      | true => rfl
                      | false =>
                        rw [h6] at hc
                        have hc : (e.1.take j).all (fun x => decide (x ∈ k)) = false := by simpa using hc.symm
                        rw [List.all_eq_false] at hc
                        obtain ⟨y, hy, hy2⟩ := hc
                        have : e.1.all (fun x => decide (x ∈ k)) = false := by
                          rw [List.all_eq_false]
                          exact ⟨y, List.mem_of_mem_take hy, hy2⟩
                        rw [this]
                        rfl
                    refine tr_condF rfl ?_
                    repeat' (first | apply tr_seq | apply tr_region | apply run_nil | apply thn_n | apply thn_e | apply thn_r | apply blk_e | apply blk_n | apply blk_r | (refine blk_ne ?_ ?_; decide) | apply tr_block | apply tr_skip | apply tr_label | apply tr_exit | apply tr_ret)
                    refine run_v (g := .lit (.bool false)) (by kernel_rfl) (by decide) ?_
                    apply run_nil
                    repeat' (first | apply tr_seq | apply tr_region | apply run_nil | apply thn_n | apply thn_e | apply thn_r | apply blk_e | apply blk_n | apply blk_r | (refine blk_ne ?_ ?_; decide) | apply tr_block | apply tr_skip | apply tr_label | apply tr_exit | apply tr_ret)
                    refine tr_condF rfl ?_
                    repeat' (first | apply tr_seq | apply tr_region | apply run_nil | apply thn_n | apply thn_e | apply thn_r | apply blk_e | apply blk_n | apply blk_r | (refine blk_ne ?_ ?_; decide) | apply tr_block | apply tr_skip | apply tr_label | apply tr_exit | apply tr_ret | (refine tr_region_draw (bars := []) mixed (by kernel_rfl) ?_) | apply rund_nil | ((first | apply run_v | apply rund_v); simp (disch := omega) [if_pos]; (first | rfl | exact ⟨rfl, rfl⟩); decide) | ((first | apply run_bs | apply run_app | apply run_build | apply run_box | apply run_alloc | apply rund_build); simp (disch := omega) [if_pos]; (first | rfl | exact ⟨rfl, rfl⟩ | exact ⟨rfl, rfl, rfl, rfl⟩); decide) | (apply run_sto; simp (disch := omega) [if_pos]; rfl))
                    refine next _ k ?_ ?_
                    · unfold stepA
                      rw [hcan]
                      rfl
                    · refine le_to [(0, 0)] (by decide) (by decide) (by decide) (wkfr_cons (wk_imm (imm_sl _ _)) (wkfr_cons (wk_rsl rfl) (wkfr_cons (wk_imm (imm_lit _)) (wkfr_cons (wk_imm (imm_lit _)) (wkfr_cons (wk_int (by omega)) wkfr_nil))))) (wkst_eq rfl rfl rfl (cellsT_imm _) wkst_nil)
                · have m0 : decide ((j : Int) < e.1.length) = false := by simp; omega
                  refine run_v (g := .lit (.bool false)) (by rw [← m0]; kernel_rfl) (by decide) ?_
                  refine run_v (g := .lit (.bool false)) (by kernel_rfl) (by decide) ?_
                  refine gun_n (by kernel_rfl) (by decide) ?_
                  refine run_v (g := .lit (.bool false)) (by kernel_rfl) (by decide) ?_
                  apply run_nil
                  apply thn_n
                  rw [List.take_of_length_le (by omega)] at hc
                  have hcan : canA k e = can := hc.symm
                  refine tr_condF rfl ?_
                  repeat' (first | apply tr_seq | apply tr_region | apply run_nil | apply thn_n | apply thn_e | apply thn_r | apply blk_e | apply blk_n | apply blk_r | (refine blk_ne ?_ ?_; decide) | apply tr_block | apply tr_skip | apply tr_label | apply tr_exit | apply tr_ret)
                  cases can with
                  | false =>
                    refine run_v (g := .lit (.bool false)) (by kernel_rfl) (by decide) ?_
                    apply run_nil
                    repeat' (first | apply tr_seq | apply tr_region | apply run_nil | apply thn_n | apply thn_e | apply thn_r | apply blk_e | apply blk_n | apply blk_r | (refine blk_ne ?_ ?_; decide) | apply tr_block | apply tr_skip | apply tr_label | apply tr_exit | apply tr_ret)
                    refine tr_condF rfl ?_
                    repeat' (first | apply tr_seq | apply tr_region | apply run_nil | apply thn_n | apply thn_e | apply thn_r | apply blk_e | apply blk_n | apply blk_r | (refine blk_ne ?_ ?_; decide) | apply tr_block | apply tr_skip | apply tr_label | apply tr_exit | apply tr_ret | (refine tr_region_draw (bars := []) mixed (by kernel_rfl) ?_) | apply rund_nil | ((first | apply run_v | apply rund_v); simp (disch := omega) [if_pos]; (first | rfl | exact ⟨rfl, rfl⟩); decide) | ((first | apply run_bs | apply run_app | apply run_build | apply run_box | apply run_alloc | apply rund_build); simp (disch := omega) [if_pos]; (first | rfl | exact ⟨rfl, rfl⟩ | exact ⟨rfl, rfl, rfl, rfl⟩); decide) | (apply run_sto; simp (disch := omega) [if_pos]; rfl))
                    refine next _ k ?_ ?_
                    · unfold stepA
                      rw [hcan]
                      rfl
                    · refine le_to [(0, 0)] (by decide) (by decide) (by decide) (wkfr_cons (wk_imm (imm_sl _ _)) (wkfr_cons (wk_rsl rfl) (wkfr_cons (wk_imm (imm_lit _)) (wkfr_cons (wk_imm (imm_lit _)) (wkfr_cons (wk_int (by omega)) wkfr_nil))))) (wkst_eq rfl rfl rfl (cellsT_imm _) wkst_nil)
                  | true =>
                    refine run_v (g := .lit (.bool true)) (by kernel_rfl) (by decide) ?_
                    apply run_nil
                    repeat' (first | apply tr_seq | apply tr_region | apply run_nil | apply thn_n | apply thn_e | apply thn_r | apply blk_e | apply blk_n | apply blk_r | (refine blk_ne ?_ ?_; decide) | apply tr_block | apply tr_skip | apply tr_label | apply tr_exit | apply tr_ret)
                    refine tr_condT rfl ?_
                    repeat' (first | apply tr_seq | apply tr_region | apply run_nil | apply thn_n | apply thn_e | apply thn_r | apply blk_e | apply blk_n | apply blk_r | (refine blk_ne ?_ ?_; decide) | apply tr_block | apply tr_skip | apply tr_label | apply tr_exit | apply tr_ret)
                    refine run_v (g := .rsl 0 0 k.length) (by kernel_rfl) (by decide) ?_
                    refine run_v (g := rowE l) (by kernel_rfl) (by decide) ?_
                    refine run_v (g := gInt (i : Int)) (by kernel_rfl) (by decide) ?_
                    refine run_v (g := .ptr (cellsE l) (i * 7)) (Eq.trans (by kernel_rfl) ix) (by decide) ?_
                    refine run_v (g := .ptr (cellsE l) (i * 7 + 1)) (by kernel_rfl) (by decide) ?_
                    refine run_v (g := gT e.2) (Eq.trans (by kernel_rfl) (lx2 [])) (by decide) ?_
                    refine run_bs (bsT e.2) (by decide) ?_
                    refine run_app (i := 0) (appT (q := 0) (q2 := 1) (l := k) (n := [e.2]) (by simp; omega) rfl rfl) (by decide) ?_
                    refine run_v (g := .rsl 2 0 (k.length + 1)) (by kernel_rfl) (by decide) ?_
                    apply run_nil
                    repeat' (first | apply tr_seq | apply tr_region | apply run_nil | apply thn_n | apply thn_e | apply thn_r | apply blk_e | apply blk_n | apply blk_r | (refine blk_ne ?_ ?_; decide) | apply tr_block | apply tr_skip | apply tr_label | apply tr_exit | apply tr_ret | (refine tr_region_draw (bars := []) mixed (by kernel_rfl) ?_) | apply rund_nil | ((first | apply run_v | apply rund_v); simp (disch := omega) [if_pos]; (first | rfl | exact ⟨rfl, rfl⟩); decide) | ((first | apply run_bs | apply run_app | apply run_build | apply run_box | apply run_alloc | apply rund_build); simp (disch := omega) [if_pos]; (first | rfl | exact ⟨rfl, rfl⟩ | exact ⟨rfl, rfl, rfl, rfl⟩); decide) | (apply run_sto; simp (disch := omega) [if_pos]; rfl))
                    refine next _ (k ++ [e.2]) ?_ ?_
                    · unfold stepA
                      rw [hcan]
                      rfl
                    · rw [List.length_append]
                      refine le_to [(0, 2)] (by decide) (by decide) (by decide) (wkfr_cons (wk_imm (imm_sl _ _)) (wkfr_cons (wk_rsl rfl) (wkfr_cons (wk_imm (imm_lit _)) (wkfr_cons (wk_imm (imm_lit _)) (wkfr_cons (wk_int (by omega)) wkfr_nil))))) (wkst_eq rfl rfl rfl (cellsT_imm _) wkst_nil)
            · have e9 : passA (l.take i) ks = passA l ks := by rw [List.take_of_length_le (by omega)]
              rw [e9]
              have hpl := pass_len l ks
              repeat' (first | apply tr_seq | apply tr_region | apply run_nil | apply thn_n | apply thn_e | apply thn_r | apply blk_e | apply blk_n | apply blk_r | (refine blk_ne ?_ ?_; decide) | apply tr_block | apply tr_skip | apply tr_label | apply tr_exit | apply tr_ret | (refine tr_region_draw (bars := []) mixed (by kernel_rfl) ?_) | apply rund_nil | ((first | apply run_v | apply rund_v); simp (disch := omega) [if_pos]; (first | rfl | exact ⟨rfl, rfl⟩); decide) | ((first | apply run_bs | apply run_app | apply run_build | apply run_box | apply run_alloc | apply rund_build); simp (disch := omega) [if_pos]; (first | rfl | exact ⟨rfl, rfl⟩ | exact ⟨rfl, rfl, rfl, rfl⟩); decide) | (apply run_sto; simp (disch := omega) [if_pos]; rfl))
              refine tr_condP (p := (passA l ks).length = ks.length) (by simp; omega) (fun h9 => ?_) (fun h9 => ?_)
              · have h10 := (pass_same_iff l ks).2 h9
                rw [h10]
                have hfin : finA l k0 = ks := by
                  rw [← fin_iter l n k0, ← hks]
                  exact fin_fix h10
                rw [hfin]
                repeat' (first | apply tr_exit | apply thn_e | apply thn_n | apply blk_e | (refine blk_ne ?_ ?_; decide))
                refine Tr.le (st' := ⟨92, gl, [(5, rowT ks)], [], 0, 0, false⟩) ?_ ?_
                rotate_left
                · exact leFrz rfl rfl
                repeat' (first | apply tr_seq | apply tr_region | apply run_nil | apply thn_n | apply thn_e | apply thn_r | apply blk_e | apply blk_n | apply blk_r | (refine blk_ne ?_ ?_; decide) | apply tr_block | apply tr_skip | apply tr_label | apply tr_exit | apply tr_ret)
                refine run_v (g := rowT ks) (by kernel_rfl) (by decide) ?_
                refine run_c (rsorted_fn gl ks (by omega)) (by kernel_rfl) (by decide) rfl (imm1 (imm_sl _ _)) ?_
                refine run_v (g := rowT (sortS ltB ks)) (by kernel_rfl) (by decide) ?_
                apply run_nil
                repeat' (first | apply tr_seq | apply tr_region | apply run_nil | apply thn_n | apply thn_e | apply thn_r | apply blk_e | apply blk_n | apply blk_r | (refine blk_ne ?_ ?_; decide) | apply tr_block | apply tr_skip | apply tr_label | apply tr_exit | apply tr_ret)
                refine ended_r (t := 4) rfl (frz_imm (g := rowT (sortS ltB ks)) ?_)
                exact imm_sl _ _
              · repeat' (first | apply tr_seq | apply tr_region | apply run_nil | apply thn_n | apply thn_e | apply thn_r | apply blk_e | apply blk_n | apply blk_r | (refine blk_ne ?_ ?_; decide) | apply tr_block | apply tr_skip | apply tr_label | apply tr_exit | apply tr_ret | (refine tr_region_draw (bars := []) mixed (by kernel_rfl) ?_) | apply rund_nil | ((first | apply run_v | apply rund_v); simp (disch := omega) [if_pos]; (first | rfl | exact ⟨rfl, rfl⟩); decide) | ((first | apply run_bs | apply run_app | apply run_build | apply run_box | apply run_alloc | apply rund_build); simp (disch := omega) [if_pos]; (first | rfl | exact ⟨rfl, rfl⟩ | exact ⟨rfl, rfl, rfl, rfl⟩); decide) | (apply run_sto; simp (disch := omega) [if_pos]; rfl))
                refine ⟨⟨n + 1, by omega⟩, ?_, by show l.length + 1 - (n + 1) < l.length + 1 - n; omega⟩
                dsimp only
                rw [iter_add, ← hks]
                refine le_to [(0, 0)] (by decide) (by decide) (by decide) (wkfr_cons (wk_imm (imm_sl _ _)) (wkfr_cons (wk_rsl rfl) (wkfr_cons (wk_int (by omega)) wkfr_nil))) (wkst_eq rfl rfl rfl (cellsT_imm _) wkst_nil)
        · have hnn : n = l.length + 1 := by omega
          have hfin : finA l k0 = ks := by rw [hks, hnn, fin_end]
          rw [hfin]
          repeat' (first | apply tr_exit | apply thn_e | apply thn_n | apply blk_e | (refine blk_ne ?_ ?_; decide))
          refine Tr.le (st' := ⟨92, gl, [(5, rowT ks)], [], 0, 0, false⟩) ?_ ?_
          rotate_left
          · exact leFrz rfl rfl
          repeat' (first | apply tr_seq | apply tr_region | apply run_nil | apply thn_n | apply thn_e | apply thn_r | apply blk_e | apply blk_n | apply blk_r | (refine blk_ne ?_ ?_; decide) | apply tr_block | apply tr_skip | apply tr_label | apply tr_exit | apply tr_ret)
          refine run_v (g := rowT ks) (by kernel_rfl) (by decide) ?_
          refine run_c (rsorted_fn gl ks (by omega)) (by kernel_rfl) (by decide) rfl (imm1 (imm_sl _ _)) ?_
          refine run_v (g := rowT (sortS ltB ks)) (by kernel_rfl) (by decide) ?_
          apply run_nil
          repeat' (first | apply tr_seq | apply tr_region | apply run_nil | apply thn_n | apply thn_e | apply thn_r | apply blk_e | apply blk_n | apply blk_r | (refine blk_ne ?_ ?_; decide) | apply tr_block | apply tr_skip | apply tr_label | apply tr_exit | apply tr_ret)
          refine ended_r (t := 4) rfl (frz_imm (g := rowT (sortS ltB ks)) ?_)
          exact imm_sl _ _
end
section
open Go.RowKit
set_option linter.unusedVariables false
set_option linter.unusedSimpArgs false
attribute [local irreducible] gT tmOf
attribute [local irreducible] Tr Run RunD GS TG Le Wk Frz Fn' ImmG Flat WkFr WkSt EndM GSn Vw Rn FnM
set_option maxHeartbeats 4000000 in
theorem lawReach_fn (gl : List (Nat × List G)) (hl : Fn' Tryz.prog gl 12 [] (.lit (.bool true))) (zs ss : List Int) (hz : Ints zs) (hs : Ints ss) : Fn' Tryz.prog gl 3 [rowI zs, rowI ss] (.lit (.bool true)) := by
  have hF := web_few zs ss 5 (by decide)
  obtain ⟨W, hW⟩ : ∃ W, W = webOf zs := ⟨_, rfl⟩
  obtain ⟨T, hT⟩ : ∃ T, T = (ss.take 5).map tmOf := ⟨_, rfl⟩
  rw [← hW, ← hT] at hF
  have hlen := reach_len W T hF
  refine fn_enter Tryz.func3 rfl (by simp [Tryz.ntmps3]) ?_
  simp only [St.enter, enterFr, Tryz.ntmps3]
  repeat' (first | apply tr_seq | apply tr_region | apply run_nil | apply thn_n | apply thn_e | apply thn_r | apply blk_e | apply blk_n | apply blk_r | (refine blk_ne ?_ ?_; decide) | apply tr_block | apply tr_skip | apply tr_label | apply tr_exit | apply tr_ret)
  refine run_v (g := .lit (.bool false)) (by kernel_rfl) (by decide) ?_
  apply run_nil
  repeat' (first | apply tr_seq | apply tr_region | apply run_nil | apply thn_n | apply thn_e | apply thn_r | apply blk_e | apply blk_n | apply blk_r | (refine blk_ne ?_ ?_; decide) | apply tr_block | apply tr_skip | apply tr_label | apply tr_exit | apply tr_ret)
  refine run_v (g := rowI zs) (by kernel_rfl) (by decide) ?_
  refine run_c (r := rowE W) (by rw [hW]; exact web_fn gl zs hz) (by kernel_rfl) (by decide) rfl (imm1 (imm_sl _ _)) ?_
  refine run_v (g := rowE W) (by kernel_rfl) (by decide) ?_
  apply run_nil
  repeat' (first | apply tr_seq | apply tr_region | apply run_nil | apply thn_n | apply thn_e | apply thn_r | apply blk_e | apply blk_n | apply blk_r | (refine blk_ne ?_ ?_; decide) | apply tr_block | apply tr_skip | apply tr_label | apply tr_exit | apply tr_ret)
  refine run_v (g := rowI ss) (by kernel_rfl) (by decide) ?_
  refine run_c (r := rowT T) (by rw [hT]; exact terms_fn gl ss hs 5 (by decide)) (by kernel_rfl) (by decide) rfl (imm2 (imm_sl _ _) (imm_lit _)) ?_
  refine run_v (g := rowT T) (by kernel_rfl) (by decide) ?_
  apply run_nil
  repeat' (first | apply tr_seq | apply tr_region | apply run_nil | apply thn_n | apply thn_e | apply thn_r | apply blk_e | apply blk_n | apply blk_r | (refine blk_ne ?_ ?_; decide) | apply tr_block | apply tr_skip | apply tr_label | apply tr_exit | apply tr_ret)
  refine run_v (g := rowE W) (by kernel_rfl) (by decide) ?_
  refine run_c (own_fn gl W hF.rules) (by kernel_rfl) (by decide) rfl (imm1 (imm_sl _ _)) ?_
  refine run_v (g := rowT T) (by kernel_rfl) (by decide) ?_
  refine run_c (reach_fn gl W T hF) (by kernel_rfl) (by decide) rfl (imm2 (imm_sl _ _) (imm_sl _ _)) ?_
  refine run_v (g := rowE W) (by kernel_rfl) (by decide) ?_
  refine run_v (g := rowT T) (by kernel_rfl) (by decide) ?_
  refine run_c (rreach_fn gl W T hF) (by kernel_rfl) (by decide) rfl (imm2 (imm_sl _ _) (imm_sl _ _)) ?_
  refine run_c (r := .lit (.bool true)) (by have := same_fn gl (reachA ltB W T) (reachA ltB W T) (by omega); rwa [decide_eq_true rfl] at this) (by kernel_rfl) (by decide) rfl (imm2 (imm_sl _ _) (imm_sl _ _)) ?_
  refine run_v (g := .lit (.bool true)) (by kernel_rfl) (by decide) ?_
  refine gun_c (vs := []) (by kernel_rfl) rfl (by kernel_rfl) (fun _ h => by cases h) hl (by decide) ?_
  refine run_v (g := .lit (.bool true)) (by kernel_rfl) (by decide) ?_
  refine run_v (g := .lit (.bool true)) (by kernel_rfl) (by decide) ?_
  apply run_nil
  repeat' (first | apply tr_seq | apply tr_region | apply run_nil | apply thn_n | apply thn_e | apply thn_r | apply blk_e | apply blk_n | apply blk_r | (refine blk_ne ?_ ?_; decide) | apply tr_block | apply tr_skip | apply tr_label | apply tr_exit | apply tr_ret)
  exact ended_r rfl (frz_bool rfl)
end
end Go.Proofs.YtjbbgjbknfoddaaGreatDoor
