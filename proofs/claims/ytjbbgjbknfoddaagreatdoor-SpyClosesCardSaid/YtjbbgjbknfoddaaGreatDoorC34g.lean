/- The document's example of chapter 34 lives: Reach by its contract, the rest run. -/
import Derived.Test.YtjbbgjbknfoddaaGreatDoorC34f
import Derived.Test.YtjbbgjbknfoddaaGreatDoorRe6
import Derived.KernelRfl
namespace Go.Proofs.YtjbbgjbknfoddaaGreatDoor
open Go.RowKit
set_option linter.unusedVariables false
set_option linter.unusedSimpArgs false
section
variable {P : Program} {st : St}
/-- Rows of values, one by one. -/
def FrzL (P : Program) (st : St) (l l' : List G) : Prop := ∀ (j : Nat) (g g' : G), l[j]? = some g → l'[j]? = some g' → Frz P st g g'
theorem frzl_nil {l : List G} : FrzL P st [] l := fun j g g' h => by simp at h
theorem frzl_cons {g g' : G} {l l' : List G} (h : Frz P st g g') (hr : FrzL P st l l') : FrzL P st (g :: l) (g' :: l') := fun j a a' h1 h2 => by
  cases j with
  | zero => simp at h1 h2; subst h1; subst h2; exact h
  | succ j => exact hr j a a' (by simpa using h1) (by simpa using h2)
theorem frz_row {i n s : Nat} {t : TypeId} {l l' : List G} (ho : sget st.σ i = some ⟨t, l, none⟩) (hs : tsize P t = some s) (hl : l.length = n * s) (hl' : l'.length = n * s) (h : FrzL P st l l') : Frz P st (.rsl i 0 n) (.sl l' n) :=
  frz_rsl ho hs (by show 0 + n * s ≤ l.length; omega) hl' (fun j g g' h1 h2 => h j g g' (by simpa using h1) h2)
end
def tm0 (k n : Int) : Tm := ⟨k, 1, 1, 2121501834213576595, n, 0⟩
def ed0 : List Ed := [([tm0 2 0], tm0 3 0), ([tm0 2 0], tm0 4 0), ([tm0 4 0], tm0 5 1), ([tm0 2 0], tm0 7 0)]
def kR : KF := ⟨9, [.rsl 3918 0 4, .rsl 3586 0 1], [3586, 3909, 3916, 3903, 3895, 3918], [(3586, some ⟨38, cellsT [tm0 2 0], none⟩),
  (3909, some ⟨38, cellsT [tm0 2 0], none⟩),
  (3916, some ⟨38, cellsT [tm0 4 0], none⟩),
  (3903, some ⟨38, cellsT [tm0 2 0], none⟩),
  (3895, some ⟨38, cellsT [tm0 2 0], none⟩),
  (3918, some ⟨49, [.rsl 3895 0 1, ti 3, ti 1, ti 1, tu 2121501834213576595, ti 0, ti 0, .rsl 3903 0 1, ti 4, ti 1, ti 1, tu 2121501834213576595, ti 0, ti 0, .rsl 3916 0 1, ti 5, ti 1, ti 1, tu 2121501834213576595, ti 1, ti 0, .rsl 3909 0 1, ti 7, ti 1, ti 1, tu 2121501834213576595, ti 0, ti 0], none⟩)], 4062, .rsl 4062 0 5, [(4062, some ⟨38, cellsT [tm0 2 0, tm0 3 0, tm0 4 0, tm0 5 1, tm0 7 0], none⟩)], 4063⟩
theorem reach0 : reachA ltB ed0 [tm0 2 0] = [tm0 2 0, tm0 3 0, tm0 4 0, tm0 5 1, tm0 7 0] := by decide
theorem kR_ok : KfOk Tryz.prog glc kR := by
  have hF := reach_fnR sortsT glc ed0 [tm0 2 0] ⟨by decide, by decide, by decide⟩
  rw [reach0] at hF
  refine kfSem_row (gs' := [rowE ed0, rowT [tm0 2 0]]) (by kernel_rfl) hF (fun g hg => ?_) rfl ?_ ?_
  · rw [← cellsT_lits] at hg
    unfold litsOf at hg
    obtain ⟨v, _, rfl⟩ := List.mem_map.1 hg
    exact ⟨v, rfl⟩
  · intro st hst i g g' h1 h2
    have s1 : sget st.σ 3586 = some ⟨38, cellsT [tm0 2 0], none⟩ := (hst 3586 (by decide)).trans rfl
    have s2 : sget st.σ 3909 = some ⟨38, cellsT [tm0 2 0], none⟩ := (hst 3909 (by decide)).trans rfl
    have s3 : sget st.σ 3916 = some ⟨38, cellsT [tm0 4 0], none⟩ := (hst 3916 (by decide)).trans rfl
    have s4 : sget st.σ 3903 = some ⟨38, cellsT [tm0 2 0], none⟩ := (hst 3903 (by decide)).trans rfl
    have s5 : sget st.σ 3895 = some ⟨38, cellsT [tm0 2 0], none⟩ := (hst 3895 (by decide)).trans rfl
    have one : ∀ (q : Nat) (m : Tm), sget st.σ q = some ⟨38, cellsT [m], none⟩ → Frz Tryz.prog st (.rsl q 0 1) (.sl (cellsT [m]) 1) := fun q m hq =>
      frz_row (s := 6) hq (by kernel_rfl) rfl rfl (fun j g g' h1 h2 => by rw [h1] at h2; cases h2; exact frz_imm (cellsT_imm _ _ (List.mem_of_getElem? h1)))
    match i, h1, h2 with
    | 0, h1, h2 =>
      cases h1; cases h2
      refine frz_row (s := 7) (hst 3918 (by decide)) (by kernel_rfl) rfl rfl ?_
      repeat' (first | exact frzl_nil | refine frzl_cons ?_ ?_)
      all_goals (first | exact frz_imm (imm_lit _) | exact one _ _ s2 | exact one _ _ s3 | exact one _ _ s4 | exact one _ _ s5)
    | 1, h1, h2 => cases h1; cases h2; exact one _ _ s1
    | n + 2, h1, h2 => simp [kR] at h1
  · intro i hi st hst
    have := congrArg (fun σ => sget σ i) hst
    have this : sget ([3586, 3909, 3916, 3903, 3895, 3918].map fun i => (i, sget st.σ i)) i = _ := this
    rw [sget_map, if_pos (show i ∈ [3586, 3909, 3916, 3903, 3895, 3918] from hi)] at this
    exact this
noncomputable def Ec : XEnv := { xenvK pfc tpc glc [c20, c18, c17, c16, c15, c14, c13, c11, c10, c7, c5, c4, c3, c1] [kR, c21, c19, c12, c9, c8, c6, c2, c0] with pc := pcT }
theorem Ec_ok : KcOk Tryz.prog Ec := (xenvK_ok (by simp [c20_ok, c18_ok, c17_ok, c16_ok, c15_ok, c14_ok, c13_ok, c11_ok, c10_ok, c7_ok, c5_ok, c4_ok, c3_ok, c1_ok]) (by simp [kR_ok, c21_ok, c19_ok, c12_ok, c9_ok, c8_ok, c6_ok, c2_ok, c0_ok]) : KcOk Tryz.prog (xenvK pfc tpc glc [c20, c18, c17, c16, c15, c14, c13, c11, c10, c7, c5, c4, c3, c1] [kR, c21, c19, c12, c9, c8, c6, c2, c0]))
def isT (r : Option G) : Bool := match r with
  | some (.lit (.bool true)) => true
  | _ => false
theorem isT_spec {r : Option G} (h : isT r = true) : r = some (.lit (.bool true)) := by
  unfold isT at h
  split at h
  · rfl
  · cases h
theorem lives_run : isT (xpureR Tryz.prog Ec (xcode Tryz.prog Ec 100000) 12 [] glc) = true := by kernel_rfl
/-- The document's example lives. -/
theorem lives_fn : Fn' Tryz.prog glc 12 [] (.lit (.bool true)) := (xpureR_ok (xcode_ok mixed tpc_ok Ec_ok 100000).toRunOk tpc_ok _ _ _ _ (isT_spec lives_run)).1
end Go.Proofs.YtjbbgjbknfoddaaGreatDoor
