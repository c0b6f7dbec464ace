/- TreeOwn, walked: it answers true, and changes nothing that was there. -/
import Derived.Test.YtappaadadkoamaaTLawNames
namespace Go.Proofs.Ytappaadadkoamaa
open Go.RowKit
set_option linter.unusedVariables false

/-- u is a slice of n cells, each of which holds some int, in rows of ints from B on. -/
def ShapeT (w : World) (B : Nat) (u : Value) (n : Nat) : Prop :=
  ∃ a c, u = .slice a n c ∧ n ≤ 9223372036854775807 ∧ ∀ k, k < n → ∃ g o z, a = some ⟨g, o, none⟩ ∧ B ≤ g ∧ IntRow w g ∧ w.cell? ⟨g, o + k, none⟩ = some (.int .i64 z)
theorem ShapeT.of {w : World} {B hi : Nat} {u : Value} {l : List Int} (h : IntsT w B hi u l) : ShapeT w B u l.length := by
  obtain ⟨a, c, rfl, h1, h2⟩ := h.form
  refine ⟨a, c, rfl, Nat.le_trans h1 h2, fun k hk => ?_⟩
  obtain ⟨z, hz⟩ : ∃ z, l[k]? = some z := ⟨_, List.getElem?_eq_getElem hk⟩
  obtain ⟨g, o, rfl, hc⟩ := ints_cell h hz
  obtain ⟨⟨a', cap', he, _, _, _, h5, _⟩, hr⟩ := h
  simp at he
  obtain ⟨rfl, rfl⟩ := he
  exact ⟨g, o, z, rfl, (h5 _ rfl).1, hr g rfl, hc⟩
theorem IntRow.setCell {w : World} {b g i : Nat} {v : Value} (h : IntRow w b) : IntRow (w.setCell ⟨g, i, none⟩ v) b := by
  obtain ⟨cur, h⟩ := h
  by_cases e : b = g
  · subst e
    exact ⟨_, heap_setCell_same w b i cur _ v h⟩
  · exact ⟨cur, (heap_setCell_other w ⟨g, i, none⟩ b v e).trans h⟩
theorem ShapeT.setCell {w : World} {B n : Nat} {u : Value} {g i : Nat} {z : Int} (h : ShapeT w B u n) : ShapeT (w.setCell ⟨g, i, none⟩ (.int .i64 z)) B u n := by
  obtain ⟨a, c, rfl, h1, h2⟩ := h
  refine ⟨a, c, rfl, h1, fun k hk => ?_⟩
  obtain ⟨g', o, y, rfl, h3, h4, h5⟩ := h2 k hk
  by_cases e : (⟨g, i, none⟩ : Addr) = ⟨g', o + k, none⟩
  · exact ⟨g', o, z, rfl, h3, h4.setCell, by rw [e]; exact World.cell?_setCell_same w _ _ h5⟩
  · exact ⟨g', o, y, rfl, h3, h4.setCell, (World.cell?_setCell_other w _ _ _ e).trans h5⟩

/-- The worlds of the two loops that write. -/
structure WrW (w0 : World) (B : Nat) (v : Value) (us : List Value) (ns : List Nat) (w : World) : Prop where
  own : w.ownsRow B 22 1 v ns.length us
  sh : ∀ (i : Nat) (u : Value) (n : Nat), us[i]? = some u → ns[i]? = some n → ShapeT w B u n
  keep : Keeps (fun b => B ≤ b) w0 w
theorem WrW.start {w : World} {B : Nat} {v : Value} {ls : List (List Int)} (h : OwnT w B B v ls) : ∃ us, WrW w B v us (ls.map List.length) w := by
  obtain ⟨us, ho, he⟩ := h
  refine ⟨us, by rw [List.length_map]; exact ho, fun i u n hu hn => ?_, Keeps.refl _ _⟩
  rw [List.getElem?_map] at hn
  obtain ⟨l, hl, rfl⟩ := Option.map_eq_some_iff.1 hn
  exact ShapeT.of (he.2 i u l hu hl)
theorem WrW.setCell {w0 w : World} {B : Nat} {v : Value} {us : List Value} {ns : List Nat} (h : WrW w0 B v us ns w) {g i : Nat} (hg : B ≤ g) (hr : IntRow w g) (z : Int) : WrW w0 B v us ns (w.setCell ⟨g, i, none⟩ (.int .i64 z)) :=
  ⟨ownsRow_keeps h.own ((Keeps.refl (fun b => b = g) w).setCell (p := ⟨g, i, none⟩) (fun _ => rfl) _) (fun b hb e => intRow_ne_own h.own hr (by rw [hb, e])),
    fun i u n hu hn => (h.sh i u n hu hn).setCell, h.keep.setCell (p := ⟨g, i, none⟩) (fun _ => hg) _⟩
theorem WrW.row {w0 w : World} {B : Nat} {a : Option Addr} {n c : Nat} {us : List Value} {ns : List Nat} (h : WrW w0 B (.slice a n c) us ns w) {i m : Nat} (hi : ns[i]? = some m) :
    ∃ g o x xc, a = some ⟨g, o, none⟩ ∧ w.cell? ⟨g, o + i, none⟩ = some (.slice x m xc) ∧ ShapeT w B (.slice x m xc) m := by
  have hlt := (List.getElem?_eq_some_iff.1 hi).1
  have hul := h.own.1
  obtain ⟨u, hu⟩ : ∃ u, us[i]? = some u := ⟨_, List.getElem?_eq_getElem (by omega)⟩
  have hs := h.sh i u m hu hi
  obtain ⟨x, xc, rfl, _⟩ := id hs
  rcases h.own.2 with ⟨_, h0⟩ | ⟨g, cap, cur, hv, _⟩
  · omega
  · simp at hv
    obtain ⟨rfl, _, rfl⟩ := hv
    have hc := h.own.cells (g := g) rfl i _ hu
    rw [addr_add] at hc
    exact ⟨g, 0, x, xc, rfl, hc, hs⟩
def OwRel (w0 : World) (B : Nat) (v : Value) (us : List Value) (ns : List Nat) (n : Nat) (i : Value) (wr : World) : Prop := ∃ j : Nat, j ≤ n ∧ i = .int .i64 j ∧ WrW w0 B v us ns wr

set_option maxRecDepth 100000 in
set_option maxHeartbeats 4000000 in
theorem treeown_walk (w : World) (v : Value) (l : List Int) (which : Int) (h : ArgInts w v l) (hwf2 : (Lit.int .i64 which).wf = true) :
    Calls Try.prog 10 #[v, .int .i64 which] w fun e w' => e = .returned (.bool true) ∧ Below w.heap.size w w' := by
  obtain ⟨i0, hi0, hz0, hz1, hz2⟩ := info_parts intsInfo3
  have Gz0 := Lib.hid hz0
  have Gz1 := Lib.hid hz1
  have Gz2 := Lib.hid hz2
  have Gi0 := Lib.hid hi0
  have H := Lib.hid h
  have HW2 := Lib.hid hwf2
  clear h hz0 hz1 hz2 hi0 hwf2
  go_enter Try.func10, Try.ntmps10
  go_wp2_with fail
  refine (leaves_any w v l H.out).mono ?_
  rintro e w1 ⟨vl, rfl, hI, hB⟩
  have HI1 := Lib.hid hI
  have HB1 := Lib.hid hB
  clear hI hB
  go_wp2_with fail
  refine (leaves_any w1 v l (H.out.below HB1.out)).mono ?_
  rintro e w2 ⟨vo, rfl, hI, hB⟩
  have HO2 := Lib.hid hI
  have HB2 := Lib.hid hB
  have HI2 := Lib.hid (HI1.out.below hB)
  clear hI hB HI1
  obtain ⟨zs, hzs⟩ : ∃ zs, zs = leavesOf l := ⟨_, rfl⟩
  have hz14 : zs.length ≤ 14 := by rw [hzs]; exact leavesOf_len l
  rw [← hzs] at HI2 HO2
  clear hzs
  have HBW : Hid (Below w.heap.size w w2) := Lib.hid (HB1.out.trans (HB2.out.mono HB1.out.size))
  have HL : Hid (w.heap.size ≤ w1.heap.size ∧ w1.heap.size ≤ w2.heap.size) := Lib.hid ⟨HB1.out.size, HB2.out.size⟩
  obtain ⟨la, lc, rfl, _, _⟩ := HI2.out.form
  obtain ⟨oa, oc, rfl, ho1, ho2⟩ := HO2.out.form
  clear HB1 HB2 H
  go_wp2_with fail
  refine (kids_any w2 _ _ (.slice oa zs.length oc) zs HO2.out (by omega)).mono ?_
  rintro e w3 ⟨ka, kb, rfl, q1, q2, hB⟩
  have HQ1 := Lib.hid q1
  have HQ2 := Lib.hid q2
  have HB3 := Lib.hid hB
  obtain ⟨ka1, ka2, rfl, _, _⟩ := q1.form
  obtain ⟨kb1, kb2, rfl, _, _⟩ := q2.form
  clear q1 q2 hB
  obtain ⟨K1, hK1⟩ : ∃ K1, K1 = (kidsOf zs).1 := ⟨_, rfl⟩
  obtain ⟨K2, hK2⟩ : ∃ K2, K2 = (kidsOf zs).2 := ⟨_, rfl⟩
  rw [← hK1] at HQ1 ⊢
  rw [← hK2] at HQ2 ⊢
  clear hK1 hK2
  go_wp2_with fail
  refine (sets_any w3 _ _ (.slice oa zs.length oc) zs (HO2.out.below HB3.out) (by omega)).mono ?_
  rintro e w4 ⟨va, rfl, hT, hB⟩
  obtain ⟨us, hown, hE⟩ := hT
  obtain ⟨va1, va2, rfl⟩ := own_form hown
  have HOs := Lib.hid (ownsRow_mono hown HB3.out.size)
  have HEs := Lib.hid (each_lo hE HB3.out.size)
  have HB4 := Lib.hid (HB3.out.trans (hB.mono HB3.out.size))
  have HEn : Hid (Each w4 w2.heap.size w4.heap.size [.slice ka1 K1.length ka2, .slice kb1 K2.length kb2] [K1, K2]) := Lib.hid ((Each.single ((HQ1.out.below hB).mono (Nat.le_refl _) hB.size)).append (Each.single ((HQ2.out.below hB).mono (Nat.le_refl _) hB.size)))
  obtain ⟨S, hS⟩ : ∃ S, S = setsOf zs := ⟨_, rfl⟩
  have HSl : Hid (S.length ≤ 28) := Lib.hid (by rw [hS]; have := setsF_len 16 zs; unfold setsOf; omega)
  rw [← hS] at HOs HEs ⊢
  clear hown hE hB HQ1 HQ2 hS
  -- the tail
  have HXE : ∀ o, Each (w4.alloc o) w2.heap.size (w4.alloc o).heap.size us S ∧ Each (w4.alloc o) w2.heap.size (w4.alloc o).heap.size [.slice ka1 K1.length ka2, .slice kb1 K2.length kb2] [K1, K2] := fun o => by
    have hK := (Keeps.refl (fun _ => False) w4).alloc o
    exact ⟨(HEs.out.keepsOwn hK (fun _ _ x => x)).mono (Nat.le_refl _) hK.size, (HEn.out.keepsOwn hK (fun _ _ x => x)).mono (Nat.le_refl _) hK.size⟩
  have HX := Lib.hid HXE
  clear HXE HEs HEn
  obtain ⟨nn, hnn⟩ : ∃ nn, nn = (around which zs.length).toNat := ⟨_, rfl⟩
  have HNN := Lib.hid hnn
  clear hnn
  by_cases h0 : zs.length = 0
  focus
    have hd0 : decide ((0 : Int) < (zs.length : Int)) = false := decide_eq_false (by omega)
    have hp0 : ¬ (0 : Int) < (zs.length : Int) := by omega
    clear h0
    go_wp2_with (first | (at_builtin; (refine wpL_append rfl (.tmp 23) (.tmp 26) 24 rfl w2.heap.size 22 i0 (.slice none 0 0) 1 24 Try.underlying24 Gi0.out Gz0.out Gz1.out Gz2.out rfl Nat.one_pos (.slice va1 S.length va2) S.length us rfl (HOs.out.alloc _) ⟨w4.heap.size, 0, none⟩ 2 2 [.slice ka1 K1.length ka2, .slice kb1 K2.length kb2] rfl rfl (fun j x hx => cell_add (Blk.new w4 22 [.slice ka1 K1.length ka2, .slice kb1 K2.length kb2]) hx) (by simp [Value.oneCell']) (Nat.succ_pos 1) (by have := HSl.out; unfold maxLen; omega) (by have := HSl.out; omega) (by have := HB4.out.size; simp; omega) ?_); intro v5 w5 hown hg hv; have HT5 := Lib.hid (OwnT.push (HOs.out.alloc _) (HX.out _).1 (HX.out _).2 hown rfl hg); have HB5 : Hid (Below w2.heap.size w2 w5) := Lib.hid ((HB4.out.alloc HB4.out.size _).grown hg (by have := HB4.out.size; simp; omega) (fun b hb => (HOs.out.lt b hb).1)); have HAl : Hid ((S ++ [K1, K2]).length ≤ 30) := Lib.hid (by have := HSl.out; simp; omega); clear hown hg hv))

    clear hd0 hp0
    obtain ⟨W, rfl⟩ : ∃ W, W = w5 := ⟨_, rfl⟩
    have HT := HT5
    have HBF := HB5
    obtain ⟨A, hA⟩ : ∃ A, A = S ++ [K1, K2] := ⟨_, rfl⟩
    rw [← hA] at HT HAl
    have hAl : A.length ≤ 62 := by have := HAl.out; omega
    obtain ⟨xa, xc, rfl⟩ : ∃ xa xc, v5 = .slice xa A.length xc := own_form HT.out.choose_spec.1
    clear HAl HB5 HT5 HB4 HX HOs hA HNN HSl
  rotate_left
  focus
    have hd0 : decide ((0 : Int) < (zs.length : Int)) = true := decide_eq_true (by omega)
    have hp0 : (0 : Int) < (zs.length : Int) := by omega
    have hne := around_lo which zs.length (by omega)
    have hlt := around_hi which zs.length (by omega)
    have hnI : around which zs.length = (nn : Int) := by have := HNN.out; omega
    have hnl : nn < zs.length := by omega
    have HAn : Hid (∀ W, Calls Try.prog 19 #[.int .i64 which, .int .i64 zs.length] W fun e w' => e = .returned (.int .i64 nn) ∧ W = w') := Lib.hid (fun W => by rw [← hnI]; exact around_any which zs.length W HW2.out (by omega) (by omega))
    obtain ⟨z, hz⟩ : ∃ z, zs[nn]? = some z := ⟨_, List.getElem?_eq_getElem hnl⟩
    obtain ⟨gz, oz, rfl, cz⟩ := ints_cell HO2.out hz
    have HCz : Hid (∀ W, Below w2.heap.size w2 W → W.cell? ⟨gz, oz + nn, none⟩ = some (.int .i64 z)) := Lib.hid (fun W hW => (hW.cell (p := ⟨gz, oz + nn, none⟩) (World.block_lt_of_cell? _ _ cz)).trans cz)
    have hn0 : (0 : Int) ≤ (nn : Int) := by omega
    have hn1 : (nn : Int) < (zs.length : Int) := by omega
    have hn2 : (nn : Int).toNat = nn := by omega
    clear hne hlt hnI HNN hz cz
    have HPl : Hid ((pathOf zs z).length ≤ 16) := Lib.hid (by unfold pathOf; rw [List.length_reverse]; exact (downOf_len zs z).1)
    have HBl : Hid ((besideOf zs z).length ≤ 16) := Lib.hid (by unfold besideOf; rw [List.length_reverse]; exact (downOf_len zs z).2)
    obtain ⟨P0, hP0⟩ : ∃ P0, P0 = pathOf zs z := ⟨_, rfl⟩
    obtain ⟨P1, hP1⟩ : ∃ P1, P1 = besideOf zs z := ⟨_, rfl⟩
    rw [← hP0] at HPl
    rw [← hP1] at HBl
    have HPN := Lib.hid (fun W h => by have := path_news W w1.heap.size w2.heap.size (.slice (some ⟨gz, oz, none⟩) zs.length oc) zs z h; rw [← hP0] at this; exact this)
    have HBN := Lib.hid (fun W h => by have := beside_news W w1.heap.size w2.heap.size (.slice (some ⟨gz, oz, none⟩) zs.length oc) zs z h; rw [← hP1] at this; exact this)
    clear hP0 hP1
    go_wp2_with (first | (at_builtin; (refine wpL_append rfl (.tmp 23) (.tmp 26) 24 rfl w2.heap.size 22 i0 (.slice none 0 0) 1 24 Try.underlying24 Gi0.out Gz0.out Gz1.out Gz2.out rfl Nat.one_pos (.slice va1 S.length va2) S.length us rfl (HOs.out.alloc _) ⟨w4.heap.size, 0, none⟩ 2 2 [.slice ka1 K1.length ka2, .slice kb1 K2.length kb2] rfl rfl (fun j x hx => cell_add (Blk.new w4 22 [.slice ka1 K1.length ka2, .slice kb1 K2.length kb2]) hx) (by simp [Value.oneCell']) (Nat.succ_pos 1) (by have := HSl.out; unfold maxLen; omega) (by have := HSl.out; omega) (by have := HB4.out.size; simp; omega) ?_); intro v5 w5 hown hg hv; have HT5 := Lib.hid (OwnT.push (HOs.out.alloc _) (HX.out _).1 (HX.out _).2 hown rfl hg); have HB5 : Hid (Below w2.heap.size w2 w5) := Lib.hid ((HB4.out.alloc HB4.out.size _).grown hg (by have := HB4.out.size; simp; omega) (fun b hb => (HOs.out.lt b hb).1)); have HAl : Hid ((S ++ [K1, K2]).length ≤ 30) := Lib.hid (by have := HSl.out; simp; omega); clear hown hg hv; have hz5 := HCz.out w5 HB5.out; obtain ⟨u5, own5, E5⟩ := HT5.out; obtain ⟨A, hA⟩ : ∃ A, A = S ++ [K1, K2] := ⟨_, rfl⟩; rw [← hA] at own5 E5 HAl; obtain ⟨b5, c5, hvv⟩ := own_form own5; subst hvv; have HO5 := Lib.hid own5; have HE5 := Lib.hid E5; clear HT5 own5 E5 hA) | (go_at_call 19; refine (HAn.out _).mono ?_; rintro e w' ⟨rfl, rfl⟩))

    refine (HPN.out w5 (HO2.out.below HB5.out) HB5.out.size (by omega)).mono ?_
    rintro e w6 ⟨pa, pc, up, rfl, q1, q2, q3, q4, hB⟩
    have HQ1 := Lib.hid q1
    have HQ2 := Lib.hid q2
    have HQ3 := Lib.hid q3
    have HOP := Lib.hid (ownsRow_keeps HO5.out (Keeps.below hB) (fun b hb x => by have := (HO5.out.lt b hb).2; omega))
    have HEP := Lib.hid ((HE5.out.keepsOwn (Keeps.below hB) (fun b hb x => by have := hb.lt; omega)).mono (Nat.le_refl _) hB.size)
    have HEQ := Lib.hid (each_lo q4 HB5.out.size)
    have HB6 := Lib.hid (HB5.out.trans (hB.mono HB5.out.size))
    clear q1 q2 q3 q4 hB HO5 HE5 HB5 hz5
    go_wp2_with (first | (at_builtin; (refine wpL_appendV rfl (.tmp 38) (.tmp 41) 24 rfl w2.heap.size 22 i0 (.slice none 0 0) 1 24 Try.underlying24 Gi0.out Gz0.out Gz1.out Gz2.out rfl Nat.one_pos (.slice b5 A.length c5) A.length u5 rfl HOP.out pa P0.length pc up rfl HQ1.out HQ2.out HQ3.out (by have := HAl.out; have := HPl.out; unfold maxLen; omega) (by have := HAl.out; have := HPl.out; omega) HB6.out.size ?_); intro v7 w7 hown hg hv; have HT7 : Hid (OwnT w7 w2.heap.size w2.heap.size v7 (A ++ P0)) := Lib.hid (OwnT.push HOP.out HEP.out HEQ.out hown rfl hg); have HB7 : Hid (Below w2.heap.size w2 w7) := Lib.hid (HB6.out.grown hg HB6.out.size (fun b hb => (HOP.out.lt b hb).1)); have HAm : Hid ((A ++ P0).length ≤ 46) := Lib.hid (by have := HAl.out; have := HPl.out; simp; omega); clear hown hg hv HOP HEP HEQ HQ1 HQ2 HQ3 HB6 HAl HPl; have hz7 := HCz.out w7 HB7.out; obtain ⟨u7, own7, E7⟩ := HT7.out; obtain ⟨C, hC⟩ : ∃ C, C = A ++ P0 := ⟨_, rfl⟩; rw [← hC] at own7 E7 HAm; obtain ⟨b7, c7, hvv⟩ := own_form own7; subst hvv; have HO7 := Lib.hid own7; have HE7 := Lib.hid E7; clear HT7 own7 E7 hC))
    refine (HBN.out w7 (HO2.out.below HB7.out) HB7.out.size (by omega)).mono ?_
    rintro e w8 ⟨qa, qc, uq, rfl, q1, q2, q3, q4, hB⟩
    have HQ1 := Lib.hid q1
    have HQ2 := Lib.hid q2
    have HQ3 := Lib.hid q3
    have HOP := Lib.hid (ownsRow_keeps HO7.out (Keeps.below hB) (fun b hb x => by have := (HO7.out.lt b hb).2; omega))
    have HEP := Lib.hid ((HE7.out.keepsOwn (Keeps.below hB) (fun b hb x => by have := hb.lt; omega)).mono (Nat.le_refl _) hB.size)
    have HEQ := Lib.hid (each_lo q4 HB7.out.size)
    have HB8 := Lib.hid (HB7.out.trans (hB.mono HB7.out.size))
    clear q1 q2 q3 q4 hB HO7 HE7 HB7 hz7
    go_wp2_with (first | (at_builtin; (refine wpL_appendV rfl (.tmp 43) (.tmp 46) 24 rfl w2.heap.size 22 i0 (.slice none 0 0) 1 24 Try.underlying24 Gi0.out Gz0.out Gz1.out Gz2.out rfl Nat.one_pos (.slice b7 C.length c7) C.length u7 rfl HOP.out qa P1.length qc uq rfl HQ1.out HQ2.out HQ3.out (by have := HAm.out; have := HBl.out; unfold maxLen; omega) (by have := HAm.out; have := HBl.out; omega) HB8.out.size ?_); intro v9 W hown hg hv; have HT9 : Hid (OwnT W w2.heap.size w2.heap.size v9 (C ++ P1)) := Lib.hid (OwnT.push HOP.out HEP.out HEQ.out hown rfl hg); have HBF : Hid (Below w2.heap.size w2 W) := Lib.hid (HB8.out.grown hg HB8.out.size (fun b hb => (HOP.out.lt b hb).1)); have hAl : (C ++ P1).length ≤ 62 := (by have := HAm.out; have := HBl.out; simp; omega); clear hown hg hv HOP HEP HEQ HQ1 HQ2 HQ3 HB8 HAm HBl; obtain ⟨A, hA⟩ : ∃ A, A = C ++ P1 := ⟨_, rfl⟩; rw [← hA] at HT9 hAl; clear hA; obtain ⟨xa, xc, hvv⟩ : ∃ xa xc, v9 = .slice xa A.length xc := own_form HT9.out.choose_spec.1; subst hvv; have HT := HT9; clear HT9))
    clear hd0 hp0 hn0 hn1 hn2 hnl HAn HCz HPN HBN HX HOs HB4 HSl
  all_goals
    have hn : (A.map List.length).length = A.length := List.length_map ..
    obtain ⟨us', hS⟩ := WrW.start HT.out
    obtain ⟨ns, hns⟩ : ∃ ns, ns = A.map List.length := ⟨_, rfl⟩
    rw [← hns] at hn hS
    have HS := Lib.hid hS
    clear hns hS HT
    go_loopw [11] (OwRel W w2.heap.size (.slice xa A.length xc) us' ns A.length) (fun i _ => A.length - (intOf i).toNat)
    case atStart => exact ⟨0, Nat.zero_le _, rfl, HS.out⟩
    case round =>
      obtain ⟨j, hjl, rfl, hR⟩ := hrel
      have HR := Lib.hid hR
      clear hR
      by_cases hlt : j < A.length
      · obtain ⟨m, hm⟩ : ∃ m, ns[j]? = some m := ⟨_, List.getElem?_eq_getElem (by omega)⟩
        obtain ⟨g, o, x0, xc0, rfl, _, _⟩ := HR.out.row hm
        have hj0 : (0 : Int) ≤ (j : Int) := by omega
        have hj1 : (j : Int) < (A.length : Int) := by omega
        have hj2 : (j : Int).toNat = j := by omega
        have hdec : decide ((j : Int) < (A.length : Int)) = true := decide_eq_true hj1
        go_wp2
        go_loopw [12] (OwRel W w2.heap.size (.slice (some ⟨g, o, none⟩) A.length xc) us' ns m) (fun k _ => m - (intOf k).toNat)
        case atStart => exact ⟨0, Nat.zero_le _, rfl, HR.out⟩
        case round =>
          obtain ⟨k, hkl, rfl, hR⟩ := hrel
          have HR := Lib.hid hR
          clear hR
          obtain ⟨g1, o1, x, xc1, he, hc, hs⟩ := HR.out.row hm
          simp only [Option.some.injEq, Addr.mk.injEq, and_true] at he
          obtain ⟨rfl, rfl⟩ := he
          obtain ⟨_, _, hv, hm63, hs2⟩ := id hs
          simp only [Value.slice.injEq, true_and] at hv
          obtain ⟨rfl, rfl⟩ := hv
          by_cases hkm : k < m
          · obtain ⟨gx, ox, y, rfl, hgB, hgr, hy⟩ := hs2 k hkm
            have hfr : wr.frozen? ⟨gx, ox + k, none⟩ = false := by
              obtain ⟨cur, hcur⟩ := hgr
              exact frozen_of_row wr gx _ _ _ hcur
            have HR2 := Lib.hid (HR.out.setCell (i := ox + k) hgB hgr 77)
            have hk0 : (0 : Int) ≤ (k : Int) := by omega
            have hk1 : (k : Int) < (m : Int) := by omega
            have hk2 : (k : Int).toNat = k := by omega
            have hdec2 : decide ((k : Int) < (m : Int)) = true := decide_eq_true hk1
            clear hs hs2 hgr hgB HR
            go_wp2
            go_roundw
            case rel => exact ⟨k + 1, hkm, rfl, HR2.out⟩
            case measure => simp [intOf]; omega
          · obtain rfl : k = m := by omega
            have hdec2 : decide ((k : Int) < (k : Int)) = false := decide_eq_false (by omega)
            clear hs hs2
            go_wp2
            go_roundw
            case rel => exact ⟨j + 1, hlt, rfl, HR.out⟩
            case measure => simp [intOf]; omega
      · obtain rfl : j = A.length := by omega
        have hdec : decide ((A.length : Int) < (A.length : Int)) = false := decide_eq_false (by omega)
        have HBX : Hid (Below w2.heap.size w2 wr) := Lib.hid (HBF.out.trans ((HR.out.keep.toBelow HBF.out.size (fun k hk h => by omega)).mono (Nat.le_refl _)))
        have HIx := Lib.hid (HI2.out.below HBX.out)
        have HOx := Lib.hid (HO2.out.below HBX.out)
        clear HS HR HBF
        go_wp2_with fail
        have hsm := same_any wr _ _ _ _ _ _ zs zs HOx.out.1 HIx.out.1
        rw [decide_eq_true rfl] at hsm
        refine hsm.mono ?_
        clear hsm
        rintro e w20 ⟨rfl, q, hq⟩
        have HB20 : Hid (Below w2.heap.size w2 w20) := Lib.hid (by rw [hq]; exact HBX.out.trans (((Keeps.refl (fun _ => False) wr).drewN _).toBelow HBX.out.size (fun _ _ x => x)))
        clear hq HIx HOx HBX
        go_wp2_with fail
        refine (sets_any w20 _ _ _ zs (HO2.out.below HB20.out) (by omega)).mono ?_
        rintro e w21 ⟨va, rfl, hT, hB⟩
        have HT21 := Lib.hid hT
        have HB21 := Lib.hid hB
        have HBB21 := Lib.hid (HB20.out.trans (hB.mono HB20.out.size))
        clear hT hB
        go_wp2_with fail
        refine (rsets_any 15 w21 w.heap.size w1.heap.size (.slice la zs.length lc) zs (by omega) (by omega) (HI2.out.below HBB21.out) (Nat.le_trans HL.out.2 HBB21.out.size) (Nat.le_trans (Nat.le_trans HL.out.1 HL.out.2) HBB21.out.size)).mono ?_
        rintro e w22 ⟨vr, rfl, hT, hB⟩
        have HT22 := Lib.hid hT
        have HB22 := Lib.hid hB
        have HBB22 := Lib.hid (HBB21.out.trans (hB.mono HBB21.out.size))
        clear hT hB
        obtain ⟨S', hS'⟩ : ∃ S', S' = setsOf zs := ⟨_, rfl⟩
        have hS2 : setsF (15 + 1) zs = S' := hS'.symm
        rw [← hS'] at HT21
        rw [hS2] at HT22
        clear hS' hS2
        have HR1 : Hid (RowsT w22 w20.heap.size w22.heap.size va S') := Lib.hid (((OwnT.rows HT21.out (Nat.le_refl _)).below HB22.out).mono (Nat.le_refl _) HB22.out.size)
        have HR2 : Hid (RowsT w22 w.heap.size w22.heap.size vr S') := Lib.hid (OwnT.rows HT22.out (Nat.le_trans (Nat.le_trans HL.out.1 HL.out.2) HBB21.out.size))
        clear HT21 HT22 HB22 HB21 HBB21 HB20
        go_wp2_with fail
        refine (same2_any w22 _ _ _ _ va vr S' S' HR1.out HR2.out).mono ?_
        rw [show decide (S' = S') = true from decide_eq_true rfl]
        rintro e w23 ⟨rfl, hB⟩
        have HB23 := Lib.hid (HBB22.out.trans (hB.mono HBB22.out.size))
        clear hB HR1 HR2 HBB22
        go_wp2_with (go_at_call 18; refine (lives_any w23).mono ?_; rintro e w9 ⟨rfl, hB9⟩; have HB9 := Lib.hid hB9; clear hB9)
        go_ret
        have hmm := HBW.out.trans (HB23.out.mono HBW.out.size)
        exact ⟨rfl, hmm.trans (HB9.out.mono hmm.size)⟩
end Go.Proofs.Ytappaadadkoamaa
