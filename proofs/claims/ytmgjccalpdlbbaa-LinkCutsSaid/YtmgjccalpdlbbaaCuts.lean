/- LinkCuts, walked: it answers true, and changes nothing that was there. -/
import Derived.Test.YtmgjccalpdlbbaaPlays
namespace Go.Proofs.Ytmgjccalpdlbbaa
open Go.RowKit
set_option linter.unusedVariables false

/-- The link of this statement. -/
def cuFlt (f t : Int) (ds : List Int) : List Flt := [{ dk := 3, fr := f, til := t, each := 0, set := fun d => decide (d ∈ ds), count := 0 }]
theorem cu_new (f t : Int) (ds : List Int) : newOf [⟨3, f, t, 0, ds⟩] = cuFlt f t ds := by
  unfold newOf cuFlt
  simp [toFlt]
theorem cu_quiet (f t : Int) (ds : List Int) (ht : 0 ≤ t) : lquietOf (cuFlt f t ds) = t := by
  simp [lquietOf, cuFlt]; omega
theorem cu_in (f t r d : Int) (ds : List Int) (h : f ≤ r ∧ r < t) : lmetOf (cuFlt f t ds) r d = !decide (d ∈ ds) := by
  simp [lmetOf, cuFlt, lcuts, Flt.there, h]
theorem cu_out (f t r d : Int) (ds : List Int) (h : ¬ (f ≤ r ∧ r < t)) : lmetOf (cuFlt f t ds) r d = true := by
  simp only [lmetOf, cuFlt, lcuts, Flt.there, List.any_cons, List.any_nil, decide_eq_false h]
  simp

theorem cu_met (W : World) (lo hi : Nat) (pbs : List Nat) (f t r d : Int) (ds : List Int) (b : Bool) (h : LinkAt W lo hi lo pbs (cuFlt f t ds)) (hd : (Lit.int .i64 d).wf = true) (hb : lmetOf (cuFlt f t ds) r d = b) :
    Calls Try.prog 16 #[.pointer (some ⟨lo, 0, none⟩), .int .i64 r, .int .i64 d] W fun e w' => e = .returned (.bool b) ∧ W = w' := by
  have := lmet_any W _ _ _ pbs _ r d h hd
  rwa [hb] at this

theorem own_some {w : World} {base : Nat} {e : TypeId} {size : Nat} {v : Value} {n : Nat} {xs : List Value} (h : w.ownsRow base e size v n xs) (hn : 0 < n) : ∃ g c, v = .slice (some ⟨g, 0, none⟩) n c := by
  rcases h.2 with ⟨rfl, rfl⟩ | ⟨g, cap, cur, rfl, _, hg, _⟩
  · omega
  · exact ⟨_, _, rfl⟩

theorem own_cell0 {w : World} {base : Nat} {e : TypeId} {g n c : Nat} {xs : List Value} (h : w.ownsRow base e 1 (.slice (some ⟨g, 0, none⟩) n c) n xs) {u : Value} (hu : xs[0]? = some u) : w.cell? ⟨g, 0, none⟩ = some u ∧ w.frozen? ⟨g, 0, none⟩ = false := by
  have hc := h.cells (g := g) rfl 0 u hu
  obtain ⟨cur, hcur⟩ := own_tag h (b := g) rfl
  exact ⟨by simpa [Addr.add] using hc, frozen_of_row w g 0 cur e hcur⟩

def DvRel (w : World) (zs : List Int) (v i : Value) (wr : World) : Prop :=
  ∃ (k : Nat) (ds : List Int), k ≤ zs.length ∧ k ≤ 6 ∧ i = .int .i64 k ∧ ds.length ≤ k ∧ (∀ d ∈ ds, 1 ≤ d ∧ d ≤ 12) ∧ wr.ownsRow w.heap.size 3 1 v ds.length (ds.map (Value.int .i64)) ∧ Below w.heap.size w wr
def CuRel (W : World) (i : Value) (wr : World) : Prop := ∃ d : Int, 1 ≤ d ∧ d ≤ 13 ∧ i = .int .i64 d ∧ W = wr

theorem wf_small {d : Int} (h : -1000 ≤ d ∧ d ≤ 1000) : (Lit.int .i64 d).wf = true := WalkArith.wf_i64 (by omega)

set_option maxRecDepth 100000 in
set_option maxHeartbeats 4000000 in
theorem cuts_walk (w : World) (from_ long : Int) (v : Value) (zs : List Int) (hf : (Lit.int .i64 from_).wf = true) (hl : (Lit.int .i64 long).wf = true) (h : ArgInts w v zs) :
    Calls Try.prog 7 #[.int .i64 from_, .int .i64 long, v] w fun e w' => e = .returned (.bool true) ∧ Below w.heap.size w w' := by
  obtain ⟨i0, hi0, hz0, hz1, hz2⟩ := info_parts intInfo3
  obtain ⟨am, capm, rfl, m2, m3, m4, m6⟩ := h
  have M4 := Lib.hid m4
  have M6 := Lib.hid m6
  have hm63 : zs.length ≤ 9223372036854775807 := by omega
  have Hz0 := Lib.hid hz0
  have Hz1 := Lib.hid hz1
  have Hz2 := Lib.hid hz2
  have Hi0 := Lib.hid hi0
  have f1 := around_lo from_ 100 (by omega)
  have f2 := around_hi from_ 100 (by omega)
  obtain ⟨F, hF⟩ : ∃ F, F = around from_ 100 := ⟨_, rfl⟩
  rw [← hF] at f1 f2
  have HF := Lib.hid hF
  have l1 := around_lo long 100 (by omega)
  have l2 := around_hi long 100 (by omega)
  obtain ⟨L, hL⟩ : ∃ L, L = around long 100 := ⟨_, rfl⟩
  rw [← hL] at l1 l2
  have HL := Lib.hid hL
  have Hf := Lib.hid hf
  have Hl := Lib.hid hl
  clear m4 m6 hz0 hz1 hz2 hi0 hF hL hf hl
  go_enter Try.func7, Try.ntmps7
  go_wp2_with fail
  refine (around_any from_ 100 _ Hf.out (by omega) (by omega)).mono ?_
  rintro e w' ⟨rfl, rfl⟩
  rw [← HF.out]
  go_wp2_with fail
  refine (around_any long 100 _ Hl.out (by omega) (by omega)).mono ?_
  rintro e w' ⟨rfl, rfl⟩
  rw [← HL.out]
  go_wp2_with fail
  go_loopw [9, 10] (DvRel w zs) (fun _ i _ => zs.length - (intOf i).toNat)
  case atStart => exact ⟨0, [], Nat.zero_le _, by omega, rfl, by simp, by simp, World.ownsRow_nil _ _ _ _, Below.refl _ _⟩
  case round =>
    obtain ⟨k, ds, hk, h6, rfl, hdl, hdr, hG, hb⟩ := hrel
    have HG := Lib.hid hG
    have HB := Lib.hid hb
    have HD := Lib.hid hdr
    clear hG hb hdr
    have HI : Hid (IntsAt wr w.heap.size wr.heap.size u9 ds) := Lib.hid (IntsAt.ofOwn HG.out (fun z hz => wf_small (by have := HD.out z hz; omega)) (Nat.le_refl _))
    by_cases hlt : k < zs.length ∧ k < 6
    · obtain ⟨hl1, hl2⟩ := hlt
      obtain ⟨z, hz⟩ : ∃ z, zs[k]? = some z := ⟨_, List.getElem?_eq_getElem hl1⟩
      obtain ⟨g, o, rfl, hc⟩ := M6.out k z hz
      have hg : g < w.heap.size := World.block_lt_of_cell? _ _ hc
      have hcr : wr.cell? ⟨g, o + k, none⟩ = some (.int .i64 z) := by rw [HB.out.cell (p := ⟨g, o + k, none⟩) hg]; exact hc
      have Hwf := Lib.hid (M4.out z (List.mem_of_getElem? hz))
      have a1 := around_lo z 12 (by omega)
      have a2 := around_hi z 12 (by omega)
      obtain ⟨A, hA⟩ : ∃ A, A = around z 12 := ⟨_, rfl⟩
      rw [← hA] at a1 a2
      have HA := Lib.hid hA
      clear hc hz hA hg
      by_cases hin : (1 + A) ∈ ds
      · have Hin := Lib.hid hin
        clear hin
        go_wp2_with (first | (go_at_call 9; refine (around_any z 12 _ Hwf.out (by omega) (by omega)).mono ?_; rintro e w' ⟨rfl, rfl⟩; rw [← HA.out]) | (go_at_call 20; refine (has_yes _ _ _ _ ds (1 + A) HI.out Hin.out).mono ?_; rintro e w' ⟨rfl, rfl⟩))
        have HR : Hid (DvRel w zs u9 (.int .i64 (k + 1)) wr) := Lib.hid ⟨k + 1, ds, hl1, by omega, rfl, by omega, HD.out, HG.out, HB.out⟩
        first | exact ⟨HR.out, by simp [intOf]; omega⟩ | (go_roundw; exact HR.out; (simp [intOf]; omega))
      · have Hin := Lib.hid hin
        clear hin
        have Hc3 : Hid (ds.length + 1 ≤ maxLen) := Lib.hid (by unfold maxLen; omega)
        have Hc4 : Hid ((ds.length + 1) * 8 ≤ 140737488355328) := Lib.hid (by omega)
        have Hc5 : Hid (w.heap.size ≤ (wr.alloc (.cells #[.int .i64 (1 + A)] 3)).heap.size) := Lib.hid (by have := HB.out.size; simp; omega)
        go_wp2_with (first | (go_at_call 9; refine (around_any z 12 _ Hwf.out (by omega) (by omega)).mono ?_; rintro e w' ⟨rfl, rfl⟩; rw [← HA.out]) | (go_at_call 20; refine (has_no _ _ _ _ ds (1 + A) HI.out Hin.out).mono ?_; rintro e w' ⟨rfl, rfl⟩) | (at_builtin; refine wpL_append rfl (.tmp 43) (.tmp 45) 23 rfl w.heap.size 3 i0 (.int .i64 0) 1 8 Try.underlying23 Hi0.out Hz0.out Hz1.out Hz2.out rfl (Nat.succ_pos _) u9 ds.length (ds.map (Value.int .i64)) rfl (HG.out.alloc (.cells #[.int .i64 (1 + A)] 3)) ⟨wr.heap.size, 0, none⟩ 1 1 [.int .i64 (1 + A)] rfl rfl (new_int wr (1 + A)) (new_int1 (1 + A)) Nat.one_pos Hc3.out Hc4.out Hc5.out ?_; intro v' w3 hown hg hv; have HO := Lib.hid hown; have HG3 := Lib.hid hg; clear hown hg hv))
        have HR : Hid (DvRel w zs v' (.int .i64 (k + 1)) w3) := Lib.hid ⟨k + 1, ds ++ [1 + A], hl1, by omega, rfl, by simp; omega, fun d hd => by
          rcases List.mem_append.1 hd with hd | hd
          · exact HD.out d hd
          · simp at hd; omega, by simpa using HO.out, (HB.out.alloc HB.out.size _).grown HG3.out (by have := HB.out.size; simp; omega) (fun b hb => (HG.out.lt b hb).1)⟩
        first | exact ⟨HR.out, by simp [intOf]; omega⟩ | (go_roundw; exact HR.out; (simp [intOf]; omega))
    · have hpre : (k < zs.length ∧ k = 6) ∨ ¬ k < zs.length := by omega
      obtain ⟨av, cv, hav⟩ := own_form HG.out
      have hds : ds.length = 0 ∨ 0 < ds.length := by omega
      have hd63 : ds.length ≤ 9223372036854775807 := by omega
      rcases hds with hds | hds
      · have hds' : ((ds.length : Int) == 0) = true := by rw [hds]; rfl
        rw [hav]
        clear hav hds
        rcases hpre with ⟨p1, rfl⟩ | p1
        all_goals
          go_wp2_with (go_at_call 12; refine (lives_any _).mono ?_; rintro e w7 ⟨rfl, hB⟩; have HB7 := Lib.hid hB; clear hB)
          go_ret
          exact ⟨rfl, HB.out.trans (HB7.out.mono HB.out.size)⟩
      · have hds' : ((ds.length : Int) == 0) = false := by rw [beq_eq_false_iff_ne]; omega
        clear hav
        obtain ⟨gv, cv, hav⟩ := own_some HG.out hds
        rw [hav] at HI HG ⊢
        clear hav
        have Hown0 : Hid ((wr.alloc (.cells #[] 3)).ownsRow w.heap.size 3 1 (.slice (some ⟨wr.heap.size, 0, none⟩) 0 0) 0 []) := Lib.hid (World.ownsRow_made wr #[] 0 HB.out.size (by unfold maxLen; omega) rfl)
        have Hnews : Hid (∀ j u, (ds.map (Value.int .i64))[j]? = some u → (wr.alloc (.cells #[] 3)).cell? ((⟨gv, 0, none⟩ : Addr).add j) = some u) := Lib.hid ((HG.out.alloc (.cells #[] 3)).cells (g := gv) rfl)
        have Hone : Hid (∀ u ∈ ds.map (Value.int .i64), u.oneCell' = true) := Lib.hid (fun u hu => by obtain ⟨d, _, rfl⟩ := List.mem_map.1 hu; rfl)
        have Hc3 : Hid (0 + ds.length ≤ maxLen) := Lib.hid (by unfold maxLen; omega)
        have Hc4 : Hid ((0 + ds.length) * 8 ≤ 140737488355328) := Lib.hid (by omega)
        have Hc5 : Hid (w.heap.size ≤ (wr.alloc (.cells #[] 3)).heap.size) := Lib.hid (by have := HB.out.size; simp; omega)
        have Hml : Hid ((ds.map (Value.int .i64)).length = ds.length * 1) := Lib.hid (by simp)
        have Hpos := Lib.hid hds
        clear hds
        rcases hpre with ⟨p1, rfl⟩ | p1
        all_goals
          go_upto_region 14 with (first | (at_builtin; refine wpL_append rfl (.tmp 51) (.tmp 52) 23 rfl w.heap.size 3 i0 (.int .i64 0) 1 8 Try.underlying23 Hi0.out Hz0.out Hz1.out Hz2.out rfl (Nat.succ_pos _) (.slice (some ⟨wr.heap.size, 0, none⟩) 0 0) 0 [] rfl Hown0.out ⟨gv, 0, none⟩ ds.length cv (ds.map (Value.int .i64)) rfl Hml.out Hnews.out Hone.out Hpos.out Hc3.out Hc4.out Hc5.out ?_; intro v' w3 hown hg hv; obtain ⟨ga, ca, hav'⟩ := own_some hown (by have := Hpos.out; omega); rw [Nat.zero_add, List.nil_append] at hown; rw [Nat.zero_add] at hav'; rw [hav'] at hown hv ⊢; have HO := Lib.hid hown; have HG3 := Lib.hid hg; have HV := Lib.hid hv; clear hown hg hv hav') | (refine wpL_buildOne rfl (.tmp 57) rfl (stepMk 3 F (F + 1 + L) 0 (.slice (some ⟨ga, 0, none⟩) ds.length ca)) rfl rfl ?_; intro w4 B4 K4 S4; have HB4 := Lib.hid B4; have HK4 := Lib.hid K4; have HS4 := Lib.hid S4; clear B4 K4 S4))
          have HBA : Hid (Below w.heap.size w w3) := Lib.hid ((HB.out.alloc HB.out.size (.cells #[] 3)).grown HG3.out (by have := HB.out.size; simp; omega) (fun b hb => by simp [Value.ownBlock] at hb; have := HB.out.size; omega))
          have Hga : Hid (wr.heap.size ≤ ga ∧ ga < w3.heap.size ∧ gv < wr.heap.size) := Lib.hid (by
            refine ⟨?_, (HO.out.lt ga rfl).2, (HG.out.lt gv rfl).2⟩
            rcases HV.out with e | e
            · simp [Value.ownBlock] at e; omega
            · simp [Value.ownBlock] at e; omega)
          have HI4 : Hid (IntsAt w4 w.heap.size w4.heap.size (.slice (some ⟨ga, 0, none⟩) ds.length ca) ds) := Lib.hid (IntsAt.ofOwn (ownsRow_keeps HO.out HK4.out (fun _ _ x => x)) (fun z hz => wf_small (by have := HD.out z hz; omega)) (Nat.le_refl _))
          have HSA := Lib.hid (stepsAt_one (lo := w.heap.size) (hi := w4.heap.size) HB4.out (stepMk_arr (s := ⟨3, F, F + 1 + L, 0, ds⟩) rfl HI4.out) (by have h1 := HS4.out; have h2 := HBA.out.size; omega))
          refine (new_any w4 w.heap.size w4.heap.size _ [⟨3, F, F + 1 + L, 0, ds⟩] HSA.out (Nat.le_refl _) (by simp) (by simp; omega) (by simp)).mono ?_
          rintro e w5 ⟨pbs, rfl, hL5, hB5⟩
          have HL5 : Hid (LinkAt w5 w4.heap.size w5.heap.size w4.heap.size pbs (cuFlt F (F + 1 + L) ds)) := Lib.hid (by rw [← cu_new]; exact hL5)
          have HB5 := Lib.hid hB5
          have HK5 : Hid (Keeps (fun b => w3.heap.size ≤ b) w3 w5) := Lib.hid ((HK4.out.mono (fun _ _ x => x.elim)).trans ((Keeps.below hB5).mono (fun b hb x => by have := HS4.out; omega)))
          obtain ⟨d0, hd0⟩ : ∃ d0, ds[0]? = some d0 := ⟨_, List.getElem?_eq_getElem Hpos.out⟩
          obtain ⟨e1, e2⟩ := own_cell0 (ownsRow_keeps HO.out HK5.out (fun b hb x => by have := (HO.out.lt b hb).2; omega)) (u := .int .i64 d0) (by simp [hd0])
          have hp64 : (0 : Int) < (ds.length : Int) := by have := Hpos.out; omega
          clear hL5 hB5 hd0
          go_upto_region 17 with (fail)
          have HK6 : Hid (Keeps (fun b => b = ga) w5 (w5.setCell ⟨ga, 0, none⟩ (.int .i64 99))) := Lib.hid ((Keeps.refl (fun b => b = ga) w5).setCell (p := ⟨ga, 0, none⟩) (fun _ => rfl) _)
          have HL6 : Hid (LinkAt (w5.setCell ⟨ga, 0, none⟩ (.int .i64 99)) w4.heap.size w5.heap.size w4.heap.size pbs (cuFlt F (F + 1 + L) ds)) := Lib.hid (HL5.out.keeps HK6.out (fun b hb _ e => by have h1 := Hga.out; have h2 := HS4.out; omega))
          have HW6 : Hid (Below w.heap.size w (w5.setCell ⟨ga, 0, none⟩ (.int .i64 99))) := Lib.hid (by
            have h1 := HBA.out.size
            have h2 : Below w.heap.size w w4 := HBA.out.trans (HK4.out.toBelow h1 (fun _ _ x => x))
            have h3 := h2.trans (HB5.out.mono h2.size)
            exact h3.setCell (by have h1 := Hga.out; have h2 := HB.out.size; show _ ≤ ga; omega) _)
          have HIv : Hid (IntsAt (w5.setCell ⟨ga, 0, none⟩ (.int .i64 99)) w.heap.size wr.heap.size (.slice (some ⟨gv, 0, none⟩) ds.length cv) ds) := Lib.hid (by
            have k1 : Keeps (fun b => wr.heap.size ≤ b) wr w3 := ((Keeps.refl (fun b => wr.heap.size ≤ b) wr).alloc (.cells #[] 3)).grown HG3.out (fun b hb _ => by simp [Value.ownBlock] at hb; omega)
            have k2 : Keeps (fun b => wr.heap.size ≤ b) w3 w5 := HK5.out.mono (fun b _ x => by have := k1.size; omega)
            have k3 : Keeps (fun b => wr.heap.size ≤ b) w5 (w5.setCell ⟨ga, 0, none⟩ (.int .i64 99)) := HK6.out.mono (fun b _ x => by have := Hga.out; omega)
            exact HI.out.keeps ((k1.trans k2).trans k3) (fun b _ hb x => by omega))
          generalize w5.setCell ⟨ga, 0, none⟩ (.int .i64 99) = W at HL6 HW6 HIv ⊢
          have HQ : Hid (Calls Try.prog 18 #[.pointer (some ⟨w4.heap.size, 0, none⟩)] W fun e w' => e = .returned (.int .i64 (F + 1 + L)) ∧ W = w') := Lib.hid (by
            have h := lquiet_any W _ _ _ pbs _ HL6.out
            rwa [cu_quiet _ _ _ (by omega)] at h)
          clear e1 e2 HK6 HK5 HB5 HL5 HSA HI4 HBA HB4 HK4 HO HG3 HV HB HG HI Hown0 Hnews Hone
          go_wp2_with fail
          go_loopw [14] (CuRel W) (fun i _ => (13 - intOf i).toNat)
          case atStart => exact ⟨1, by omega, by omega, rfl, rfl⟩
          case round =>
            obtain ⟨d, d1, d2, rfl, rfl⟩ := hrel
            by_cases hd : d ≤ 12
            · have Hdw := Lib.hid (wf_small (d := d) (by omega))
              have hM1 := Lib.hid (cu_in F (F + 1 + L) F d ds (by omega))
              have hM2 := Lib.hid (cu_in F (F + 1 + L) (F + 1 + L - 1) d ds (by omega))
              have hM3 := Lib.hid (cu_out F (F + 1 + L) (F + 1 + L) d ds (by omega))
              have hM4 := Lib.hid (cu_out F (F + 1 + L) (F - 1) d ds (by omega))
              have HH := Lib.hid (has_any W _ _ _ ds d HIv.out)
              obtain ⟨P, hP⟩ : ∃ P, P = decide (d ∈ ds) := ⟨_, rfl⟩
              rw [← hP] at hM1 hM2 HH
              clear hP
              by_cases hF0 : 0 < F
              · cases P
                all_goals
                  go_wp2_with fail
                  refine HH.out.mono ?_
                  rintro e w' ⟨rfl, rfl⟩
                  go_wp2_with fail
                  refine (cu_met _ _ _ _ _ _ _ _ _ _ HL6.out Hdw.out hM1.out).mono ?_
                  rintro e w' ⟨rfl, rfl⟩
                  go_wp2_with fail
                  refine (cu_met _ _ _ _ _ _ _ _ _ _ HL6.out Hdw.out hM2.out).mono ?_
                  rintro e w' ⟨rfl, rfl⟩
                  go_wp2_with fail
                  refine (cu_met _ _ _ _ _ _ _ _ _ _ HL6.out Hdw.out hM3.out).mono ?_
                  rintro e w' ⟨rfl, rfl⟩
                  go_wp2_with fail
                  refine (cu_met _ _ _ _ _ _ _ _ _ _ HL6.out Hdw.out hM4.out).mono ?_
                  rintro e w' ⟨rfl, rfl⟩
                  go_wp2_with fail
                  have HR : Hid (CuRel W (.int .i64 (d + 1)) W) := Lib.hid ⟨d + 1, by omega, by omega, rfl, rfl⟩
                  first | exact ⟨HR.out, by simp [intOf]; omega⟩ | (go_roundw; exact HR.out; (simp [intOf]; omega))
              · cases P
                all_goals
                  go_wp2_with fail
                  refine HH.out.mono ?_
                  rintro e w' ⟨rfl, rfl⟩
                  go_wp2_with fail
                  refine (cu_met _ _ _ _ _ _ _ _ _ _ HL6.out Hdw.out hM1.out).mono ?_
                  rintro e w' ⟨rfl, rfl⟩
                  go_wp2_with fail
                  refine (cu_met _ _ _ _ _ _ _ _ _ _ HL6.out Hdw.out hM2.out).mono ?_
                  rintro e w' ⟨rfl, rfl⟩
                  go_wp2_with fail
                  refine (cu_met _ _ _ _ _ _ _ _ _ _ HL6.out Hdw.out hM3.out).mono ?_
                  rintro e w' ⟨rfl, rfl⟩
                  go_wp2_with fail
                  have HR : Hid (CuRel W (.int .i64 (d + 1)) W) := Lib.hid ⟨d + 1, by omega, by omega, rfl, rfl⟩
                  first | exact ⟨HR.out, by simp [intOf]; omega⟩ | (go_roundw; exact HR.out; (simp [intOf]; omega))
            · obtain rfl : d = 13 := by omega
              go_wp2_with (first | (go_at_call 18; refine HQ.out.mono ?_; rintro e w' ⟨rfl, rfl⟩) | (go_at_call 12; refine (lives_any _).mono ?_; rintro e w7 ⟨rfl, hB⟩; have HB7 := Lib.hid hB; clear hB))
              go_ret
              exact ⟨rfl, HW6.out.trans (HB7.out.mono HW6.out.size)⟩
end Go.Proofs.Ytmgjccalpdlbbaa
