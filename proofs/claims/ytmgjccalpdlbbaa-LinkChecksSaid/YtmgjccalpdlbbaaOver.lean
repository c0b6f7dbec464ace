/- The method Over of a link, by its contract: how often something comes is 'overVal'; each line that counts has counted once more. -/
import Derived.Test.YtmgjccalpdlbbaaLink
namespace Go.Proofs.Ytmgjccalpdlbbaa
open Go.RowKit
set_option linter.unusedVariables false


def OverRel (w : World) (lo hi p : Nat) (pbs : List Nat) (fs : List Flt) (r : Int) (a : Option Addr) (cap : Nat) (x y i : Value) (wr : World) : Prop :=
  ∃ k : Nat, k ≤ fs.length ∧ i = .int .i64 k ∧ x = .bool (lostTo fs r k) ∧ y = .bool (twiceTo fs r k) ∧ LinkAt wr lo hi p pbs (tickTo fs r k) ∧ Blk wr p 62 [.slice a fs.length cap] ∧ Keeps (fun b => lo ≤ b ∧ b < hi) w wr

/-- A line that is not there, or a cut: nothing turns. -/
theorem OverRel.skip {w wr : World} {lo hi p : Nat} {pbs : List Nat} {fs : List Flt} {r : Int} {a : Option Addr} {cap : Nat} {k : Nat} {f : Flt} {L T : Bool} (hf : Hid (fs[k]? = some f)) (hc : f.counts r = false) (hL : Hid (LinkAt wr lo hi p pbs (tickTo fs r k)))
    (hB : Hid (Blk wr p 62 [.slice a fs.length cap])) (hK : Hid (Keeps (fun b => lo ≤ b ∧ b < hi) w wr)) (hl : Hid (L = lostTo fs r k)) (ht : Hid (T = twiceTo fs r k)) (hlt : k < fs.length) : OverRel w lo hi p pbs fs r a cap (.bool L) (.bool T) (.int .i64 (k + 1)) wr := by
  refine ⟨k + 1, hlt, rfl, ?_, ?_, ?_, hB.out, hK.out⟩
  · rw [lostTo_succ hf.out, ← hl.out]; simp [Flt.lose, Flt.hit, hc]
  · rw [twiceTo_succ hf.out, ← ht.out]; simp [Flt.twice, Flt.hit, hc]
  · rw [tickTo_same hf.out hc]; exact hL.out

theorem OverRel.step {w wr : World} {lo hi p : Nat} {pbs : List Nat} {fs : List Flt} {r : Int} {a : Option Addr} {cap : Nat} {k pb : Nat} {f : Flt} {L T L' T' : Bool} {n : Int} (hf : Hid (fs[k]? = some f)) (hp : Hid (pbs[k]? = some pb)) (hc : f.counts r = true) (hs : f.count < 1000000) (hn : n = f.count + 1)
    (hL : Hid (LinkAt wr lo hi p pbs (tickTo fs r k)))
    (hB : Hid (Blk wr p 62 [.slice a fs.length cap])) (hK : Hid (Keeps (fun b => lo ≤ b ∧ b < hi) w wr)) (hl : Hid (L = lostTo fs r k)) (ht : Hid (T = twiceTo fs r k)) (hlt : k < fs.length) (m : Nat)
    (hl' : L' = (L || f.lose r)) (ht' : T' = (T || f.twice r)) : OverRel w lo hi p pbs fs r a cap (.bool L') (.bool T') (.int .i64 (k + 1)) ((wr.setCell ⟨pb, 5, none⟩ (.int .i64 n)).drewN m) := by
  subst hn
  have F := hL.out.faults k pb f hp.out (by rw [tickTo_here]; exact hf.out)
  refine ⟨k + 1, hlt, rfl, ?_, ?_, ?_, ?_, ?_⟩
  · rw [lostTo_succ hf.out, ← hl.out, hl']
  · rw [twiceTo_succ hf.out, ← ht.out, ht']
  · exact (hL.out.raise hp.out hf.out hc hs).keeps ((Keeps.refl (fun _ => False) _).drewN m) (fun _ _ _ h => h)
  · exact (hB.out.setOther (hL.out.root_ne hp.out (by rw [tickTo_here]; exact hf.out)) _).drewN m
  · exact (hK.out.setCell (p := ⟨pb, 5, none⟩) (fun _ => ⟨F.plo, F.phi⟩) _).drewN m

set_option maxRecDepth 100000 in
set_option maxHeartbeats 1000000 in
theorem over_any (w : World) (lo hi p : Nat) (pbs : List Nat) (fs : List Flt) (r d : Int) (h : LinkAt w lo hi p pbs fs) (hs : ∀ f ∈ fs, f.count < 1000000) :
    Calls Try.prog 11 #[.pointer (some ⟨p, 0, none⟩), .int .i64 r, .int .i64 d] w fun e w' => e = .returned (.int .i64 (overVal fs r)) ∧ LinkAt w' lo hi p pbs (fs.map (Flt.tick r)) ∧ Keeps (fun b => lo ≤ b ∧ b < hi) w w' := by
  obtain ⟨a, cap, hroot, hrow⟩ := h.row
  have hsm := h.small
  have hlen := h.len
  have c0 := cell_of_blk hroot (i := 0) rfl
  have Hlen := Lib.hid hlen
  have Hroot := Lib.hid hroot
  have Hrow := Lib.hid hrow
  have Hs := Lib.hid hs
  clear hroot hrow hlen hs
  go_enter Try.func11, Try.ntmps11
  go_wp2
  clear c0
  go_loopw [7, 8, 16] (OverRel w lo hi p pbs fs r a cap) (fun _ _ i _ => fs.length - (intOf i).toNat)
  case atStart => exact ⟨0, Nat.zero_le _, rfl, rfl, rfl, by rw [tickTo_zero]; exact h, Hroot.out, Keeps.refl _ _⟩
  case round =>
    obtain ⟨k, hk, rfl, rfl, rfl, hL, hB, hK⟩ := hrel
    by_cases hlt : k < fs.length
    · obtain ⟨f, hf⟩ : ∃ f, fs[k]? = some f := ⟨_, List.getElem?_eq_getElem hlt⟩
      obtain ⟨pb, hp⟩ : ∃ pb, pbs[k]? = some pb := ⟨_, List.getElem?_eq_getElem (by rw [Hlen.out]; exact hlt)⟩
      obtain ⟨g, rfl, hcell⟩ := hL.rowOf hB hp
      have F := hL.faults k pb f hp (by rw [tickTo_here]; exact hf)
      have hls := lostTo_succ hf r
      have hts := twiceTo_succ hf r
      have hcs : f.count < 1000000 := Hs.out f (List.mem_of_getElem? hf)
      have hfit := F.fit
      have hne := hL.root_ne hp (by rw [tickTo_here]; exact hf)
      obtain ⟨mb, m1, m2, m3, n, m4⟩ := F.here
      have hraise := fun hc => hL.raise hp hf hc hcs
      have hsame := fun hc => tickTo_same (r := r) hf hc
      have hplo := F.plo
      have hphi := F.phi
      have c0 := cell_of_blk m3 (i := 0) rfl
      have c1 := cell_of_blk m3 (i := 1) rfl
      have c2 := cell_of_blk m3 (i := 2) rfl
      have c3 := cell_of_blk m3 (i := 3) rfl
      have c5 := cell_of_blk m3 (i := 5) rfl
      have z5 := m3.frozen 5
      obtain ⟨dk, fr, til, each, set, count⟩ := f
      simp only at c0 c1 c2 c3 c5
      obtain ⟨f1, f2, f3, f4, f5⟩ := hfit
      simp only at f1 f2 f3 f4 f5 hcs
      have Hls := Lib.hid hls
      have Hts := Lib.hid hts
      have Hraise := Lib.hid hraise
      have Hsame := Lib.hid hsame
      have Hf := Lib.hid hf
      have Hp := Lib.hid hp
      have HL := Lib.hid hL
      have HB := Lib.hid hB
      have HK := Lib.hid hK
      clear hls hts hraise hsame hf hp hL hB hK F m3 m4
      have hlen63 : fs.length ≤ 9223372036854775807 := by omega
      obtain ⟨L, hL0⟩ : ∃ L, L = lostTo fs r k := ⟨_, rfl⟩
      obtain ⟨T, hT0⟩ : ∃ T, T = twiceTo fs r k := ⟨_, rfl⟩
      rw [← hL0, ← hT0]
      have HL0 := Lib.hid hL0
      have HT0 := Lib.hid hT0
      clear hL0 hT0
      by_cases hth : fr ≤ r ∧ r < til
      · have Hth := Lib.hid hth
        clear hth
        rcases f1 with rfl | rfl | rfl
        · go_wp2_with fail
          go_roundw
          case rel => exact OverRel.skip Hf (by simp [Flt.counts]) HL HB HK HL0 HT0 hlt
          case measure => simp [intOf]; omega
        all_goals
          have hm0 : 0 ≤ (count + 1) := by omega
          by_cases hm : (count + 1) % each = 0
          · have hm1 : ((count + 1) % each == 0) = true := by simpa using hm
            have Hm := Lib.hid hm
            clear hm
            cases L <;> cases T
            all_goals
              go_wp2_with (go_at_call 24; refine (there_yes _ _ _ _ _ c1 c2 Hth.out).mono ?_; rintro e w' ⟨rfl, rfl⟩)
              go_quiet (fail)
              go_wp2
              refine ⟨OverRel.step Hf Hp (by simp [Flt.counts, Flt.there, Hth.out]) hcs rfl HL HB HK HL0 HT0 hlt nq ?_ ?_, by simp [intOf]; omega⟩
              · simp [Flt.lose, Flt.hit, Flt.counts, Flt.there, Hth.out, Hm.out]
              · simp [Flt.twice, Flt.hit, Flt.counts, Flt.there, Hth.out, Hm.out]
          · have hm1 : ((count + 1) % each == 0) = false := by simpa using hm
            have Hm := Lib.hid hm
            clear hm
            go_wp2_with (go_at_call 24; refine (there_yes _ _ _ _ _ c1 c2 Hth.out).mono ?_; rintro e w' ⟨rfl, rfl⟩)
            go_quiet (fail)
            go_wp2
            refine ⟨OverRel.step Hf Hp (by simp [Flt.counts, Flt.there, Hth.out]) hcs rfl HL HB HK HL0 HT0 hlt nq ?_ ?_, by simp [intOf]; omega⟩
            · simp [Flt.lose, Flt.hit, Flt.counts, Flt.there, Hth.out, Hm.out]
            · simp [Flt.twice, Flt.hit, Flt.counts, Flt.there, Hth.out, Hm.out]
      · have Hth := Lib.hid hth
        clear hth
        rcases f1 with rfl | rfl | rfl
        · go_wp2_with fail
          go_roundw
          case rel => exact OverRel.skip Hf (by simp [Flt.counts]) HL HB HK HL0 HT0 hlt
          case measure => simp [intOf]; omega
        all_goals
          go_wp2_with (go_at_call 24; refine (there_no _ _ _ _ _ c1 c2 Hth.out).mono ?_; rintro e w' ⟨rfl, rfl⟩)
          go_roundw
          case rel => exact OverRel.skip Hf (by simp [Flt.counts, Flt.there, Hth.out]) HL HB HK HL0 HT0 hlt
          case measure => simp [intOf]; omega
    · obtain rfl : k = fs.length := by omega
      have hl : lostTo fs r fs.length = fs.any (Flt.lose r) := by simp [lostTo]
      have ht : twiceTo fs r fs.length = fs.any (Flt.twice r) := by simp [twiceTo]
      rw [tickTo_all] at hL
      have hv : overVal fs r = if lostTo fs r fs.length then 0 else if twiceTo fs r fs.length then 2 else 1 := by rw [hl, ht]; rfl
      have HV := Lib.hid hv
      have HL := Lib.hid hL
      have HK := Lib.hid hK
      clear hl ht hv hL hK
      go_wp2
      all_goals
        go_ret
        refine ⟨?_, HL.out, HK.out⟩
        rw [HV.out]
        simp [*]
end Go.Proofs.Ytmgjccalpdlbbaa
