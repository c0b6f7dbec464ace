/- The methods Met and Quiet of a link, by their contracts: they change nothing. -/
import Derived.Test.YtmgjccalpdlbbaaLink
namespace Go.Proofs.Ytmgjccalpdlbbaa
open Go.RowKit
set_option linter.unusedVariables false

def lcuts (r d : Int) (f : Flt) : Bool := decide (f.dk = 3) && f.there r && f.set d
def lmetOf (fs : List Flt) (r d : Int) : Bool := !(fs.any (lcuts r d))
def LMetRel (fs : List Flt) (r d : Int) (i : Value) : Prop := ∃ k : Nat, k ≤ fs.length ∧ i = .int .i64 k ∧ (fs.take k).any (lcuts r d) = false
theorem lcuts_succ {fs : List Flt} {k : Nat} {f : Flt} {r d : Int} (h : fs[k]? = some f) (h1 : (fs.take k).any (lcuts r d) = false) (h2 : lcuts r d f = false) : (fs.take (k + 1)).any (lcuts r d) = false := by
  obtain ⟨hk, rfl⟩ := List.getElem?_eq_some_iff.1 h
  rw [List.take_succ_eq_append_getElem hk, List.any_append, h1]
  simp [h2]
theorem lmetOf_no {fs : List Flt} {k : Nat} {f : Flt} {r d : Int} (h : fs[k]? = some f) (h2 : lcuts r d f = true) : lmetOf fs r d = false := by
  have : fs.any (lcuts r d) = true := List.any_eq_true.2 ⟨f, List.mem_of_getElem? h, h2⟩
  simp [lmetOf, this]

theorem zeroBool (w : World) : (zeroValue 4).run Try.prog w = .ok (.bool false) w := by kernel_rfl

set_option maxRecDepth 100000 in
set_option maxHeartbeats 1000000 in
theorem lmet_any (w : World) (lo hi p : Nat) (pbs : List Nat) (fs : List Flt) (r d : Int) (h : LinkAt w lo hi p pbs fs) (hd : (Lit.int .i64 d).wf = true) :
    Calls Try.prog 16 #[.pointer (some ⟨p, 0, none⟩), .int .i64 r, .int .i64 d] w fun e w' => e = .returned (.bool (lmetOf fs r d)) ∧ w = w' := by
  obtain ⟨a, cap, hroot, hrow⟩ := h.row
  have hsm := h.small
  have hlen := h.len
  have c0 := cell_of_blk hroot (i := 0) rfl
  have Hlen := Lib.hid hlen
  have Hrow := Lib.hid hrow
  have H := Lib.hid h
  have Hd := Lib.hid hd
  clear hroot hrow hlen h hd
  go_enter Try.func16, Try.ntmps16
  go_wp2
  clear c0
  go_loop [14] (LMetRel fs r d) (fun i => fs.length - (intOf i).toNat)
  case atStart => exact ⟨0, Nat.zero_le _, rfl, by simp⟩
  case round =>
    obtain ⟨k, hk, rfl, hn⟩ := hrel
    have Hn := Lib.hid hn
    clear hn
    by_cases hlt : k < fs.length
    · obtain ⟨f, hf⟩ : ∃ f, fs[k]? = some f := ⟨_, List.getElem?_eq_getElem hlt⟩
      obtain ⟨pb, hp⟩ : ∃ pb, pbs[k]? = some pb := ⟨_, List.getElem?_eq_getElem (by rw [Hlen.out]; exact hlt)⟩
      obtain ⟨g, rfl, hcell⟩ := Hrow.out k pb hp
      have F := H.out.faults k pb f hp hf
      obtain ⟨mb, m1, m2, m3, n, m4⟩ := F.here
      have c0 := cell_of_blk m3 (i := 0) rfl
      have c1 := cell_of_blk m3 (i := 1) rfl
      have c2 := cell_of_blk m3 (i := 2) rfl
      have c4 := cell_of_blk m3 (i := 4) rfl
      have hlook := m4.look Try.underlying3 Try.underlying4 Try.underlying64 zeroBool d Hd.out
      have Hf := Lib.hid hf
      clear hp hf F m3 m4
      by_cases h3 : f.dk = 3
      · have h3' : (f.dk == 3) = true := by simpa using h3
        have H3 := Lib.hid h3
        clear h3
        by_cases ht : f.fr ≤ r ∧ r < f.til
        · have Ht := Lib.hid ht
          clear ht
          obtain ⟨S, hS⟩ : ∃ S, S = f.set d := ⟨_, rfl⟩
          rw [← hS] at hlook
          have HS := Lib.hid hS
          clear hS
          cases S
          · go_wp2_with (go_at_call 24; refine (there_yes _ _ _ _ _ c1 c2 Ht.out).mono ?_; rintro e w' ⟨rfl, rfl⟩)
            go_round
            case rel => exact ⟨k + 1, hlt, rfl, lcuts_succ Hf.out Hn.out (by simp [lcuts, ← HS.out])⟩
            case measure => simp [intOf]; omega
          · have HM : Hid (lmetOf fs r d = false) := Lib.hid (lmetOf_no Hf.out (by simp [lcuts, Flt.there, H3.out, Ht.out, ← HS.out]))
            go_wp2_with (go_at_call 24; refine (there_yes _ _ _ _ _ c1 c2 Ht.out).mono ?_; rintro e w' ⟨rfl, rfl⟩)
            go_ret
            exact ⟨by rw [HM.out]; rfl, rfl⟩
        · have Ht := Lib.hid ht
          clear ht
          go_wp2_with (go_at_call 24; refine (there_no _ _ _ _ _ c1 c2 Ht.out).mono ?_; rintro e w' ⟨rfl, rfl⟩)
          go_round
          case rel => exact ⟨k + 1, hlt, rfl, lcuts_succ Hf.out Hn.out (by simp [lcuts, Flt.there, Ht.out])⟩
          case measure => simp [intOf]; omega
      · have h3' : (f.dk == 3) = false := by simpa using h3
        have H3 := Lib.hid h3
        clear h3
        go_wp2_with fail
        go_round
        case rel => exact ⟨k + 1, hlt, rfl, lcuts_succ Hf.out Hn.out (by simp [lcuts, H3.out])⟩
        case measure => simp [intOf]; omega
    · obtain rfl : k = fs.length := by omega
      have HM : Hid (lmetOf fs r d = true) := Lib.hid (by have := Hn.out; rw [List.take_length] at this; simp [lmetOf, this])
      go_wp2
      go_ret
      exact ⟨by rw [HM.out]; rfl, rfl⟩

/-! ### Quiet -/
def lquietTo (fs : List Flt) (k : Nat) : Int := (fs.take k).foldl (fun m f => max m f.til) 0
def lquietOf (fs : List Flt) : Int := fs.foldl (fun m f => max m f.til) 0
theorem lquietTo_succ {fs : List Flt} {k : Nat} {f : Flt} (h : fs[k]? = some f) : lquietTo fs (k + 1) = max (lquietTo fs k) f.til := by
  obtain ⟨hk, rfl⟩ := List.getElem?_eq_some_iff.1 h
  unfold lquietTo
  rw [List.take_succ_eq_append_getElem hk, List.foldl_append]
  rfl
def LQuietRel (fs : List Flt) (x i : Value) : Prop := ∃ k : Nat, k ≤ fs.length ∧ i = .int .i64 k ∧ x = .int .i64 (lquietTo fs k)

set_option maxRecDepth 100000 in
set_option maxHeartbeats 1000000 in
theorem lquiet_any (w : World) (lo hi p : Nat) (pbs : List Nat) (fs : List Flt) (h : LinkAt w lo hi p pbs fs) :
    Calls Try.prog 18 #[.pointer (some ⟨p, 0, none⟩)] w fun e w' => e = .returned (.int .i64 (lquietOf fs)) ∧ w = w' := by
  obtain ⟨a, cap, hroot, hrow⟩ := h.row
  have hsm := h.small
  have hlen := h.len
  have c0 := cell_of_blk hroot (i := 0) rfl
  have Hlen := Lib.hid hlen
  have Hrow := Lib.hid hrow
  have H := Lib.hid h
  clear hroot hrow hlen h
  go_enter Try.func18, Try.ntmps18
  go_wp2
  clear c0
  go_loop [3, 11] (LQuietRel fs) (fun _ i => fs.length - (intOf i).toNat)
  case atStart => exact ⟨0, Nat.zero_le _, rfl, rfl⟩
  case round =>
    obtain ⟨k, hk, rfl, rfl⟩ := hrel
    by_cases hlt : k < fs.length
    · obtain ⟨f, hf⟩ : ∃ f, fs[k]? = some f := ⟨_, List.getElem?_eq_getElem hlt⟩
      obtain ⟨pb, hp⟩ : ∃ pb, pbs[k]? = some pb := ⟨_, List.getElem?_eq_getElem (by rw [Hlen.out]; exact hlt)⟩
      obtain ⟨g, rfl, hcell⟩ := Hrow.out k pb hp
      have F := H.out.faults k pb f hp hf
      obtain ⟨mb, m1, m2, m3, n, m4⟩ := F.here
      have c2 := cell_of_blk m3 (i := 2) rfl
      have hq := Lib.hid (lquietTo_succ hf)
      clear hp hf F m3 m4
      go_wp2
      go_round
      case rel => exact ⟨k + 1, hlt, rfl, by rw [hq.out]; congr 1; split <;> omega⟩
      case measure => simp [intOf]; omega
    · obtain rfl : k = fs.length := by omega
      have HQ : Hid (lquietTo fs fs.length = lquietOf fs) := Lib.hid (by simp [lquietTo, lquietOf])
      go_wp2
      go_ret
      exact ⟨by rw [← HQ.out]; rfl, rfl⟩
end Go.Proofs.Ytmgjccalpdlbbaa
