/- The reference's Rounds, which makes rounds of numbers, by its contract. -/
import Derived.Test.YtmgjccalpdlbbaaMake
namespace Go.Proofs.Ytmgjccalpdlbbaa
open Go.RowKit
set_option linter.unusedVariables false

/-- The rounds that are made: they do not go back. -/
def roundsFrom : Int → List Int → List Int
  | _, [] => []
  | b, z :: r => (b + around z 9 / 4) :: roundsFrom (b + around z 9 / 4) r
def roundsOf (zs : List Int) : List Int := roundsFrom 0 (zs.take 40)
def lastOf (b : Int) (zs : List Int) : Int := zs.foldl (fun b z => b + around z 9 / 4) b
theorem roundsFrom_snoc (z : Int) : ∀ (zs : List Int) (b : Int), roundsFrom b (zs ++ [z]) = roundsFrom b zs ++ [lastOf b zs + around z 9 / 4]
  | [], b => rfl
  | y :: r, b => by simp [roundsFrom, lastOf, roundsFrom_snoc z r]
theorem lastOf_snoc (z : Int) (zs : List Int) (b : Int) : lastOf b (zs ++ [z]) = lastOf b zs + around z 9 / 4 := by simp [lastOf]
theorem quarter (z : Int) : 0 ≤ around z 9 / 4 ∧ around z 9 / 4 ≤ 2 := by
  have h1 := around_lo z 9 (by omega)
  have h2 := around_hi z 9 (by omega)
  omega
theorem lastOf_bd : ∀ (zs : List Int) (b : Int), b ≤ lastOf b zs ∧ lastOf b zs ≤ b + 2 * zs.length
  | [], b => by simp [lastOf]
  | z :: r, b => by
    have h := lastOf_bd r (b + around z 9 / 4)
    have q := quarter z
    simp only [lastOf, List.foldl_cons, List.length_cons] at h ⊢
    omega
theorem roundsFrom_len : ∀ (zs : List Int) (b : Int), (roundsFrom b zs).length = zs.length
  | [], b => rfl
  | z :: r, b => by simp [roundsFrom, roundsFrom_len r]
theorem roundsFrom_bd : ∀ (zs : List Int) (b : Int), ∀ x ∈ roundsFrom b zs, b ≤ x ∧ x ≤ b + 2 * zs.length
  | [], b, x, h => by simp [roundsFrom] at h
  | z :: r, b, x, h => by
    have q := quarter z
    simp only [roundsFrom, List.mem_cons] at h
    simp only [List.length_cons]
    rcases h with rfl | h
    · omega
    · have := roundsFrom_bd r _ x h
      omega

def RdRel (w : World) (zs : List Int) (v t i : Value) (wr : World) : Prop :=
  ∃ k : Nat, k ≤ zs.length ∧ k ≤ 40 ∧ i = .int .i64 k ∧ t = .int .i64 (lastOf 0 (zs.take k)) ∧ wr.ownsRow w.heap.size 3 1 v k ((roundsFrom 0 (zs.take k)).map (Value.int .i64)) ∧ Below w.heap.size w wr

theorem new_int (X : World) (z : Int) : ∀ j u, [Value.int .i64 z][j]? = some u → (X.alloc (.cells #[Value.int .i64 z] 3)).cell? ((⟨X.heap.size, 0, none⟩ : Addr).add j) = some u :=
  fun _ _ hu => cell_add (Blk.new X 3 [Value.int .i64 z]) hu
theorem new_int1 (z : Int) : ∀ u ∈ [Value.int .i64 z], u.oneCell' = true := by
  intro u hu
  simp only [List.mem_singleton] at hu
  subst hu
  rfl

set_option maxRecDepth 100000 in
set_option maxHeartbeats 2000000 in
theorem rounds_any (w : World) (v : Value) (zs : List Int) (h : ArgInts w v zs) :
    Calls Try.prog 14 #[v] w fun e w' => ∃ v', e = .returned v' ∧ IntsAt w' w.heap.size w'.heap.size v' (roundsOf zs) ∧ Below w.heap.size w w' := by
  obtain ⟨i0, hi0, hz0, hz1, hz2⟩ := info_parts intInfo3
  obtain ⟨a, cap, rfl, h2, h3, h4, h6⟩ := h
  have hl : zs.length ≤ 9223372036854775807 := by omega
  have H4 := Lib.hid h4
  have H6 := Lib.hid h6
  have Hz0 := Lib.hid hz0
  have Hz1 := Lib.hid hz1
  have Hz2 := Lib.hid hz2
  have Hi0 := Lib.hid hi0
  clear h4 h6 hz0 hz1 hz2 hi0
  go_enter Try.func14, Try.ntmps14
  go_wp2
  go_loopw [3, 4, 5] (RdRel w zs) (fun _ _ i _ => zs.length - (intOf i).toNat)
  case atStart => exact ⟨0, Nat.zero_le _, by omega, rfl, rfl, World.ownsRow_nil _ _ _ _, Below.refl _ _⟩
  case round =>
    obtain ⟨k, hk, h6, rfl, rfl, hG, hb⟩ := hrel
    have HG := Lib.hid hG
    have HB := Lib.hid hb
    clear hG hb
    have hlb := lastOf_bd (zs.take k) 0
    have hlt' : (zs.take k).length ≤ k := List.length_take_le _ _
    obtain ⟨L, hL⟩ : ∃ L, L = lastOf 0 (zs.take k) := ⟨_, rfl⟩
    rw [← hL] at hlb ⊢
    obtain ⟨hlb1, hlb2⟩ := hlb
    have hlb3 : L ≤ 80 := by omega
    have HL := Lib.hid hL
    clear hL hlb2
    by_cases hlt : k < zs.length ∧ k < 40
    · obtain ⟨hl1, hl2⟩ := hlt
      obtain ⟨z, hz⟩ : ∃ z, zs[k]? = some z := ⟨_, List.getElem?_eq_getElem hl1⟩
      obtain ⟨g, o, rfl, hc⟩ := H6.out k z hz
      have hg : g < w.heap.size := World.block_lt_of_cell? _ _ hc
      have hcr : wr.cell? ⟨g, o + k, none⟩ = some (.int .i64 z) := by rw [HB.out.cell (p := ⟨g, o + k, none⟩) hg]; exact hc
      have Hz := Lib.hid hz
      have Hwf := Lib.hid (H4.out z (List.mem_of_getElem? hz))
      have hq := quarter z
      have ha1 := around_lo z 9 (by omega)
      obtain ⟨A, hA⟩ : ∃ A, A = around z 9 := ⟨_, rfl⟩
      rw [← hA] at hq ha1
      obtain ⟨hq1, hq2⟩ := hq
      have HA := Lib.hid hA
      clear hc hz hA
      have Hc3 : Hid (k + 1 ≤ maxLen) := Lib.hid (by unfold maxLen; omega)
      have Hc4 : Hid ((k + 1) * 8 ≤ 140737488355328) := Lib.hid (by omega)
      have Hc5 : Hid (w.heap.size ≤ (wr.alloc (.cells #[.int .i64 (L + A / 4)] 3)).heap.size) := Lib.hid (by have := HB.out.size; simp; omega)
      go_wp2_with (first | (go_at_call 9; refine (around_any z 9 _ Hwf.out (by omega) (by omega)).mono ?_; rintro e w' ⟨rfl, rfl⟩; rw [← HA.out]) | (at_builtin; refine wpL_append rfl (.tmp 24) (.tmp 26) 23 rfl w.heap.size 3 i0 (.int .i64 0) 1 8 Try.underlying23 Hi0.out Hz0.out Hz1.out Hz2.out rfl (Nat.succ_pos _) u3 k ((roundsFrom 0 (zs.take k)).map (Value.int .i64)) rfl (HG.out.alloc (.cells #[.int .i64 (L + A / 4)] 3)) ⟨wr.heap.size, 0, none⟩ 1 1 [.int .i64 (L + A / 4)] rfl rfl (new_int wr (L + A / 4)) (new_int1 (L + A / 4)) Nat.one_pos Hc3.out Hc4.out Hc5.out ?_; intro v' w3 hown hg hv; have HO := Lib.hid hown; have HG3 := Lib.hid hg; clear hown hg hv))
      have HR : Hid (RdRel w zs v' (.int .i64 (L + A / 4)) (.int .i64 (k + 1)) w3) := Lib.hid ⟨k + 1, hl1, by omega, rfl, by
        obtain ⟨_, rfl⟩ := List.getElem?_eq_some_iff.1 Hz.out
        rw [List.take_succ_eq_append_getElem hl1, lastOf_snoc, ← HL.out, ← HA.out], by
        obtain ⟨_, rfl⟩ := List.getElem?_eq_some_iff.1 Hz.out
        rw [List.take_succ_eq_append_getElem hl1, roundsFrom_snoc, ← HL.out, ← HA.out, List.map_append]
        exact HO.out, (HB.out.alloc HB.out.size _).grown HG3.out (by have := HB.out.size; simp; omega) (fun b hb => (HG.out.lt b hb).1)⟩
      go_roundw
      case rel => exact HR.out
      case measure => simp [intOf]; omega
    · have HE : Hid (roundsFrom 0 (zs.take k) = roundsOf zs) := Lib.hid (by
        unfold roundsOf
        congr 1
        rcases Nat.lt_or_ge k zs.length with hl1 | hl1
        · have : k = 40 := by omega
          rw [this]
        · rw [List.take_of_length_le hl1, List.take_of_length_le (by omega)])
      have HV : Hid (IntsAt wr w.heap.size wr.heap.size u3 (roundsOf zs)) := Lib.hid (by
        rw [← HE.out]
        refine IntsAt.ofOwn HG.out (fun z hz => ?_) (Nat.le_refl _)
        have := roundsFrom_bd _ _ z hz
        exact WalkArith.wf_i64 (by omega))
      by_cases hl1 : k < zs.length
      · have hl2 : k = 40 := by omega
        subst hl2
        go_wp2
        go_ret
        exact ⟨_, rfl, HV.out, HB.out⟩
      · have hl2 : k = zs.length := by omega
        subst hl2
        go_wp2
        go_ret
        exact ⟨_, rfl, HV.out, HB.out⟩
end Go.Proofs.Ytmgjccalpdlbbaa
