/- The reference's Beside, by its contract. -/
import Derived.Test.YtappaadadkoamaaTRPath
import Derived.IntWalk
import Derived.BigQuiet
namespace Go.Proofs.Ytappaadadkoamaa
open Go.RowKit
set_option linter.unusedVariables false

theorem setsF_bd : ∀ (f : Nat) (zs x : List Int), x ∈ setsF f zs → x.length ≤ zs.length
  | 0, zs, x, h => by simp [setsF] at h
  | f + 1, zs, x, h => by
    unfold setsF at h
    split at h
    · simp at h
    · rename_i h0
      obtain ⟨k1, k2⟩ := kidsOf_len zs h0
      rcases List.mem_cons.1 h with rfl | h
      · omega
      · rcases List.mem_append.1 h with h | h
        · have := setsF_bd f _ x h; omega
        · have := setsF_bd f _ x h; omega
theorem pathR_bd {zs x : List Int} {d : Int} (h : x ∈ pathR zs d) : x.length ≤ zs.length := by
  unfold pathR at h
  have := (List.mem_filter.1 h).1
  exact setsF_bd 16 zs x (by simpa [setsOf] using this)
theorem pathR_len (zs : List Int) (d : Int) : (pathR zs d).length ≤ 2 * zs.length := by
  unfold pathR
  refine Nat.le_trans (List.length_filter_le _ _) ?_
  have := setsF_len 16 zs
  simp [setsOf]; omega

def notIn (x : List Int) (z : Int) : Bool := decide (z ∉ x)
def sibOf (P : List (List Int)) (i : Nat) : List Int := (P.getD (i + 1) []).filter (notIn (P.getD i []))
def besideR (P : List (List Int)) : List (List Int) := (List.range (P.length - 1)).map (sibOf P)
theorem besideR_succ (P : List (List Int)) (k : Nat) : (List.range (k + 1)).map (sibOf P) = (List.range k).map (sibOf P) ++ [sibOf P k] := by rw [List.range_succ, List.map_append]; rfl

def RBesRel (w1 : World) (P : List (List Int)) (s6 i : Value) (wr : World) : Prop :=
  ∃ k : Nat, k ≤ P.length ∧ (k = 0 ∨ k + 1 ≤ P.length) ∧ i = .int .i64 k ∧ OwnT wr w1.heap.size w1.heap.size s6 ((List.range k).map (sibOf P)) ∧ Below w1.heap.size w1 wr
def RSibRel (wo : World) (x y : List Int) (s8 j : Value) (wr : World) : Prop :=
  ∃ k : Nat, k ≤ y.length ∧ j = .int .i64 k ∧ wr.ownsRow wo.heap.size 3 1 s8 ((y.take k).filter (notIn x)).length (((y.take k).filter (notIn x)).map (Value.int .i64)) ∧ Below wo.heap.size wo wr

set_option maxRecDepth 100000 in
set_option maxHeartbeats 4000000 in
theorem rbeside_any (w : World) (lo hi : Nat) (v : Value) (zs : List Int) (d : Int) (h : IntsT w lo hi v zs) (hhi : hi ≤ w.heap.size) (hlo : lo ≤ w.heap.size) (hz : zs.length ≤ 15) :
    Calls Try.prog 23 #[v, .int .i64 d] w fun e w' => ∃ v', e = .returned v' ∧ OwnT w' w.heap.size w.heap.size v' (besideR (pathR zs d)) ∧ Below w.heap.size w w' := by
  obtain ⟨i0, hi0, hz0, hz1, hz2⟩ := info_parts intsInfo3
  obtain ⟨i1, hi1, hy0, hy1, hy2⟩ := info_parts intInfo3
  have Hz0 := Lib.hid hz0
  have Hz1 := Lib.hid hz1
  have Hz2 := Lib.hid hz2
  have Hi0 := Lib.hid hi0
  have Hy0 := Lib.hid hy0
  have Hy1 := Lib.hid hy1
  have Hy2 := Lib.hid hy2
  have Hi1 := Lib.hid hi1
  have HS := Lib.hid (rpath_any w lo hi v zs d h hhi hlo hz)
  have HLO := Lib.hid hlo
  obtain ⟨P, hP⟩ : ∃ P, P = pathR zs d := ⟨_, rfl⟩
  have hPl : P.length ≤ 30 := by rw [hP]; have := pathR_len zs d; omega
  have HPb : Hid (∀ x ∈ P, x.length ≤ 15) := Lib.hid (fun x hx => by rw [hP] at hx; have := pathR_bd hx; omega)
  rw [← hP] at HS ⊢
  clear h hhi hlo hz0 hz1 hz2 hi0 hy0 hy1 hy2 hi1 hP
  go_enter Try.func23, Try.ntmps23
  go_wp2_with (go_at_call 21; refine HS.out.mono ?_; rintro e w1 ⟨va, rfl, hT, hB⟩; have HR1 := Lib.hid (OwnT.rows hT HLO.out); obtain ⟨sa, sc, rfl⟩ := own_form hT.choose_spec.1; have HB1 := Lib.hid hB; clear hT hB)
  go_loopw [6, 7] (RBesRel w1 P) (fun _ i _ => P.length - (intOf i).toNat)
  case atStart => exact ⟨0, Nat.zero_le _, .inl rfl, rfl, by simpa using OwnT.nil _ _ _, Below.refl _ _⟩
  case round =>
    obtain ⟨k, hk, hk0, rfl, hT, hb⟩ := hrel
    obtain ⟨us, ho, he⟩ := hT
    obtain ⟨oa, oc, rfl⟩ := own_form ho
    obtain ⟨wo, rfl⟩ : ∃ wo : World, wo = wr := ⟨_, rfl⟩
    have HO := Lib.hid ho
    have HE := Lib.hid he
    have HB := Lib.hid hb
    clear ho he hb
    obtain ⟨L, hL⟩ : ∃ L, L = (List.range k).map (sibOf P) := ⟨_, rfl⟩
    have hLl : L.length ≤ 30 := by rw [hL]; simp; omega
    have HL := Lib.hid hL
    rw [← hL] at HO HE ⊢
    clear hL
    by_cases hlt : k + 1 < P.length
    · obtain ⟨x, hx⟩ : ∃ x, P[k]? = some x := ⟨_, List.getElem?_eq_getElem (by omega)⟩
      obtain ⟨y, hy⟩ : ∃ y, P[k + 1]? = some y := ⟨_, List.getElem?_eq_getElem hlt⟩
      have hy15 := HPb.out y (List.mem_of_getElem? hy)
      have HSB : Hid (sibOf P k = y.filter (notIn x)) := Lib.hid (by unfold sibOf; rw [List.getD_eq_getElem?_getD, List.getD_eq_getElem?_getD, hx, hy]; rfl)
      obtain ⟨g, o, ux, rfl, cx0, hxI⟩ := (HR1.out.below HB.out).at' hx
      obtain ⟨g', o', uy, he, cy0, hyI⟩ := (HR1.out.below HB.out).at' hy
      simp only [Option.some.injEq, Addr.mk.injEq] at he
      obtain ⟨rfl, rfl, -⟩ := he
      obtain ⟨xa, xc, rfl, _, _⟩ := hxI.form
      obtain ⟨ya, yc, rfl, _, _⟩ := hyI.form
      have HXI := Lib.hid hxI
      have HYI := Lib.hid hyI
      have CX := Lib.hid cx0
      have CY := Lib.hid cy0
      have hk1 : (0 : Int) ≤ (k : Int) := by omega
      have hkl : (k : Int) < (P.length : Int) := by omega
      have hk2 : (0 : Int) ≤ (k : Int) + 1 := by omega
      have hk3 : (k : Int) + 1 < (P.length : Int) := by omega
      have hgx := World.block_lt_of_cell? _ _ cx0
      have hgy := World.block_lt_of_cell? _ _ cy0
      have hy63 : y.length ≤ 9223372036854775807 := by omega
      clear hx hy hxI hyI cx0 cy0
      go_wp2_with fail
      go_loopw [8, 9] (RSibRel wo x y) (fun _ j _ => y.length - (intOf j).toNat)
      case atStart => exact ⟨0, Nat.zero_le _, rfl, World.ownsRow_nil wo _ _ _, Below.refl _ _⟩
      case round =>
        obtain ⟨j, hj, rfl, hS8, hbi⟩ := hrel
        obtain ⟨fa, fc, rfl⟩ := own_form hS8
        have HS8 := Lib.hid hS8
        have HBI := Lib.hid hbi
        clear hS8 hbi
        obtain ⟨F, hF⟩ : ∃ F, F = (y.take j).filter (notIn x) := ⟨_, rfl⟩
        have hFl : F.length ≤ 15 := by rw [hF]; exact Nat.le_trans (List.length_filter_le _ _) (by simp; omega)
        have HF := Lib.hid hF
        have HFW : Hid (∀ z ∈ F, (Lit.int .i64 z).wf = true) := Lib.hid (fun z hz => HYI.out.wf z (by rw [hF] at hz; exact List.mem_of_mem_take (List.mem_filter.1 hz).1))
        rw [← hF] at HS8 ⊢
        clear hF
        have cx : wr.cell? ⟨g, o + k, none⟩ = some (.slice xa x.length xc) := (HBI.out.cell (p := ⟨g, o + k, none⟩) hgx).trans CX.out
        have cy : wr.cell? ⟨g, o + (k + 1), none⟩ = some (.slice ya y.length yc) := (HBI.out.cell (p := ⟨g, o + (k + 1), none⟩) hgy).trans CY.out
        by_cases hjl : j < y.length
        · obtain ⟨z, hz⟩ : ∃ z, y[j]? = some z := ⟨_, List.getElem?_eq_getElem hjl⟩
          obtain ⟨gy, oy, rfl, cz⟩ : ∃ gy oy, ya = some ⟨gy, oy, none⟩ ∧ wr.cell? ⟨gy, oy + j, none⟩ = some (.int .i64 z) := by
            obtain ⟨⟨a', cap', he, _, _, _, _, h6⟩, _⟩ := HYI.out
            simp at he
            obtain ⟨rfl, _⟩ := he
            obtain ⟨gy, oy, e, hc⟩ := h6 j z hz
            exact ⟨gy, oy, e, (HBI.out.cell (p := ⟨gy, oy + j, none⟩) (World.block_lt_of_cell? _ _ hc)).trans hc⟩
          have HST := Lib.hid (filter_take_succ (p := notIn x) hz)
          have hzw := Lib.hid (HYI.out.wf z (List.mem_of_getElem? hz))
          have hj0 : (0 : Int) ≤ (j : Int) := by omega
          have hjy : (j : Int) < (y.length : Int) := by omega
          have hjt : (j : Int).toNat = j := by omega
          have hkt : (k : Int).toNat = k := by omega
          have hlt1 : ((j : Int) < (y.length : Int)) := by omega
          have hd1 : decide ((j : Int) < (y.length : Int)) = true := decide_eq_true hlt1
          have HH : Hid (∀ n, IntsAt (wr.drewN n) lo w1.heap.size (.slice xa x.length xc) x) := Lib.hid (fun n => ((HXI.out.below HBI.out).keeps ((Keeps.refl (fun _ => False) wr).drewN n) (fun _ _ _ x => x)).1)
          clear hz
          by_cases hm : z ∈ x
          · have HC : Hid (∀ n, Calls Try.prog 24 #[.slice xa x.length xc, .int .i64 z] (wr.drewN n) fun e w'' => e = .returned (.bool true) ∧ ∃ m, w'' = wr.drewN m) := Lib.hid (fun n => quiet_of_left (has_yes (wr.drewN n) lo w1.heap.size _ x z (HH.out n) hm))
            have HP : Hid ((y.take (j + 1)).filter (notIn x) = F) := Lib.hid (by rw [HST.out, ← HF.out, if_neg (by simp [notIn, hm])]; simp)
            clear hm
            go_wp2_with fail
            have hw : IntKind.i64.wrap ((k : Int) + 1) = (k : Int) + 1 := IntWalk.i64_in _ (by omega)
            have hkt1 : ((k : Int) + 1).toNat = k + 1 := by omega
            go_quiet ((go_at_call 24; exact HC.out _))
            clear hw hkt1
            go_wp2
            go_roundw
            case rel => exact ⟨j + 1, hjl, rfl, by rw [HP.out]; exact ownsRow_keeps HS8.out ((Keeps.refl (fun _ => False) wr).drewN _) (fun _ _ x => x), HBI.out.trans (((Keeps.refl (fun _ => False) wr).drewN _).toBelow HBI.out.size (fun _ _ x => x))⟩
            case measure => simp [intOf] <;> omega
          · have HC : Hid (∀ n, Calls Try.prog 24 #[.slice xa x.length xc, .int .i64 z] (wr.drewN n) fun e w'' => e = .returned (.bool false) ∧ ∃ m, w'' = wr.drewN m) := Lib.hid (fun n => quiet_of_left (has_no (wr.drewN n) lo w1.heap.size _ x z (HH.out n) hm))
            have HP : Hid ((y.take (j + 1)).filter (notIn x) = F ++ [z]) := Lib.hid (by rw [HST.out, ← HF.out, if_pos (by simp [notIn, hm])])
            clear hm
            go_wp2_with fail
            have hw : IntKind.i64.wrap ((k : Int) + 1) = (k : Int) + 1 := IntWalk.i64_in _ (by omega)
            have hkt1 : ((k : Int) + 1).toNat = k + 1 := by omega
            go_quiet ((go_at_call 24; exact HC.out _))
            clear hw hkt1
            have HS9 : Hid ((wr.drewN nq).ownsRow wo.heap.size 3 1 (.slice fa F.length fc) F.length (F.map (Value.int .i64))) := Lib.hid (ownsRow_keeps HS8.out ((Keeps.refl (fun _ => False) wr).drewN _) (fun _ _ x => x))
            have HB9 : Hid (Below wo.heap.size wo (wr.drewN nq)) := Lib.hid (HBI.out.trans (((Keeps.refl (fun _ => False) wr).drewN _).toBelow HBI.out.size (fun _ _ x => x)))
            have cx' : (wr.drewN nq).cell? ⟨g, o + k, none⟩ = some (.slice xa x.length xc) := cx
            have cy' : (wr.drewN nq).cell? ⟨g, o + (k + 1), none⟩ = some (.slice (some ⟨gy, oy, none⟩) y.length yc) := cy
            have cz' : (wr.drewN nq).cell? ⟨gy, oy + j, none⟩ = some (.int .i64 z) := cz
            clear cx cy cz
            generalize wr.drewN nq = wq at HS9 HB9 cx' cy' cz' ⊢
            go_wp2_with (at_builtin; (refine wpL_append rfl (.tmp 44) (.tmp 53) 22 rfl wo.heap.size 3 i1 (.int .i64 0) 1 8 Try.underlying22 Hi1.out Hy0.out Hy1.out Hy2.out rfl Nat.one_pos (.slice fa F.length fc) F.length (F.map (Value.int .i64)) rfl (HS9.out.alloc _) ⟨wq.heap.size, 0, none⟩ 1 1 [.int .i64 z] rfl rfl (fun j x hx => cell_add (Blk.new wq 3 [.int .i64 z]) hx) ?q1 Nat.one_pos ?q2 ?q3 ?q4 ?_); rotate_right; intro v' w2 hown hg hv; have HO2 := Lib.hid hown; have HG2 := Lib.hid hg; clear hown hg hv)
            case q1 => simp [Value.oneCell']
            case q2 => unfold maxLen; omega
            case q3 => omega
            case q4 => have := HB9.out.size; simp; omega
            go_roundw
            case rel => exact ⟨j + 1, hjl, rfl, by rw [HP.out]; simpa using HO2.out, (HB9.out.alloc HB9.out.size _).grown HG2.out (by have := HB9.out.size; simp; omega) (fun b hb => (HS9.out.lt b hb).1)⟩
            case measure => simp [intOf] <;> omega
        · obtain rfl : j = y.length := by omega
          have hdf : decide ((y.length : Int) < (y.length : Int)) = false := decide_eq_false (by omega)
          have HFE : Hid (sibOf P k = F) := Lib.hid (by rw [HSB.out, HF.out, List.take_length])
          have HFI : Hid (IntsT wr wo.heap.size wr.heap.size (.slice fa F.length fc) F) := Lib.hid (IntsT.ofOwn HS8.out HFW.out (Nat.le_refl _))
          have HO' : Hid (OwnT wr w1.heap.size w1.heap.size (.slice oa L.length oc) L) := Lib.hid (OwnT.below ⟨us, HO.out, HE.out⟩ HBI.out)
          obtain ⟨us', ho', he'⟩ := HO'.out
          have HOO := Lib.hid ho'
          have HEE := Lib.hid he'
          have HB2 : Hid (Below w1.heap.size w1 wr) := Lib.hid (HB.out.trans (HBI.out.mono HB.out.size))
          clear ho' he'
          go_wp2_with (at_builtin; (refine wpL_append rfl (.tmp 55) (.tmp 57) 24 rfl w1.heap.size 22 i0 (.slice none 0 0) 1 24 Try.underlying24 Hi0.out Hz0.out Hz1.out Hz2.out rfl Nat.one_pos (.slice oa L.length oc) L.length us' rfl (HOO.out.alloc _) ⟨wr.heap.size, 0, none⟩ 1 1 [.slice fa F.length fc] rfl rfl (fun j x hx => cell_add (Blk.new wr 22 [.slice fa _ fc]) hx) (Each.single HFI.out).one Nat.one_pos ?q2 ?q3 (Nat.le_trans HB2.out.size (Nat.le_of_lt (Blk.new wr 22 [.slice fa F.length fc]).lt)) ?_); rotate_right; intro v' w2 hown hg hv; have HO2 := Lib.hid hown; have HG2 := Lib.hid hg; clear hown hg hv)
          case q2 => unfold maxLen; omega
          case q3 => omega
          have HT2 : Hid (OwnT w2 w1.heap.size w1.heap.size v' (L ++ [F])) := Lib.hid (OwnT.push (ls := L) (ls' := [F]) (HOO.out.alloc (.cells #[.slice fa F.length fc] 22)) ((HEE.out.keepsOwn ((Keeps.refl (fun _ => False) wr).alloc _) (fun _ _ x => x)).mono (Nat.le_refl _) (by simp)) (Each.single ((HFI.out.keeps ((Keeps.refl (fun _ => False) wr).alloc _) (fun _ _ _ x => x)).mono HB.out.size (by simp))) HO2.out rfl HG2.out)
          have HB3 : Hid (Below w1.heap.size w1 w2) := Lib.hid ((HB2.out.alloc HB2.out.size _).grown HG2.out (by have := HB2.out.size; simp; omega) (fun b hb => (HOO.out.lt b hb).1))
          go_roundw
          case rel => exact ⟨k + 1, by omega, .inr (by omega), rfl, by rw [besideR_succ, ← HL.out, HFE.out]; exact HT2.out, HB3.out⟩
          case measure => simp [intOf] <;> omega
    · have hdf : decide ((k : Int) + 1 < (P.length : Int)) = false := decide_eq_false (by omega)
      have HE2 : Hid (besideR P = L) := Lib.hid (by
        unfold besideR
        rw [HL.out, show P.length - 1 = k by omega])
      go_wp2
      go_ret
      exact ⟨_, rfl, by rw [HE2.out]; exact ⟨us, ownsRow_mono HO.out HB1.out.size, HE.out.mono HB1.out.size (Nat.le_refl _)⟩, HB1.out.trans (HB.out.mono HB1.out.size)⟩
end Go.Proofs.Ytappaadadkoamaa
