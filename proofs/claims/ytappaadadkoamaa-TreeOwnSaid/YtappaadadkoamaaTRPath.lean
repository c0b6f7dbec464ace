/- The reference's Path and Beside, by their contracts. -/
import Derived.Test.YtappaadadkoamaaTRefs
import Derived.IntWalk
namespace Go.Proofs.Ytappaadadkoamaa
open Go.RowKit
set_option linter.unusedVariables false

def hasB (d : Int) (x : List Int) : Bool := decide (d ∈ x)
def pathR (zs : List Int) (d : Int) : List (List Int) := (setsOf zs).reverse.filter (hasB d)
theorem filter_take_succ {α : Type} {p : α → Bool} {l : List α} {k : Nat} {x : α} (h : l[k]? = some x) : (l.take (k + 1)).filter p = (l.take k).filter p ++ (if p x then [x] else []) := by
  obtain ⟨hk, rfl⟩ := List.getElem?_eq_some_iff.1 h
  rw [List.take_succ_eq_append_getElem hk, List.filter_append]
  congr 1
  simp [List.filter_cons]

def RPathRel (w1 : World) (lo : Nat) (S : List (List Int)) (d : Int) (s6 i : Value) (wr : World) : Prop :=
  ∃ k : Nat, k ≤ S.length ∧ i = .int .i64 ((S.length : Int) - 1 - k) ∧ OwnT wr w1.heap.size lo s6 ((S.reverse.take k).filter (hasB d)) ∧ Below w1.heap.size w1 wr

set_option maxRecDepth 100000 in
set_option maxHeartbeats 2000000 in
theorem rpath_any (w : World) (lo hi : Nat) (v : Value) (zs : List Int) (d : Int) (h : IntsT w lo hi v zs) (hhi : hi ≤ w.heap.size) (hlo : lo ≤ w.heap.size) (hz : zs.length ≤ 15) :
    Calls Try.prog 21 #[v, .int .i64 d] w fun e w' => ∃ v', e = .returned v' ∧ OwnT w' w.heap.size lo v' (pathR zs d) ∧ Below w.heap.size w w' := by
  obtain ⟨i0, hi0, hz0, hz1, hz2⟩ := info_parts intsInfo3
  have Hz0 := Lib.hid hz0
  have Hz1 := Lib.hid hz1
  have Hz2 := Lib.hid hz2
  have Hi0 := Lib.hid hi0
  have HS := Lib.hid (rsets_any 15 w lo hi v zs hz (by omega) h hhi hlo)
  have HLO := Lib.hid hlo
  have hsl : (setsF (15 + 1) zs).length ≤ 100 := by have := setsF_len (15 + 1) zs; omega
  obtain ⟨S, hS⟩ : ∃ S, S = setsF (15 + 1) zs := ⟨_, rfl⟩
  have HPR : Hid (pathR zs d = S.reverse.filter (hasB d)) := Lib.hid (by rw [hS]; rfl)
  rw [← hS] at HS hsl
  clear h hhi hlo hz0 hz1 hz2 hi0 hS
  go_enter Try.func21, Try.ntmps21
  go_wp2_with (go_at_call 14; refine HS.out.mono ?_; rintro e w1 ⟨va, rfl, hT, hB⟩; have HR1 := Lib.hid (OwnT.rows hT HLO.out); obtain ⟨sa, sc, rfl⟩ := own_form hT.choose_spec.1; have HB1 := Lib.hid hB; clear hT hB)
  have h63 : S.length ≤ 9223372036854775807 := by omega
  have HLO1 : Hid (lo ≤ w1.heap.size) := Lib.hid (Nat.le_trans HLO.out HB1.out.size)
  go_loopw [6, 7] (RPathRel w1 lo S d) (fun _ i _ => (intOf i + 1).toNat)
  case atStart => exact ⟨0, Nat.zero_le _, by first | rfl | (congr 1; omega) | simp, by simpa using OwnT.nil _ _ _, Below.refl _ _⟩
  case round =>
    obtain ⟨k, hk, rfl, hT, hb⟩ := hrel
    obtain ⟨us, ho, he⟩ := hT
    obtain ⟨oa, oc, rfl⟩ := own_form ho
    have HO := Lib.hid ho
    have HE := Lib.hid he
    have HB := Lib.hid hb
    clear ho he hb
    obtain ⟨L, hL⟩ : ∃ L, L = (S.reverse.take k).filter (hasB d) := ⟨_, rfl⟩
    have hLl : L.length ≤ 100 := by rw [hL]; exact Nat.le_trans (List.length_filter_le _ _) (by simp; omega)
    have HL := Lib.hid hL
    rw [← hL] at HO HE ⊢
    clear hL
    by_cases hlt : k < S.length
    · obtain ⟨m, hm⟩ : ∃ m, m + k + 1 = S.length := ⟨S.length - 1 - k, by omega⟩
      have hmi : (S.length : Int) - 1 - k = m := by omega
      rw [hmi]
      obtain ⟨x, hx⟩ : ∃ x, S[m]? = some x := ⟨_, List.getElem?_eq_getElem (by omega)⟩
      have hxr : S.reverse[k]? = some x := by rw [List.getElem?_reverse (by omega), show S.length - 1 - k = m by omega]; exact hx
      have HST := Lib.hid (filter_take_succ (p := hasB d) hxr)
      obtain ⟨g, o, u, rfl, hc, hI⟩ := (HR1.out.below HB.out).at' hx
      obtain ⟨xa, xc, rfl, _, _⟩ := hI.form
      have HI := Lib.hid hI
      have hgl := World.block_lt_of_cell? _ _ hc
      have hm0 : (0 : Int) ≤ (m : Int) := by omega
      have hm1 : (m : Int) < (S.length : Int) := by omega
      have hnext : (m : Int) - 1 = (S.length : Int) - 1 - ((k + 1 : Nat) : Int) := by push_cast; omega
      have HNX := Lib.hid hnext
      clear hx hxr hI hnext hmi
      by_cases hd : d ∈ x
      · have HH := Lib.hid (has_yes wr lo w1.heap.size (.slice xa x.length xc) x d HI.out.1 hd)
        have HP : Hid ((S.reverse.take (k + 1)).filter (hasB d) = L ++ [x]) := Lib.hid (by rw [HST.out, ← HL.out, if_pos (show hasB d x = true from decide_eq_true hd)])
        clear hd
        go_wp2_with (first | (go_at_call 24; refine HH.out.mono ?_; rintro e w' ⟨rfl, rfl⟩) | (at_builtin; (refine wpL_append rfl (.tmp 23) (.tmp 28) 24 rfl w1.heap.size 22 i0 (.slice none 0 0) 1 24 Try.underlying24 Hi0.out Hz0.out Hz1.out Hz2.out rfl Nat.one_pos (.slice oa L.length oc) L.length us rfl (HO.out.alloc _) ⟨wr.heap.size, 0, none⟩ 1 1 [.slice xa x.length xc] rfl rfl (fun j x hx => cell_add (Blk.new wr 22 [.slice xa _ xc]) hx) (Each.single HI.out).one Nat.one_pos ?q2 ?q3 (Nat.le_trans HB.out.size (Nat.le_of_lt (Blk.new wr 22 [.slice xa x.length xc]).lt)) ?_); rotate_right; intro v' w2 hown hg hv; have HO2 := Lib.hid hown; have HG2 := Lib.hid hg; clear hown hg hv))
        case q2 => unfold maxLen; omega
        case q3 => omega
        have HT2 : Hid (OwnT w2 w1.heap.size lo v' (L ++ [x])) := Lib.hid (OwnT.push (ls := L) (ls' := [x]) (HO.out.alloc (.cells #[.slice xa x.length xc] 22)) ((HE.out.keepsOwn ((Keeps.refl (fun _ => False) wr).alloc _) (fun _ _ x => x)).mono (Nat.le_refl _) (by simp)) (Each.single ((HI.out.keeps ((Keeps.refl (fun _ => False) wr).alloc _) (fun _ _ _ x => x)).mono (Nat.le_refl _) (by have := HB.out.size; simp; omega))) HO2.out rfl HG2.out)
        have HB2 : Hid (Below w1.heap.size w1 w2) := Lib.hid ((HB.out.alloc HB.out.size _).grown HG2.out (by have := HB.out.size; simp; omega) (fun b hb => (HO.out.lt b hb).1))
        go_roundw
        case rel => exact ⟨k + 1, hlt, by rw [HNX.out], by rw [HP.out]; exact HT2.out, HB2.out⟩
        case measure => simp [intOf] <;> omega
      · have HH := Lib.hid (has_no wr lo w1.heap.size (.slice xa x.length xc) x d HI.out.1 hd)
        have HP : Hid ((S.reverse.take (k + 1)).filter (hasB d) = L) := Lib.hid (by rw [HST.out, ← HL.out, if_neg (by simpa [hasB] using hd)]; simp)
        clear hd
        go_wp2_with (go_at_call 24; refine HH.out.mono ?_; rintro e w' ⟨rfl, rfl⟩)
        go_roundw
        case rel => exact ⟨k + 1, hlt, by rw [HNX.out], by rw [HP.out]; exact ⟨us, HO.out, HE.out⟩, HB.out⟩
        case measure => simp [intOf] <;> omega
    · obtain rfl : k = S.length := by omega
      have hneg : decide ((0 : Int) ≤ (S.length : Int) - 1 - (S.length : Nat)) = false := decide_eq_false (by omega)
      have HE2 : Hid (pathR zs d = L) := Lib.hid (by rw [HPR.out, HL.out, List.take_of_length_le (by simp)])
      go_wp2
      go_ret
      exact ⟨_, rfl, by rw [HE2.out]; exact ⟨us, ownsRow_mono HO.out HB1.out.size, HE.out⟩, HB1.out.trans (HB.out.mono HB1.out.size)⟩
end Go.Proofs.Ytappaadadkoamaa
