/- The function New of package link, by its contract: a link of the lines of faults. -/
import Derived.Test.YtmgjccalpdlbbaaPush
import Derived.Test.YtmgjccalpdlbbaaMake
namespace Go.Proofs.Ytmgjccalpdlbbaa
open Go.RowKit
set_option linter.unusedVariables false

def toFlt (s : StepV) : Option Flt :=
  if s.dk = 3 then some { dk := 3, fr := s.fr, til := s.til, each := 0, set := fun d => decide (d ∈ s.set), count := 0 }
  else if s.dk = 4 ∨ s.dk = 5 then some { dk := s.dk, fr := s.fr, til := s.til, each := s.n, set := fun _ => false, count := 0 } else none
def newOf (ss : List StepV) : List Flt := ss.filterMap toFlt
theorem newOf_succ {ss : List StepV} {k : Nat} {s : StepV} (h : ss[k]? = some s) : newOf (ss.take (k + 1)) = newOf (ss.take k) ++ (toFlt s).toList := by
  obtain ⟨hk, rfl⟩ := List.getElem?_eq_some_iff.1 h
  unfold newOf
  rw [List.take_succ_eq_append_getElem hk, List.filterMap_append]
  cases hh : toFlt ss[k] <;> simp [hh]
theorem newOf_len (ss : List StepV) : (newOf ss).length ≤ ss.length := List.length_filterMap_le _ _

theorem ptrInfo3 : (Try.prog.info? 63).map (fun i => (i.zero, i.size, i.bytes)) = some (some (.pointer none), 1, 8) := by kernel_rfl

def NewRel (w : World) (ss : List StepV) (i : Value) (wr : World) : Prop :=
  ∃ (k : Nat) (pbs : List Nat), k ≤ ss.length ∧ i = .int .i64 k ∧ LinkAt wr w.heap.size wr.heap.size w.heap.size pbs (newOf (ss.take k)) ∧ Below w.heap.size w wr

theorem dec_take {l : List Int} {j : Nat} (h : j < l.length) (y : Int) : decide (y ∈ l.take (j + 1)) = (if y = l[j] then true else decide (y ∈ l.take j)) := by
  have e : y ∈ l.take (j + 1) ↔ y ∈ l.take j ∨ y = l[j] := by rw [List.take_succ_eq_append_getElem h, List.mem_append, List.mem_singleton]
  by_cases hy : y = l[j]
  · rw [if_pos hy]; exact decide_eq_true (e.2 (.inr hy))
  · rw [if_neg hy]; exact decide_eq_decide.2 ⟨fun x => (e.1 x).resolve_right hy, fun x => e.2 (.inl x)⟩

theorem SetAt.update2 {P : Program} {kT eT mT : TypeId} {w : World} {b : Nat} {S : Int → Bool} {size : Nat} (h : SetAt P kT eT w b S size) (hk : P.underlying kT = some (.int .i64)) (he : P.underlying eT = some .bool) (ht : P.underlying mT = some (.map kT eT))
    (hn : size < maxLen) (x : Int) (hx : (Lit.int .i64 x).wf = true) (v : Bool) :
    ∃ w', (Instr.mapUpdate mT (.map (some b)) (.int .i64 x) (.bool v)).run P w = .ok () w' ∧ SetAt P kT eT w' b (fun y => if y = x then v else S y) (size + 1) ∧ w.grownBy w' (some b) ∧ w'.heap.size = w.heap.size := by
  obtain ⟨n, D, hns, h, hS⟩ := h
  obtain ⟨w', hrun, hown, hturn⟩ := h.store (Maps.int_keyed hk) ht (Nat.lt_of_le_of_lt hns hn) (Maps.keyOf_int_mk hk hx) (plainElem_bool he v)
  refine ⟨w', hrun, ⟨n + 1, _, Nat.succ_le_succ hns, hown, fun y hy => ?_⟩, hturn.grown, ?_⟩
  · by_cases e : y = x
    · subst e
      rw [Maps.atKey_put_same h.isMap (by trivial)]
      simp
    · rw [Maps.atKey_put_other (by simpa using e), hS y hy]
      simp [e]
  · obtain ⟨es, clock, es', clock', hb, rfl⟩ := hturn
    simp [ChangeMaps.setBlock]

theorem new_cells (X : World) (b : Nat) : ∀ j u, [ptrTo b][j]? = some u → (X.alloc (.cells #[ptrTo b] 63)).cell? ((⟨X.heap.size, 0, none⟩ : Addr).add j) = some u :=
  fun _ _ hu => cell_add (Blk.new X 63 [ptrTo b]) hu
theorem new_one (b : Nat) : ∀ u ∈ [ptrTo b], u.oneCell' = true := by
  intro u hu
  simp only [List.mem_singleton] at hu
  subst hu
  rfl
theorem after_append {X w3 : World} {B base n : Nat} {v0 : Value} {xs : List Value} {o : Obj} (hV : Blk X B 62 [v0]) (hO : X.ownsRow base 63 1 v0 n xs) (hg : (X.alloc o).grownBy w3 v0.ownBlock) : Blk w3 B 62 [v0] :=
  (hV.alloc o).keeps ((Keeps.refl (fun b => v0.ownBlock = some b) (X.alloc o)).grown hg (fun k hk _ => hk)) (blk_ne_own (hO.alloc o) (hV.alloc o) (by decide))

def SetRel (W : World) (m : Nat) (zs : List Int) (i : Value) (wi : World) : Prop :=
  ∃ j : Nat, j ≤ zs.length ∧ i = .int .i64 j ∧ SetAt Try.prog 3 4 wi m (fun x => decide (x ∈ zs.take j)) j ∧ Keeps (fun b => b = m) W wi ∧ wi.heap.size = W.heap.size

set_option maxRecDepth 100000 in
set_option maxHeartbeats 4000000 in
theorem new_any (w : World) (lo hi : Nat) (v : Value) (ss : List StepV) (h : StepsAt w lo hi v ss) (hhi : hi ≤ w.heap.size) (hn : ∀ s ∈ ss, s.dk = 4 ∨ s.dk = 5 → 1 ≤ s.n ∧ s.n ≤ 9223372036854775807) (hss : ∀ s ∈ ss, s.set.length ≤ 1000000) (hlen : ss.length ≤ 1000000) :
    Calls Try.prog 10 #[v] w fun e w' => ∃ pbs, e = .returned (.pointer (some ⟨w.heap.size, 0, none⟩)) ∧ LinkAt w' w.heap.size w'.heap.size w.heap.size pbs (newOf ss) ∧ Below w.heap.size w w' := by
  obtain ⟨a, cap, rfl, q2, q3, q5, q6⟩ := id h
  have hl : ss.length ≤ 9223372036854775807 := by omega
  have H := Lib.hid h
  have HN := Lib.hid hn
  have HSS := Lib.hid hss
  clear h q5 q6 hn hss
  obtain ⟨i0, hi0, hz0, hz1, hz2⟩ := info_parts ptrInfo3
  have Hi0 := Lib.hid hi0
  have Hz0 := Lib.hid hz0
  have Hz1 := Lib.hid hz1
  have Hz2 := Lib.hid hz2
  clear hi0 hz0 hz1 hz2
  have hmm := @run_makeMap Try.prog
  go_enter Try.func10, Try.ntmps10
  go_wp2
  go_loopw [13] (NewRel w ss) (fun i _ => ss.length - (intOf i).toNat)
  case atStart => exact ⟨0, [], Nat.zero_le _, rfl, by simpa [newOf] using LinkAt.start w, (Below.refl _ _).alloc (Nat.le_refl _) _⟩
  case round =>
    obtain ⟨k, pbs, hk, rfl, hL, hb⟩ := hrel
    have HL := Lib.hid hL
    have HB := Lib.hid hb
    clear hL hb
    by_cases hlt : k < ss.length
    · obtain ⟨s, hs⟩ : ∃ s, ss[k]? = some s := ⟨_, List.getElem?_eq_getElem hlt⟩
      obtain ⟨g, o, arr, rfl, hr, ha, hgl⟩ := H.out.one HB.out hhi hs
      have HR := Lib.hid hr
      have Ha := Lib.hid ha
      have HS := Lib.hid hs
      have hnn := Lib.hid (HN.out s (List.mem_of_getElem? hs))
      have hsl := HSS.out s (List.mem_of_getElem? hs)
      clear hr ha hs
      obtain ⟨v0, hv0, hvo, hvh⟩ := HL.out.root
      have HV0 := Lib.hid hv0
      have HVO := Lib.hid hvo
      clear hv0 hvo hvh
      go_upto_region 5 with (first | (refine wpL_load rfl (.tmp 15) rfl _ _ rfl arr HR.out Ha.out.size ?_) | (refine wpList_store_blk rfl 38 (.tmp 5) (.tmp 16) rfl wr.heap.size arr rfl ?hy 38 (stepMk 0 0 0 0 (.slice none 0 0)).toList ?hB ?hi ?hl Ha.out.one ?_; rotate_right; intro w1 B1 K1 S1; have HB1 := Lib.hid B1; have HK1 := Lib.hid K1; have HS1 := Lib.hid S1; clear B1 K1 S1))
      case hy => rfl
      case hB => exact Blk.new wr 38 (stepMk 0 0 0 0 (.slice none 0 0)).toList
      case hi => rw [Ha.out.size]; exact stepInfo
      case hl => rw [Ha.out.size]; rfl
      obtain ⟨wo, rfl⟩ : ∃ wo : World, wo = wr := ⟨_, rfl⟩
      obtain ⟨sv, e5, hset⟩ := Ha.out.set
      have c0 : w1.cell? ⟨wo.heap.size, 0, none⟩ = some (.int .i64 s.dk) := cell_of_blk HB1.out (by simpa using Ha.out.dk)
      have c1 : w1.cell? ⟨wo.heap.size, 1, none⟩ = some (.int .i64 s.fr) := cell_of_blk HB1.out (by simpa using Ha.out.fr)
      have c2 : w1.cell? ⟨wo.heap.size, 2, none⟩ = some (.int .i64 s.til) := cell_of_blk HB1.out (by simpa using Ha.out.til)
      have c4 : w1.cell? ⟨wo.heap.size, 4, none⟩ = some (.int .i64 s.n) := cell_of_blk HB1.out (by simpa using Ha.out.n)
      have c5 : w1.cell? ⟨wo.heap.size, 5, none⟩ = some sv := cell_of_blk HB1.out (by simpa using e5)
      have s1 : w1.heap.size = wo.heap.size + 1 := by rw [HS1.out]; simp
      have HK : Hid (Keeps (fun _ => False) wo w1) := Lib.hid ((((Keeps.refl (fun b => b = wo.heap.size) wo).alloc _).trans HK1.out).mono (fun b hb e => by omega))
      have Hset := Lib.hid hset
      clear e5 hset HK1 HS1
      obtain ⟨dk, fr, til, n, set⟩ := s
      simp only at c0 c1 c2 c4 hsl
      by_cases h3 : dk = 3
      · subst h3
        obtain ⟨sa, caps, hsv, p2, p3, p4, p5, p6⟩ := id Hset.out
        rw [hsv] at c5
        have P4 := Lib.hid p4
        have P5 := Lib.hid p5
        have P6 := Lib.hid p6
        have hsl63 : set.length ≤ 9223372036854775807 := by omega
        clear p4 p5 p6 hsv
        go_wp2_with fail
        have HW : Hid (SetAt Try.prog 3 4 ((w1.alloc (.map #[] 0)).alloc (.cells #[.int .i64 3, .int .i64 fr, .int .i64 til, .int .i64 0, .map (some (wo.heap.size + 1)), .int .i64 0] 66)) (wo.heap.size + 1) (fun _ => false) 0) := Lib.hid (by have := SetAt.made (P := Try.prog) (kT := 3) (eT := 4) w1; rw [s1] at this; exact this.keeps ((Keeps.refl (fun _ => False) _).alloc _) (fun x => x))
        have HKW : Hid (Keeps (fun _ => False) wo ((w1.alloc (.map #[] 0)).alloc (.cells #[.int .i64 3, .int .i64 fr, .int .i64 til, .int .i64 0, .map (some (wo.heap.size + 1)), .int .i64 0] 66))) := Lib.hid ((HK.out.alloc _).alloc _)
        have HBW : Hid (Blk ((w1.alloc (.map #[] 0)).alloc (.cells #[.int .i64 3, .int .i64 fr, .int .i64 til, .int .i64 0, .map (some (wo.heap.size + 1)), .int .i64 0] 66)) (wo.heap.size + 1 + 1) 66 [.int .i64 3, .int .i64 fr, .int .i64 til, .int .i64 0, .map (some (wo.heap.size + 1)), .int .i64 0]) := Lib.hid (blk_new _ 66 _ (by simp [s1]))
        have hWs : ((w1.alloc (.map #[] 0)).alloc (.cells #[.int .i64 3, .int .i64 fr, .int .i64 til, .int .i64 0, .map (some (wo.heap.size + 1)), .int .i64 0] 66)).heap.size = wo.heap.size + 3 := by simp [s1]
        clear c0 c1 c2 c4 c5 s1
        generalize (w1.alloc (.map #[] 0)).alloc (.cells #[.int .i64 3, .int .i64 fr, .int .i64 til, .int .i64 0, .map (some (wo.heap.size + 1)), .int .i64 0] 66) = W at HW HKW HBW hWs ⊢
        have HWs := Lib.hid hWs
        clear hWs
        go_loopw [37] (SetRel W (wo.heap.size + 1) set) (fun i _ => set.length - (intOf i).toNat)
        case atStart => exact ⟨0, Nat.zero_le _, rfl, by simpa using HW.out, Keeps.refl _ _, rfl⟩
        case round =>
          obtain ⟨j, hj, rfl, hSet, hKi, hsz⟩ := hrel
          have HSet := Lib.hid hSet
          have HKi := Lib.hid hKi
          have Hsz := Lib.hid hsz
          clear hSet hKi hsz
          by_cases hjl : j < set.length
          · obtain ⟨x, hx⟩ : ∃ x, set[j]? = some x := ⟨_, List.getElem?_eq_getElem hjl⟩
            obtain ⟨g2, o2, rfl, hcx⟩ := P6.out j x hx
            have hg2 : g2 < wo.heap.size := World.block_lt_of_cell? _ _ hcx
            have cx : wr.cell? ⟨g2, o2 + j, none⟩ = some (.int .i64 x) := by
              rw [HKi.out.cell (p := ⟨g2, o2 + j, none⟩) (by have := HWs.out; show g2 < _; omega) (by show ¬ g2 = _; omega), HKW.out.cell (p := ⟨g2, o2 + j, none⟩) hg2 (fun x => x)]
              exact hcx
            have c4 : wr.cell? ⟨wo.heap.size + 1 + 1, 4, none⟩ = some (.map (some (wo.heap.size + 1))) := cell_of_blk (HBW.out.keeps HKi.out (by omega)) rfl
            obtain ⟨w', hrun, hset', hgrow, hsize'⟩ := HSet.out.update2 Try.underlying3 Try.underlying4 Try.underlying64 (by unfold maxLen; omega) x (P4.out x (List.mem_of_getElem? hx)) true
            have HX := Lib.hid hx
            have HSet' := Lib.hid hset'
            have HGrow := Lib.hid hgrow
            have HSize' := Lib.hid hsize'
            clear hcx hx hset' hgrow hsize'
            go_wp2
            go_roundw
            case rel =>
              refine ⟨j + 1, hjl, rfl, ?_, HKi.out.grown HGrow.out (fun b hb _ => (Option.some.inj hb).symm), by
                have q1 := HGrow.out.size
                have q2 := Hsz.out
                exact HSize'.out.trans q2⟩
              obtain ⟨_, rfl⟩ := List.getElem?_eq_some_iff.1 HX.out
              have e : (fun y => decide (y ∈ set.take (j + 1))) = (fun y => if y = set[j] then true else decide (y ∈ set.take j)) := by
                funext y
                exact dec_take hjl y
              rw [e]
              exact HSet'.out
            case measure => simp [intOf]; omega
          · obtain rfl : j = set.length := by omega
            rw [show (fun x => decide (x ∈ set.take set.length)) = (fun x => decide (x ∈ set)) from by rw [List.take_length]] at HSet
            have HKX : Hid (Keeps (fun _ => False) wo wr) := Lib.hid ((HKW.out.mono (S' := fun b => b = wo.heap.size + 1) (fun _ _ x => x.elim)).trans HKi.out |>.mono (fun b hb e => by omega))
            have FX : Hid (FaultAt wr w.heap.size wr.heap.size (wo.heap.size + 1 + 1) { dk := 3, fr := fr, til := til, each := 0, set := fun d => decide (d ∈ set), count := 0 }) := Lib.hid (by
              have q0 := HB.out.size
              have q1 := Hsz.out
              have q2 := HWs.out
              exact ⟨⟨.inl rfl, .inl rfl, by simp, by simp, by simp⟩, by omega, by omega, wo.heap.size + 1, by omega, by omega, HBW.out.keeps HKi.out (by omega), _, HSet.out⟩)
            have HXS : Hid (wr.heap.size = wo.heap.size + 3) := Lib.hid (by rw [Hsz.out, HWs.out])
            clear HSet HKi Hsz HWs HKW HBW HW
            obtain ⟨X, rfl⟩ : ∃ X : World, X = wr := ⟨_, rfl⟩
            have HLX : Hid (LinkAt X w.heap.size wo.heap.size w.heap.size pbs (newOf (ss.take k))) := Lib.hid (HL.out.keeps HKX.out (fun _ _ _ x => x))
            have HVX : Hid (Blk X w.heap.size 62 [v0]) := Lib.hid (HV0.out.keeps HKX.out (fun x => x))
            have HOX : Hid (X.ownsRow w.heap.size 63 1 v0 (newOf (ss.take k)).length (pbs.map ptrTo)) := Lib.hid (ownsRow_keeps HVO.out HKX.out (fun _ _ x => x))
            have hwx : w.heap.size < X.heap.size := by have := HL.out.phi; have := HKX.out.size; omega
            have cr := cell_of_blk HVX.out (i := 0) rfl
            have hnl : (newOf (ss.take k)).length ≤ k := Nat.le_trans (newOf_len _) (List.length_take_le _ _)
            have Hc3 : Hid ((newOf (ss.take k)).length + 1 ≤ maxLen) := Lib.hid (by unfold maxLen; omega)
            have Hc4 : Hid (((newOf (ss.take k)).length + 1) * 8 ≤ 140737488355328) := Lib.hid (by omega)
            have Hc5 : Hid (w.heap.size ≤ (X.alloc (.cells #[ptrTo (wo.heap.size + 1 + 1)] 63)).heap.size) := Lib.hid (by simp; omega)
            go_wp2_with (at_builtin; (refine wpL_append rfl (.tmp 51) (.tmp 53) 60 rfl w.heap.size 63 i0 (.pointer none) 1 8 Try.underlying60 Hi0.out Hz0.out Hz1.out Hz2.out rfl (Nat.succ_pos _) v0 (newOf (ss.take k)).length (pbs.map ptrTo) rfl (HOX.out.alloc (.cells #[ptrTo (wo.heap.size + 1 + 1)] 63)) ⟨X.heap.size, 0, none⟩ 1 1 [ptrTo (wo.heap.size + 1 + 1)] rfl rfl (new_cells X (wo.heap.size + 1 + 1)) (new_one (wo.heap.size + 1 + 1)) Nat.one_pos Hc3.out Hc4.out Hc5.out ?_); intro v' w3 hown hg hv; obtain ⟨a', c', hv'⟩ := own_form hown; rw [hv'] at hown hv ⊢; have B3 := after_append HVX.out HOX.out hg; have cr3 := cell_of_blk B3 (i := 0) (v := v0) rfl; have fr3 := B3.frozen 0; have HB3 := Lib.hid B3; clear B3; have HO := Lib.hid hown; have HG3 := Lib.hid hg; have HVV := Lib.hid hv; clear hown hg hv hv' cr)
            have HP := HL.out.push HV0.out HVO.out (HKX.out.alloc _) (FX.out.keepsOwn ((Keeps.refl (fun _ => False) X).alloc _) (by simp) (fun _ _ _ _ => ⟨fun x => x, fun x => x⟩)) (by omega) HO.out HG3.out HVV.out (by omega)
            have HR2 : Hid (NewRel w ss (.int .i64 (k + 1)) (w3.setCell ⟨w.heap.size, 0, none⟩ (.slice a' ((newOf (ss.take k)).length + 1) c'))) := Lib.hid ⟨k + 1, _, hlt, rfl, by
              rw [newOf_succ HS.out]
              simpa [toFlt] using HP, by
              have h1 := ((Below.refl w.heap.size w).trans HB.out).trans (HKX.out.toBelow HB.out.size (fun _ _ x => x))
              exact ((h1.alloc (by omega) _).grown HG3.out (by simp; omega) (fun b hb => (HVO.out.lt b hb).1)).setCell (Nat.le_refl _) _⟩
            clear cr3 fr3
            go_wp2
            go_roundw
            case rel => exact HR2.out
            case measure => simp [intOf]; omega
      by_cases h4 : dk = 4
      · subst h4
        obtain ⟨n1, n2⟩ := hnn.out (by simp)
        simp only at n1 n2
        have hwo1 : wo.heap.size < w1.heap.size := by omega
        go_upto_region 17 with (fail)
        have HW : Hid (SetAt Try.prog 3 4 ((w1.alloc (.map #[] 0)).alloc (.cells #[.int .i64 4, .int .i64 fr, .int .i64 til, .int .i64 n, .map (some (wo.heap.size + 1)), .int .i64 0] 66)) (wo.heap.size + 1) (fun _ => false) 0) := Lib.hid (by have := SetAt.made (P := Try.prog) (kT := 3) (eT := 4) w1; rw [s1] at this; exact this.keeps ((Keeps.refl (fun _ => False) _).alloc _) (fun x => x))
        have HKX : Hid (Keeps (fun _ => False) wo ((w1.alloc (.map #[] 0)).alloc (.cells #[.int .i64 4, .int .i64 fr, .int .i64 til, .int .i64 n, .map (some (wo.heap.size + 1)), .int .i64 0] 66))) := Lib.hid ((HK.out.alloc _).alloc _)
        have HBW : Hid (Blk ((w1.alloc (.map #[] 0)).alloc (.cells #[.int .i64 4, .int .i64 fr, .int .i64 til, .int .i64 n, .map (some (wo.heap.size + 1)), .int .i64 0] 66)) (wo.heap.size + 1 + 1) 66 [.int .i64 4, .int .i64 fr, .int .i64 til, .int .i64 n, .map (some (wo.heap.size + 1)), .int .i64 0]) := Lib.hid (blk_new _ 66 _ (by simp [s1]))
        have hWs : ((w1.alloc (.map #[] 0)).alloc (.cells #[.int .i64 4, .int .i64 fr, .int .i64 til, .int .i64 n, .map (some (wo.heap.size + 1)), .int .i64 0] 66)).heap.size = wo.heap.size + 3 := by simp [s1]
        clear c0 c1 c2 c4 c5 s1
        generalize (w1.alloc (.map #[] 0)).alloc (.cells #[.int .i64 4, .int .i64 fr, .int .i64 til, .int .i64 n, .map (some (wo.heap.size + 1)), .int .i64 0] 66) = X at HW HKX HBW hWs ⊢
        have HXS := Lib.hid hWs
        clear hWs hwo1
        have FX : Hid (FaultAt X w.heap.size X.heap.size (wo.heap.size + 1 + 1) { dk := 4, fr := fr, til := til, each := n, set := fun _ => false, count := 0 }) := Lib.hid (by
          have q0 := HB.out.size
          have q2 := HXS.out
          exact ⟨⟨by simp, .inr n1, n2, by simp, by simp⟩, by omega, by omega, wo.heap.size + 1, by omega, by omega, HBW.out, _, HW.out⟩)
        clear HBW HW
        have HLX : Hid (LinkAt X w.heap.size wo.heap.size w.heap.size pbs (newOf (ss.take k))) := Lib.hid (HL.out.keeps HKX.out (fun _ _ _ x => x))
        have HVX : Hid (Blk X w.heap.size 62 [v0]) := Lib.hid (HV0.out.keeps HKX.out (fun x => x))
        have HOX : Hid (X.ownsRow w.heap.size 63 1 v0 (newOf (ss.take k)).length (pbs.map ptrTo)) := Lib.hid (ownsRow_keeps HVO.out HKX.out (fun _ _ x => x))
        have hwx : w.heap.size < X.heap.size := by have := HL.out.phi; have := HKX.out.size; omega
        have cr := cell_of_blk HVX.out (i := 0) rfl
        have hnl : (newOf (ss.take k)).length ≤ k := Nat.le_trans (newOf_len _) (List.length_take_le _ _)
        have Hc3 : Hid ((newOf (ss.take k)).length + 1 ≤ maxLen) := Lib.hid (by unfold maxLen; omega)
        have Hc4 : Hid (((newOf (ss.take k)).length + 1) * 8 ≤ 140737488355328) := Lib.hid (by omega)
        have Hc5 : Hid (w.heap.size ≤ (X.alloc (.cells #[ptrTo (wo.heap.size + 1 + 1)] 63)).heap.size) := Lib.hid (by simp; omega)
        go_wp2_with (at_builtin; (refine wpL_append rfl (.tmp 66) (.tmp 68) 60 rfl w.heap.size 63 i0 (.pointer none) 1 8 Try.underlying60 Hi0.out Hz0.out Hz1.out Hz2.out rfl (Nat.succ_pos _) v0 (newOf (ss.take k)).length (pbs.map ptrTo) rfl (HOX.out.alloc (.cells #[ptrTo (wo.heap.size + 1 + 1)] 63)) ⟨X.heap.size, 0, none⟩ 1 1 [ptrTo (wo.heap.size + 1 + 1)] rfl rfl (new_cells X (wo.heap.size + 1 + 1)) (new_one (wo.heap.size + 1 + 1)) Nat.one_pos Hc3.out Hc4.out Hc5.out ?_); intro v' w3 hown hg hv; obtain ⟨a', c', hv'⟩ := own_form hown; rw [hv'] at hown hv ⊢; have B3 := after_append HVX.out HOX.out hg; have cr3 := cell_of_blk B3 (i := 0) (v := v0) rfl; have fr3 := B3.frozen 0; have HB3 := Lib.hid B3; clear B3; have HO := Lib.hid hown; have HG3 := Lib.hid hg; have HVV := Lib.hid hv; clear hown hg hv hv' cr)
        have HP := HL.out.push HV0.out HVO.out (HKX.out.alloc _) (FX.out.keepsOwn ((Keeps.refl (fun _ => False) X).alloc _) (by simp) (fun _ _ _ _ => ⟨fun x => x, fun x => x⟩)) (by omega) HO.out HG3.out HVV.out (by omega)
        have HR2 : Hid (NewRel w ss (.int .i64 (k + 1)) (w3.setCell ⟨w.heap.size, 0, none⟩ (.slice a' ((newOf (ss.take k)).length + 1) c'))) := Lib.hid ⟨k + 1, _, hlt, rfl, by
          rw [newOf_succ HS.out]
          simpa [toFlt] using HP, by
          have h1 := ((Below.refl w.heap.size w).trans HB.out).trans (HKX.out.toBelow HB.out.size (fun _ _ x => x))
          exact ((h1.alloc (by omega) _).grown HG3.out (by simp; omega) (fun b hb => (HVO.out.lt b hb).1)).setCell (Nat.le_refl _) _⟩
        clear cr3 fr3
        go_wp2
        go_roundw
        case rel => exact HR2.out
        case measure => simp [intOf]; omega
      by_cases h5 : dk = 5
      · subst h5
        obtain ⟨n1, n2⟩ := hnn.out (by simp)
        simp only at n1 n2
        have hwo1 : wo.heap.size < w1.heap.size := by omega
        go_upto_region 17 with (fail)
        have HW : Hid (SetAt Try.prog 3 4 ((w1.alloc (.map #[] 0)).alloc (.cells #[.int .i64 5, .int .i64 fr, .int .i64 til, .int .i64 n, .map (some (wo.heap.size + 1)), .int .i64 0] 66)) (wo.heap.size + 1) (fun _ => false) 0) := Lib.hid (by have := SetAt.made (P := Try.prog) (kT := 3) (eT := 4) w1; rw [s1] at this; exact this.keeps ((Keeps.refl (fun _ => False) _).alloc _) (fun x => x))
        have HKX : Hid (Keeps (fun _ => False) wo ((w1.alloc (.map #[] 0)).alloc (.cells #[.int .i64 5, .int .i64 fr, .int .i64 til, .int .i64 n, .map (some (wo.heap.size + 1)), .int .i64 0] 66))) := Lib.hid ((HK.out.alloc _).alloc _)
        have HBW : Hid (Blk ((w1.alloc (.map #[] 0)).alloc (.cells #[.int .i64 5, .int .i64 fr, .int .i64 til, .int .i64 n, .map (some (wo.heap.size + 1)), .int .i64 0] 66)) (wo.heap.size + 1 + 1) 66 [.int .i64 5, .int .i64 fr, .int .i64 til, .int .i64 n, .map (some (wo.heap.size + 1)), .int .i64 0]) := Lib.hid (blk_new _ 66 _ (by simp [s1]))
        have hWs : ((w1.alloc (.map #[] 0)).alloc (.cells #[.int .i64 5, .int .i64 fr, .int .i64 til, .int .i64 n, .map (some (wo.heap.size + 1)), .int .i64 0] 66)).heap.size = wo.heap.size + 3 := by simp [s1]
        clear c0 c1 c2 c4 c5 s1
        generalize (w1.alloc (.map #[] 0)).alloc (.cells #[.int .i64 5, .int .i64 fr, .int .i64 til, .int .i64 n, .map (some (wo.heap.size + 1)), .int .i64 0] 66) = X at HW HKX HBW hWs ⊢
        have HXS := Lib.hid hWs
        clear hWs hwo1
        have FX : Hid (FaultAt X w.heap.size X.heap.size (wo.heap.size + 1 + 1) { dk := 5, fr := fr, til := til, each := n, set := fun _ => false, count := 0 }) := Lib.hid (by
          have q0 := HB.out.size
          have q2 := HXS.out
          exact ⟨⟨by simp, .inr n1, n2, by simp, by simp⟩, by omega, by omega, wo.heap.size + 1, by omega, by omega, HBW.out, _, HW.out⟩)
        clear HBW HW
        have HLX : Hid (LinkAt X w.heap.size wo.heap.size w.heap.size pbs (newOf (ss.take k))) := Lib.hid (HL.out.keeps HKX.out (fun _ _ _ x => x))
        have HVX : Hid (Blk X w.heap.size 62 [v0]) := Lib.hid (HV0.out.keeps HKX.out (fun x => x))
        have HOX : Hid (X.ownsRow w.heap.size 63 1 v0 (newOf (ss.take k)).length (pbs.map ptrTo)) := Lib.hid (ownsRow_keeps HVO.out HKX.out (fun _ _ x => x))
        have hwx : w.heap.size < X.heap.size := by have := HL.out.phi; have := HKX.out.size; omega
        have cr := cell_of_blk HVX.out (i := 0) rfl
        have hnl : (newOf (ss.take k)).length ≤ k := Nat.le_trans (newOf_len _) (List.length_take_le _ _)
        have Hc3 : Hid ((newOf (ss.take k)).length + 1 ≤ maxLen) := Lib.hid (by unfold maxLen; omega)
        have Hc4 : Hid (((newOf (ss.take k)).length + 1) * 8 ≤ 140737488355328) := Lib.hid (by omega)
        have Hc5 : Hid (w.heap.size ≤ (X.alloc (.cells #[ptrTo (wo.heap.size + 1 + 1)] 63)).heap.size) := Lib.hid (by simp; omega)
        go_wp2_with (at_builtin; (refine wpL_append rfl (.tmp 66) (.tmp 68) 60 rfl w.heap.size 63 i0 (.pointer none) 1 8 Try.underlying60 Hi0.out Hz0.out Hz1.out Hz2.out rfl (Nat.succ_pos _) v0 (newOf (ss.take k)).length (pbs.map ptrTo) rfl (HOX.out.alloc (.cells #[ptrTo (wo.heap.size + 1 + 1)] 63)) ⟨X.heap.size, 0, none⟩ 1 1 [ptrTo (wo.heap.size + 1 + 1)] rfl rfl (new_cells X (wo.heap.size + 1 + 1)) (new_one (wo.heap.size + 1 + 1)) Nat.one_pos Hc3.out Hc4.out Hc5.out ?_); intro v' w3 hown hg hv; obtain ⟨a', c', hv'⟩ := own_form hown; rw [hv'] at hown hv ⊢; have B3 := after_append HVX.out HOX.out hg; have cr3 := cell_of_blk B3 (i := 0) (v := v0) rfl; have fr3 := B3.frozen 0; have HB3 := Lib.hid B3; clear B3; have HO := Lib.hid hown; have HG3 := Lib.hid hg; have HVV := Lib.hid hv; clear hown hg hv hv' cr)
        have HP := HL.out.push HV0.out HVO.out (HKX.out.alloc _) (FX.out.keepsOwn ((Keeps.refl (fun _ => False) X).alloc _) (by simp) (fun _ _ _ _ => ⟨fun x => x, fun x => x⟩)) (by omega) HO.out HG3.out HVV.out (by omega)
        have HR2 : Hid (NewRel w ss (.int .i64 (k + 1)) (w3.setCell ⟨w.heap.size, 0, none⟩ (.slice a' ((newOf (ss.take k)).length + 1) c'))) := Lib.hid ⟨k + 1, _, hlt, rfl, by
          rw [newOf_succ HS.out]
          simpa [toFlt] using HP, by
          have h1 := ((Below.refl w.heap.size w).trans HB.out).trans (HKX.out.toBelow HB.out.size (fun _ _ x => x))
          exact ((h1.alloc (by omega) _).grown HG3.out (by simp; omega) (fun b hb => (HVO.out.lt b hb).1)).setCell (Nat.le_refl _) _⟩
        clear cr3 fr3
        go_wp2
        go_roundw
        case rel => exact HR2.out
        case measure => simp [intOf]; omega
      · have e3 : (dk == 3) = false := by simpa using h3
        have e4 : (dk == 4) = false := by simpa using h4
        have e5 : (dk == 5) = false := by simpa using h5
        have HF : Hid (toFlt ⟨dk, fr, til, n, set⟩ = none) := Lib.hid (by simp [toFlt, h3, h4, h5])
        have HKX : Hid (Keeps (fun _ => False) wo ((w1.alloc (.map #[] 0)).alloc (.cells #[.int .i64 dk, .int .i64 fr, .int .i64 til, .int .i64 0, .map (some (wo.heap.size + 1)), .int .i64 0] 66))) := Lib.hid ((HK.out.alloc _).alloc _)
        clear h3 h4 h5
        go_wp2
        go_roundw
        case rel =>
          refine ⟨k + 1, pbs, hlt, rfl, ?_, HB.out.trans (HKX.out.toBelow HB.out.size (fun _ _ x => x))⟩
          rw [newOf_succ HS.out, HF.out]
          simp only [Option.toList_none, List.append_nil]
          exact (HL.out.keeps HKX.out (fun _ _ _ x => x)).mono HKX.out.size (Nat.le_refl _)
        case measure => simp [intOf]; omega
    · obtain rfl : k = ss.length := by omega
      rw [List.take_length] at HL
      go_wp2
      go_ret
      exact ⟨pbs, rfl, HL.out, HB.out⟩
end Go.Proofs.Ytmgjccalpdlbbaa
