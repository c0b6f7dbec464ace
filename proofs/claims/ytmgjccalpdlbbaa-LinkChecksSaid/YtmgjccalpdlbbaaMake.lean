/- The references' Steps and Rounds, which make lines and rounds of numbers, by their contracts. -/
import Derived.Test.YtmgjccalpdlbbaaSteps
import Derived.Test.YtmgjccalpdlbbaaAppend
namespace Go.Proofs.Ytmgjccalpdlbbaa
open Go.RowKit
set_option linter.unusedVariables false

theorem stepInfo3 : (Try.prog.info? 38).map (fun i => (i.zero, i.size, i.bytes)) = some (some (.agg (stepMk 0 0 0 0 (.slice none 0 0))), 34, 408) := by kernel_rfl
theorem intInfo3 : (Try.prog.info? 3).map (fun i => (i.zero, i.size, i.bytes)) = some (some (.int .i64 0), 1, 8) := by kernel_rfl

theorem IntsAt.mono' {w : World} {lo hi lo' hi' : Nat} {v : Value} {zs : List Int} (h : IntsAt w lo hi v zs) (h1 : lo' ≤ lo) (h2 : hi ≤ hi') : IntsAt w lo' hi' v zs := h.mono h1 h2
theorem StepArr.mono {w : World} {lo hi lo' hi' : Nat} {s : StepV} {arr : Array Value} (h : StepArr w lo hi s arr) (h1 : lo' ≤ lo) (h2 : hi ≤ hi') : StepArr w lo' hi' s arr := by
  obtain ⟨sv, a1, a2⟩ := h.set
  exact ⟨h.size, h.one, h.dk, h.fr, h.til, h.n, sv, a1, a2.mono h1 h2⟩
theorem StepsAt.mono {w : World} {lo hi lo' hi' : Nat} {v : Value} {ss : List StepV} (h : StepsAt w lo hi v ss) (h1 : lo' ≤ lo) (h2 : hi ≤ hi') : StepsAt w lo' hi' v ss := by
  obtain ⟨a, cap, q1, q2, q3, q5, q6⟩ := h
  refine ⟨a, cap, q1, q2, q3, fun x hx => ⟨Nat.le_trans h1 (q5 x hx).1, Nat.lt_of_lt_of_le (q5 x hx).2 h2⟩, fun i s hs => ?_⟩
  obtain ⟨g, o, arr, e, hr, ha⟩ := q6 i s hs
  exact ⟨g, o, arr, e, hr, ha.mono h1 h2⟩
theorem stepMk_arr {w : World} {lo hi : Nat} {s : StepV} {sv : Value} (h1 : sv.oneCell' = true) (h : IntsAt w lo hi sv s.set) : StepArr w lo hi s (stepMk s.dk s.fr s.til s.n sv) :=
  ⟨rfl, stepMk_one _ _ _ _ _ h1, rfl, rfl, rfl, rfl, sv, rfl, h⟩

/-- Rows of lines, one behind the other. -/
theorem flat_get : ∀ (arrs : List (Array Value)) (i j : Nat) (arr : Array Value), (∀ a ∈ arrs, a.size = 34) → arrs[i]? = some arr → j < 34 → (arrs.flatMap Array.toList)[i * 34 + j]? = arr[j]?
  | [], i, j, arr, _, h, _ => by simp at h
  | b :: r, 0, j, arr, hs, h, hj => by
    simp at h
    subst h
    have := hs b (by simp)
    rw [List.flatMap_cons, List.getElem?_append_left (by simp; omega)]
    simp
  | b :: r, i + 1, j, arr, hs, h, hj => by
    have hb := hs b (by simp)
    rw [List.flatMap_cons, List.getElem?_append_right (by simp; omega)]
    have e : (i + 1) * 34 + j - b.toList.length = i * 34 + j := by simp; omega
    rw [e]
    exact flat_get r i j arr (fun a ha => hs a (by simp [ha])) (by simpa using h) hj

/-- What the call itself has gathered reads as a list of lines. -/
theorem StepsAt.ofOwn {w : World} {base hi : Nat} {v : Value} {arrs : List (Array Value)} {ss : List StepV} (h : w.ownsRow base 38 34 v ss.length (arrs.flatMap Array.toList)) (hl : arrs.length = ss.length) (ha : ∀ (i : Nat) s arr, ss[i]? = some s → arrs[i]? = some arr → StepArr w base hi s arr) (hhi : w.heap.size ≤ hi) : StepsAt w base hi v ss := by
  have hsz : ∀ a ∈ arrs, a.size = 34 := by
    intro a hm
    obtain ⟨i, hi⟩ := List.mem_iff_getElem?.1 hm
    have hlt := (List.getElem?_eq_some_iff.1 hi).1
    exact (ha i _ a (List.getElem?_eq_getElem (by omega)) hi).size
  rcases h.2 with ⟨rfl, hn⟩ | ⟨g, cap, cur, rfl, hb, hg, hle, hm, hs, ht⟩
  · refine ⟨none, 0, by rw [hn], by omega, by omega, by simp, fun i s hs => ?_⟩
    have := (List.getElem?_eq_some_iff.1 hs).1
    omega
  · refine ⟨some ⟨g, 0, none⟩, cap, rfl, hle, by unfold maxLen at hm; omega, fun x hx => by cases hx; exact ⟨hb, Nat.lt_of_lt_of_le (Array.getElem?_eq_some_iff.1 hg).1 hhi⟩, fun i s hs => ?_⟩
    have hlt := (List.getElem?_eq_some_iff.1 hs).1
    obtain ⟨arr, harr⟩ : ∃ arr, arrs[i]? = some arr := ⟨_, List.getElem?_eq_getElem (by omega)⟩
    have hA := ha i s arr hs harr
    refine ⟨g, 0, arr, rfl, fun j u hu => ?_, hA⟩
    have hj : j < 34 := by have := (List.getElem?_eq_some_iff.1 hu).1; simp [hA.size] at this; exact this
    have hc := h.cells (g := g) rfl (i * 34 + j) u (by rw [flat_get arrs i j arr hsz harr hj]; simpa using hu)
    have hadd : (⟨g, 0, none⟩ : Addr).add (i * 34 + j) = ⟨g, 0 + i * 34 + j, none⟩ := by unfold Addr.add; split <;> simp_all
    rwa [hadd] at hc

/-- '[]api.Step{s}'. -/
theorem wpL_buildOne {ops : Array Oper} {rest : List Oper} {op : Oper} {a : Act} {w : World} {Q : Exit → Act → World → Prop} (hw : Region.wanted op (yielded ops a.tmps) = true) (x : Operand) (ho : op.op = .buildSlice 41 1 #[(0, x)])
    (arr : Array Value) (hx : a.eval x = .agg arr) (hs : arr.size = 34)
    (h : ∀ w', Blk w' w.heap.size 38 arr.toList → Keeps (fun _ => False) w w' → w'.heap.size = w.heap.size + 1 → wpList Try.prog ops Q rest (a.put op.dst (.slice (some ⟨w.heap.size, 0, none⟩) 1 1)) w') : wpList Try.prog ops Q (op :: rest) a w := by
  obtain ⟨i0, hi, hz0, hz1, hz2⟩ := info_parts stepInfo3
  refine BigFrame.wpList_want hw fun K hK => ?_
  have hr := run_buildSlice_one (P := Try.prog) w 41 38 i0 _ arr Try.underlying41 hi hz0 (by rw [hz1]; rfl) (by rw [hz1]; exact hs) (by omega) (by omega)
  unfold Oper.wp execOp
  simp only [ho, List.map_toArray, List.map_cons, List.map_nil, hx, Sem.run_bind, hr, Result.andThen_ok, Sem.run_pure]
  refine hK _ _ (h _ ?_ ((Keeps.refl _ _).alloc _) (by simp))
  have := Blk.new w 38 arr.toList
  simpa using this
theorem IntsAt.keepsOwn {S : Nat → Prop} {w w' : World} {lo hi : Nat} {v : Value} {zs : List Int} (h : IntsAt w lo hi v zs) (k : Keeps S w w') (hS : ∀ b, v.ownBlock = some b → ¬ S b) : IntsAt w' lo hi v zs := by
  obtain ⟨a, cap, rfl, h2, h3, h4, h5, h6⟩ := h
  refine ⟨a, cap, rfl, h2, h3, h4, h5, fun i z hz => ?_⟩
  obtain ⟨g, o, rfl, hc⟩ := h6 i z hz
  exact ⟨g, o, rfl, by rw [k.cell (p := ⟨g, o + i, none⟩) (World.block_lt_of_cell? _ _ hc) (hS g rfl)]; exact hc⟩
theorem IntsAt.own {w : World} {lo hi : Nat} {v : Value} {zs : List Int} (h : IntsAt w lo hi v zs) {b : Nat} (hb : v.ownBlock = some b) : lo ≤ b ∧ b < hi := by
  obtain ⟨a, cap, rfl, h2, h3, h4, h5, h6⟩ := h
  cases a with
  | none => simp [Value.ownBlock] at hb
  | some x => simp [Value.ownBlock] at hb; subst hb; exact h5 x rfl
theorem StepArr.keepsOwn {S : Nat → Prop} {w w' : World} {lo hi : Nat} {s : StepV} {arr : Array Value} (h : StepArr w lo hi s arr) (k : Keeps S w w') (hS : ∀ sv b, arr[5]? = some sv → sv.ownBlock = some b → ¬ S b) : StepArr w' lo hi s arr := by
  obtain ⟨sv, h1, h2⟩ := h.set
  exact ⟨h.size, h.one, h.dk, h.fr, h.til, h.n, sv, h1, h2.keepsOwn k (fun b hb => hS sv b h1 hb)⟩

def stepsOf (zs : List Int) : List StepV := (zs.take 6).map stepV
/-- Lines that lie in a row of the call's own, v, the rows of their sets apart from it. -/
structure Gathered (w : World) (base : Nat) (v : Value) (ss : List StepV) (arrs : List (Array Value)) : Prop where
  own : w.ownsRow base 38 34 v ss.length (arrs.flatMap Array.toList)
  len : arrs.length = ss.length
  at' : ∀ (j : Nat) s arr, ss[j]? = some s → arrs[j]? = some arr → StepArr w base w.heap.size s arr
  apart : ∀ (j : Nat) arr sv b, arrs[j]? = some arr → arr[5]? = some sv → sv.ownBlock = some b → v.ownBlock ≠ some b

theorem Gathered.start (w : World) (base : Nat) : Gathered w base (.slice none 0 0) [] [] := ⟨World.ownsRow_nil w base _ _, rfl, by simp, by simp⟩
theorem Gathered.steps {w : World} {base : Nat} {v : Value} {ss : List StepV} {arrs : List (Array Value)} (h : Gathered w base v ss arrs) : StepsAt w base w.heap.size v ss := StepsAt.ofOwn h.own h.len h.at' (Nat.le_refl _)

/-- One line more is appended: w1: behind its making; w2: behind that of the one-line row; w3: behind the append. -/
theorem Gathered.push {wr w1 w2 w3 : World} {base : Nat} {v v' : Value} {ss : List StepV} {arrs : List (Array Value)} {s : StepV} {arr : Array Value} (h : Gathered wr base v ss arrs)
    (h1 : Below wr.heap.size wr w1) (hb : base ≤ wr.heap.size) (hs : StepArr w1 base w1.heap.size s arr) (hsa : ∀ sv b, arr[5]? = some sv → sv.ownBlock = some b → v.ownBlock ≠ some b ∧ b < w1.heap.size) (h2 : Keeps (fun _ => False) w1 w2) (h2s : w1.heap.size < w2.heap.size)
    (hown : w3.ownsRow base 38 34 v' (ss.length + 1) (arrs.flatMap Array.toList ++ arr.toList)) (hg : w2.grownBy w3 v.ownBlock) (hv : v'.ownBlock = v.ownBlock ∨ v'.ownBlock = some w2.heap.size) :
    Gathered w3 base v' (ss ++ [s]) (arrs ++ [arr]) := by
  have K3 : Keeps (fun b => v.ownBlock = some b) w2 w3 := (Keeps.refl _ _).grown hg (fun k hk _ => hk)
  have K23 : Keeps (fun b => v.ownBlock = some b) w1 w3 := (h2.mono (fun _ _ x => x.elim)).trans K3
  have K : Keeps (fun b => v.ownBlock = some b) wr w3 := ((Keeps.below h1).mono (fun k hk x => by omega)).trans K23
  have hsz : wr.heap.size ≤ w1.heap.size := h1.size
  have h3 : w1.heap.size ≤ w3.heap.size := K23.size
  refine ⟨by simpa using hown, by simp [h.len], fun j s' arr' hj ha => ?_, fun j arr' sv b ha h5 hb' => ?_⟩
  · rcases Nat.lt_or_ge j ss.length with hlt | hge
    · rw [List.getElem?_append_left hlt] at hj
      rw [List.getElem?_append_left (by rw [h.len]; exact hlt)] at ha
      exact ((h.at' j s' arr' hj ha).keepsOwn K (fun sv b q1 q2 q3 => h.apart j arr' sv b ha q1 q2 q3)).mono (Nat.le_refl _) (by omega)
    · have e : j = ss.length := by have := (List.getElem?_eq_some_iff.1 hj).1; simp at this; omega
      subst e
      rw [List.getElem?_append_right (Nat.le_refl _)] at hj
      rw [List.getElem?_append_right (by rw [h.len]; exact Nat.le_refl _)] at ha
      simp at hj
      simp [h.len] at ha
      subst hj; subst ha
      exact (hs.keepsOwn K23 (fun sv b q1 q2 q3 => (hsa sv b q1 q2).1 q3)).mono (Nat.le_refl _) h3
  · have hcase : v.ownBlock ≠ some b ∧ b < w1.heap.size := by
      rcases Nat.lt_or_ge j arrs.length with hlt | hge
      · rw [List.getElem?_append_left hlt] at ha
        refine ⟨h.apart j arr' sv b ha h5 hb', ?_⟩
        have hA := h.at' j _ arr' (List.getElem?_eq_getElem (by rw [← h.len]; exact hlt)) ha
        obtain ⟨sv', q1, q2⟩ := hA.set
        rw [h5] at q1
        cases q1
        exact Nat.lt_of_lt_of_le (q2.own hb').2 hsz
      · have e : j = arrs.length := by have := (List.getElem?_eq_some_iff.1 ha).1; simp at this; omega
        subst e
        rw [List.getElem?_append_right (Nat.le_refl _)] at ha
        simp at ha
        subst ha
        exact hsa sv b h5 hb'
    rcases hv with e | e
    · rw [e]; exact hcase.1
    · rw [e]; intro x; cases x; omega

theorem cell_add {w : World} {b : Nat} {t : TypeId} {xs : List Value} (h : Blk w b t xs) {j : Nat} {u : Value} (hu : xs[j]? = some u) : w.cell? ((⟨b, 0, none⟩ : Addr).add j) = some u := by
  have hadd : (⟨b, 0, none⟩ : Addr).add j = ⟨b, j, none⟩ := by unfold Addr.add; split <;> simp_all
  rw [hadd, h.cell j]
  exact hu

def MkRel (w : World) (zs : List Int) (v i : Value) (wr : World) : Prop :=
  ∃ (k : Nat) (arrs : List (Array Value)), k ≤ zs.length ∧ k ≤ 6 ∧ i = .int .i64 k ∧ Gathered wr w.heap.size v ((zs.take k).map stepV) arrs ∧ Below w.heap.size w wr

set_option maxRecDepth 100000 in
set_option maxHeartbeats 2000000 in
theorem steps_own (w : World) (v : Value) (zs : List Int) (h : ArgInts w v zs) :
    Calls Try.prog 13 #[v] w fun e w' => ∃ v' arrs, e = .returned v' ∧ Gathered w' w.heap.size v' (stepsOf zs) arrs ∧ Below w.heap.size w w' := by
  obtain ⟨i0, hi0, hz0, hz1, hz2⟩ := info_parts stepInfo3
  obtain ⟨a, cap, rfl, h2, h3, h4, h6⟩ := h
  have hl : zs.length ≤ 9223372036854775807 := by omega
  have H4 := Lib.hid h4
  have H6 := Lib.hid h6
  have Hz0 := Lib.hid hz0
  have Hz1 := Lib.hid hz1
  have Hz2 := Lib.hid hz2
  have Hi0 := Lib.hid hi0
  clear h4 h6 hz0 hz1 hz2 hi0
  go_enter Try.func13, Try.ntmps13
  go_wp2
  go_loopw [3, 4] (MkRel w zs) (fun _ i _ => zs.length - (intOf i).toNat)
  case atStart => exact ⟨0, [], Nat.zero_le _, by omega, rfl, Gathered.start _ _, Below.refl _ _⟩
  case round =>
    obtain ⟨k, arrs, hk, h6, rfl, hG, hb⟩ := hrel
    have HG := Lib.hid hG
    have HB := Lib.hid hb
    clear hG hb
    by_cases hlt : k < zs.length ∧ k < 6
    · obtain ⟨hl1, hl2⟩ := hlt
      obtain ⟨z, hz⟩ : ∃ z, zs[k]? = some z := ⟨_, List.getElem?_eq_getElem hl1⟩
      obtain ⟨g, o, rfl, hc⟩ := H6.out k z hz
      have hg : g < w.heap.size := World.block_lt_of_cell? _ _ hc
      have hcr : wr.cell? ⟨g, o + k, none⟩ = some (.int .i64 z) := by rw [HB.out.cell (p := ⟨g, o + k, none⟩) hg]; exact hc
      have Hz := Lib.hid hz
      have Hwf := Lib.hid (H4.out z (List.mem_of_getElem? hz))
      clear hc hz
      go_wp2_with fail
      refine (step_any z _ Hwf.out).mono ?_
      rintro e w1 ⟨sv, hsv, rfl, hI, hB1⟩
      have HI := Lib.hid hI
      have HB1 := Lib.hid hB1
      have Hsv := Lib.hid hsv
      clear hI hB1 hsv
      have Hlen : Hid (((zs.take k).map stepV).length = k) := Lib.hid (by simp; omega)
      have Hown1 : Hid (w1.ownsRow w.heap.size 38 34 u3 k (arrs.flatMap Array.toList)) := Lib.hid (by have := ownsRow_keeps HG.out.own (Keeps.below HB1.out) (fun b hb x => by have := (HG.out.own.lt b hb).2; omega); rwa [Hlen.out] at this)
      have HS : Hid (StepArr w1 wr.heap.size w1.heap.size (stepV z) (stepMk (stepV z).dk (stepV z).fr (stepV z).til (stepV z).n sv)) := Lib.hid (stepMk_arr Hsv.out HI.out)
      go_wp2_with (first | (refine wpL_buildOne rfl (.tmp 20) rfl _ rfl rfl ?_; intro w2 B2 K2 S2; have HB2 := Lib.hid B2; have HK2 := Lib.hid K2; have HS2 := Lib.hid S2; clear B2 K2 S2) | (at_builtin; refine wpL_append rfl (.tmp 15) (.tmp 21) 41 rfl w.heap.size 38 i0 (.agg (stepMk 0 0 0 0 (.slice none 0 0))) 34 408 Try.underlying41 Hi0.out Hz0.out Hz1.out Hz2.out rfl (Nat.succ_pos _) u3 k (arrs.flatMap Array.toList) rfl ?q1 ⟨w1.heap.size, 0, none⟩ 1 1 (stepMk (stepV z).dk (stepV z).fr (stepV z).til (stepV z).n sv).toList rfl ?c1 ?q2 ?c2 Nat.one_pos ?c3 ?c4 ?c5 ?_; rotate_right; intro v' w3 hown hg hv; have HO := Lib.hid hown; have HG3 := Lib.hid hg; have HV := Lib.hid hv; clear hown hg hv))
      case q1 => exact ownsRow_keeps Hown1.out HK2.out (fun _ _ x => x)
      case c1 => rfl
      case q2 => exact fun j u hu => cell_add HB2.out hu
      case c2 => exact fun u hu => (Array.all_eq_true_iff_forall_mem.1 (stepMk_one _ _ _ _ _ Hsv.out)) u (by simpa using hu)
      case c3 => unfold maxLen; omega
      case c4 => omega
      case c5 => have := HB.out.size; have := HB1.out.size; have := HS2.out; omega
      have HR : Hid (MkRel w zs v' (.int .i64 (k + 1)) w3) := Lib.hid ⟨k + 1, arrs ++ [stepMk (stepV z).dk (stepV z).fr (stepV z).til (stepV z).n sv], hl1, by omega, rfl, by
        have hsz := HB.out.size
        have h := HG.out.push HB1.out hsz (HS.out.mono (by omega) (Nat.le_refl _)) (fun sv' b e1 e2 => by
            have e3 : sv' = sv := by have : (stepMk (stepV z).dk (stepV z).fr (stepV z).til (stepV z).n sv)[5]? = some sv := rfl; rw [this] at e1; exact (Option.some.inj e1).symm
            subst e3
            have ho := HI.out.own e2
            exact ⟨fun x => by have := (HG.out.own.lt b x).2; omega, ho.2⟩) HK2.out (by have := HS2.out; omega) (by rw [Hlen.out]; exact HO.out) HG3.out HV.out
        obtain ⟨_, rfl⟩ := List.getElem?_eq_some_iff.1 Hz.out
        rw [List.take_succ_eq_append_getElem hl1, List.map_append]
        exact h, by
        have hsz := HB.out.size
        exact ((HB.out.trans (HB1.out.mono hsz)).trans (HK2.out.toBelow (by have := HB1.out.size; omega) (fun _ _ x => x))).grown HG3.out (by have := HB1.out.size; have := HS2.out; omega) (fun b hb => (HG.out.own.lt b hb).1)⟩
      go_roundw
      case rel => exact HR.out
      case measure => simp [intOf]; omega
    · by_cases hl1 : k < zs.length
      · have hl2 : k = 6 := by omega
        subst hl2
        have HE : Hid ((zs.take 6).map stepV = stepsOf zs) := Lib.hid rfl
        go_wp2
        go_ret
        exact ⟨_, arrs, rfl, by rw [← HE.out]; exact HG.out, HB.out⟩
      · have hl2 : k = zs.length := by omega
        subst hl2
        have HE : Hid ((zs.take zs.length).map stepV = stepsOf zs) := Lib.hid (by unfold stepsOf; rw [List.take_of_length_le (Nat.le_refl _), List.take_of_length_le h6])
        go_wp2
        go_ret
        exact ⟨_, arrs, rfl, by rw [← HE.out]; exact HG.out, HB.out⟩

theorem steps_any (w : World) (v : Value) (zs : List Int) (h : ArgInts w v zs) :
    Calls Try.prog 13 #[v] w fun e w' => ∃ v', e = .returned v' ∧ StepsAt w' w.heap.size w'.heap.size v' (stepsOf zs) ∧ Below w.heap.size w w' :=
  (steps_own w v zs h).mono fun _ _ ⟨v', _, he, hg, hb⟩ => ⟨v', he, hg.steps, hb⟩
end Go.Proofs.Ytmgjccalpdlbbaa
