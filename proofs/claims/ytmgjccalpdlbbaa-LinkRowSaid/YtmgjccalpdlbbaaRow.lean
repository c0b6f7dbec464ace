/- LinkRow, walked: it answers true, and changes nothing that was there. -/
import Derived.Test.YtmgjccalpdlbbaaQuiet
import Derived.IntWalk
namespace Go.Proofs.Ytmgjccalpdlbbaa
open Go.RowKit
set_option linter.unusedVariables false

/-- The line of another kind that is laid between. -/
def stealS : StepV := { dk := 7, fr := 3, til := 9, n := 2, set := [] }
def stealArr : Array Value :=
  #[.int .i64 7, .int .i64 3, .int .i64 9, .int .i64 1, .int .i64 2, .slice none 0 0, .int .i64 0, .int .i64 0, .int .i64 0, .int .i64 0, .slice none 0 0, .int .i64 0, .int .i64 0, .int .i64 0, .int .i64 0, .slice none 0 0, .int .i64 0, .int .i64 0, .int .u64 0, .int .i64 0, .slice none 0 0, .slice none 0 0, .int .i64 0, .int .i64 0, .int .u64 0, .slice none 0 0, .int .i64 0, .int .i64 0, .slice none 0 0, .int .u64 0, .slice none 0 0, .int .u64 0, .int .u64 0, .string ⟨#[]⟩]
theorem stealArr_arr (w : World) (lo hi : Nat) : StepArr w lo hi stealS stealArr :=
  ⟨rfl, by kernel_rfl, rfl, rfl, rfl, rfl, .slice none 0 0, rfl, IntsAt.nil _ _ _⟩

/-- The lines the other way round, that line ahead of each. -/
def bk (l : List StepV) : List StepV := l.flatMap fun s => [stealS, s]
theorem bk_snoc (l : List StepV) (s : StepV) : bk (l ++ [s]) = bk l ++ [stealS, s] := by simp [bk]
theorem bk_len (l : List StepV) : (bk l).length = 2 * l.length := by
  induction l with
  | nil => rfl
  | cons s r ih => simp only [bk, List.flatMap_cons, List.length_append, List.length_cons, List.length_nil] at ih ⊢; omega
theorem any_bk (g : StepV → Bool) (hg : g stealS = false) (l : List StepV) : (bk l.reverse).any g = l.any g := by
  have h : ∀ l : List StepV, (bk l).any g = l.any g := by
    intro l
    induction l with
    | nil => rfl
    | cons s r ih => simp only [bk, List.flatMap_cons, List.any_append, List.any_cons, List.any_nil] at ih ⊢; rw [ih, hg]; simp
  rw [h, List.any_reverse]
theorem over_bk (l : List StepV) (ahead : List Int) (r : Int) : overOf (bk l.reverse) ahead r = overOf l ahead r := by
  unfold overOf
  rw [any_bk _ (by simp [loseS, hitS, countsS, stealS]), any_bk _ (by simp [twiceS, hitS, countsS, stealS])]
theorem met_bk (l : List StepV) (r d : Int) : metOf (bk l.reverse) r d = metOf l r d := by
  unfold metOf
  rw [any_bk _ (by simp [cutsOff, stealS])]
theorem quiet_bk (l : List StepV) : quietOf (bk l.reverse) = quietOf l := by
  have h : ∀ (l : List StepV) (b : Int), (bk l).foldl (fun m s => if isFault s then max m s.til else m) b = l.foldl (fun m s => if isFault s then max m s.til else m) b := by
    intro l
    induction l with
    | nil => intro b; rfl
    | cons s r ih =>
      intro b
      have e : isFault stealS = false := by decide
      simp only [bk, List.flatMap_cons, List.foldl_append, List.foldl_cons, List.foldl_nil] at ih ⊢
      rw [ih]
      simp [e]
  have hc : ∀ (l : List StepV) (b : Int), l.foldl (fun m s => if isFault s then max m s.til else m) b = max b (l.foldl (fun m s => if isFault s then max m s.til else m) b) := by
    intro l
    induction l with
    | nil => intro b; simp
    | cons s r ih =>
      intro b
      simp only [List.foldl_cons]
      rw [ih]
      split <;> omega
  have hs : ∀ (l : List StepV) (s : StepV) (b : Int), (l ++ [s]).foldl (fun m s => if isFault s then max m s.til else m) b = l.foldl (fun m s => if isFault s then max m s.til else m) (if isFault s then max b s.til else b) := by
    intro l
    induction l with
    | nil => intro s b; rfl
    | cons t r ih =>
      intro s b
      simp only [List.cons_append, List.foldl_cons]
      rw [ih]
      congr 1
      split <;> split <;> omega
  unfold quietOf
  rw [h]
  have : ∀ (l : List StepV) (b : Int), l.reverse.foldl (fun m s => if isFault s then max m s.til else m) b = l.foldl (fun m s => if isFault s then max m s.til else m) b := by
    intro l
    induction l with
    | nil => intro b; rfl
    | cons s r ih =>
      intro b
      rw [List.reverse_cons, hs, ih]
      rfl
  exact this l 0
theorem bk_mem {l : List StepV} {s : StepV} (h : s ∈ bk l) : s = stealS ∨ s ∈ l := by
  unfold bk at h
  obtain ⟨t, ht, hs⟩ := List.mem_flatMap.1 h
  simp at hs
  rcases hs with rfl | rfl
  · exact .inl rfl
  · exact .inr ht

theorem wpL_buildTwo {ops : Array Oper} {rest : List Oper} {op : Oper} {a : Act} {w : World} {Q : Exit → Act → World → Prop} (hw : Region.wanted op (yielded ops a.tmps) = true) (x y : Operand) (ho : op.op = .buildSlice 41 2 #[(0, x), (1, y)])
    (a1 a2 : Array Value) (hx : a.eval x = .agg a1) (hy : a.eval y = .agg a2) (h1 : a1.size = 34) (h2 : a2.size = 34)
    (h : ∀ w', Blk w' w.heap.size 38 (a1.toList ++ a2.toList) → Keeps (fun _ => False) w w' → w'.heap.size = w.heap.size + 1 → wpList Try.prog ops Q rest (a.put op.dst (.slice (some ⟨w.heap.size, 0, none⟩) 2 2)) w') : wpList Try.prog ops Q (op :: rest) a w := by
  obtain ⟨i0, hi, hz0, hz1, hz2⟩ := info_parts stepInfo3
  refine BigFrame.wpList_want hw fun K hK => ?_
  have hr := run_buildSlice_two (P := Try.prog) w 41 38 i0 _ a1 a2 Try.underlying41 hi hz0 (by rw [hz1]; rfl) (by rw [hz1]; exact h1) (by rw [hz1]; exact h2) (by omega) (by omega)
  unfold Oper.wp execOp
  simp only [ho, List.map_toArray, List.map_cons, List.map_nil, hx, hy, Sem.run_bind, hr, Result.andThen_ok, Sem.run_pure]
  refine hK _ _ (h _ ?_ ((Keeps.refl _ _).alloc _) (by simp))
  have e : (a1 ++ a2).toList = a1.toList ++ a2.toList := by simp
  have := Blk.new w 38 (a1 ++ a2).toList
  rw [Array.toArray_toList] at this
  rw [← e]
  exact this

def BkRel (w1 : World) (lo : Nat) (ss : List StepV) (v i : Value) (wr : World) : Prop :=
  ∃ (j : Nat) (arrs : List (Array Value)), j ≤ ss.length ∧ i = .int .i64 ((ss.length : Int) - 1 - j) ∧ wr.ownsRow w1.heap.size 38 34 v (2 * j) (arrs.flatMap Array.toList) ∧ arrs.length = 2 * j ∧
    (∀ (i : Nat) s arr, (bk (ss.reverse.take j))[i]? = some s → arrs[i]? = some arr → StepArr w1 lo w1.heap.size s arr) ∧ Below w1.heap.size w1 wr

def Row2 (W : World) (xlo xhi ylo yhi : Nat) (pbs pbs2 : List Nat) (ss ts : List StepV) (all : List Int) (i : Value) (wr : World) : Prop :=
  ∃ k : Nat, k ≤ all.length ∧ i = .int .i64 k ∧ LinkAt wr xlo xhi xlo pbs ((newOf ss).map (after (all.take k))) ∧ LinkAt wr ylo yhi ylo pbs2 ((newOf ts).map (after (all.take k))) ∧ Keeps (fun b => xlo ≤ b ∧ b < yhi) W wr
theorem range_below {w w' : World} {g o : Nat} {cs : List Value} (h : w.rangeAt g o cs) (hb : Below w.heap.size w w') : w'.rangeAt g o cs := fun j v hv => by
  have hc := h j v hv
  rw [hb.cell (p := ⟨g, o + j, none⟩) (World.block_lt_of_cell? _ _ hc)]
  exact hc
theorem getElem_app {α : Type} {l m : List α} {i : Nat} {x : α} (h : (l ++ m)[i]? = some x) : (i < l.length ∧ l[i]? = some x) ∨ (l.length ≤ i ∧ m[i - l.length]? = some x) := by
  rcases Nat.lt_or_ge i l.length with h1 | h1
  · rw [List.getElem?_append_left h1] at h; exact .inl ⟨h1, h⟩
  · rw [List.getElem?_append_right h1] at h; exact .inr ⟨h1, h⟩

set_option maxRecDepth 100000 in
set_option maxHeartbeats 4000000 in
theorem row_walk (w : World) (v0 v1 : Value) (zs rs : List Int) (h0 : ArgInts w v0 zs) (h1 : ArgInts w v1 rs) :
    Calls Try.prog 6 #[v0, v1] w fun e w' => e = .returned (.bool true) ∧ Below w.heap.size w w' := by
  obtain ⟨i0, hi0, hz0, hz1, hz2⟩ := info_parts stepInfo3
  have Hz0 := Lib.hid hz0
  have Hz1 := Lib.hid hz1
  have Hz2 := Lib.hid hz2
  have Hi0 := Lib.hid hi0
  have H0 := Lib.hid h0
  have H1 := Lib.hid h1
  clear h0 h1 hz0 hz1 hz2 hi0
  go_enter Try.func6, Try.ntmps6
  go_wp2_with fail
  refine (steps_any w v0 zs H0.out).mono ?_
  rintro e w1 ⟨vs, rfl, hS, hB⟩
  have HS := Lib.hid hS
  have HB1 := Lib.hid hB
  have hsl := stepsOf_len zs
  obtain ⟨a, cap, hvs, p2, p3, p5, p6⟩ := id hS
  rw [hvs] at HS ⊢
  clear hS hB p5 p6 hvs
  have HF : Hid (∀ s ∈ stepsOf zs, s.dk = 4 ∨ s.dk = 5 → 1 ≤ s.n ∧ s.n ≤ 9223372036854775807) := Lib.hid (stepsOf_fit zs)
  have HFs : Hid (∀ s ∈ stepsOf zs, s.set.length ≤ 1000000) := Lib.hid (stepsOf_set zs)
  obtain ⟨ss, hss⟩ : ∃ ss, ss = stepsOf zs := ⟨_, rfl⟩
  rw [← hss] at HS HF HFs hsl p2 ⊢
  clear hss
  have hss63 : ss.length ≤ 9223372036854775807 := by omega
  go_wp2_with fail
  go_loopw [6, 7] (BkRel w1 w.heap.size ss) (fun _ i _ => (intOf i + 1).toNat)
  case atStart => exact ⟨0, [], Nat.zero_le _, by simp, World.ownsRow_nil _ _ _ _, rfl, by simp, Below.refl _ _⟩
  case round =>
    obtain ⟨j, arrs, hj, rfl, hG, hal, hA, hb⟩ := hrel
    have HG := Lib.hid hG
    have HB := Lib.hid hb
    have HA := Lib.hid hA
    clear hG hb hA
    by_cases hlt : j < ss.length
    · obtain ⟨idx, hidx⟩ : ∃ idx : Nat, ss.length = idx + 1 + j := ⟨ss.length - 1 - j, by omega⟩
      have he : ((ss.length : Int) - 1 - j) = (idx : Int) := by omega
      rw [he]
      obtain ⟨s, hs⟩ : ∃ s, ss[idx]? = some s := ⟨_, List.getElem?_eq_getElem (by omega)⟩
      have hrev : ss.reverse[j]? = some s := by rw [List.getElem?_reverse (by omega), ← hs]; congr 1; omega
      obtain ⟨g, o, arr, rfl, hr, ha, hgl⟩ := HS.out.one (Below.refl _ _) (Nat.le_refl _) hs
      have HR := Lib.hid (range_below hr HB.out)
      have Ha := Lib.hid ha
      have Hs := Lib.hid hrev
      have HE := Lib.hid he
      have hidx63 : (idx : Int) < (ss.length : Int) := by omega
      have hone := Lib.hid ha.one
      have Hbl : Hid ((bk (ss.reverse.take j)).length = 2 * j) := Lib.hid (by rw [bk_len]; simp; omega)
      have Hc3 : Hid (2 * j + 2 ≤ maxLen) := Lib.hid (by unfold maxLen; omega)
      have Hc4 : Hid ((2 * j + 2) * 408 ≤ 140737488355328) := Lib.hid (by omega)
      clear hs hr ha hrev he hidx hgl
      go_wp2_with (first | (refine wpL_load rfl (.tmp 25) rfl _ _ rfl arr HR.out Ha.out.size ?_) | (refine wpL_buildTwo rfl (.tmp 22) (.tmp 26) rfl stealArr arr rfl rfl rfl Ha.out.size ?_; intro w2 B2 K2 S2; have HB2 := Lib.hid B2; have HK2 := Lib.hid K2; have HS2 := Lib.hid S2; clear B2 K2 S2) | (at_builtin; refine wpL_append rfl (.tmp 21) (.tmp 27) 41 rfl w1.heap.size 38 i0 (.agg (stepMk 0 0 0 0 (.slice none 0 0))) 34 408 Try.underlying41 Hi0.out Hz0.out Hz1.out Hz2.out rfl (Nat.succ_pos _) u6 (2 * j) (arrs.flatMap Array.toList) rfl ?q1 ⟨wr.heap.size, 0, none⟩ 2 2 (stealArr.toList ++ arr.toList) rfl ?c1 ?q2 ?c2 Nat.two_pos Hc3.out Hc4.out ?c5 ?_; rotate_right; intro v' w3 hown hg hv; have HO := Lib.hid hown; have HG3 := Lib.hid hg; clear hown hg hv))
      case q1 => exact ownsRow_keeps HG.out HK2.out (fun _ _ x => x)
      case c1 => simp [Ha.out.size]; rfl
      case q2 => exact fun j u hu => cell_add HB2.out hu
      case c2 =>
        intro u hu
        rcases List.mem_append.1 hu with hu | hu
        · exact (Array.all_eq_true_iff_forall_mem.1 (stealArr_arr w 0 0).one) u (by simpa using hu)
        · exact (Array.all_eq_true_iff_forall_mem.1 hone.out) u (by simpa using hu)
      case c5 => have := HB.out.size; have := HS2.out; omega
      have HA2 : Hid (∀ (i : Nat) s arr9, (bk (ss.reverse.take (j + 1)))[i]? = some s → (arrs ++ [stealArr, arr])[i]? = some arr9 → StepArr w1 w.heap.size w1.heap.size s arr9) := Lib.hid (by
        intro i s' arr9 hi ha'
        obtain ⟨hj', hes⟩ := List.getElem?_eq_some_iff.1 Hs.out
        rw [List.take_succ_eq_append_getElem hj', hes, bk_snoc] at hi
        rcases getElem_app hi with ⟨q1, q2⟩ | ⟨q1, q2⟩
        · rw [Hbl.out] at q1
          rw [List.getElem?_append_left (by omega)] at ha'
          exact HA.out i s' arr9 q2 ha'
        · rw [Hbl.out] at q1 q2
          rw [List.getElem?_append_right (by omega), hal] at ha'
          have hi2 : i - 2 * j = 0 ∨ i - 2 * j = 1 := by have := (List.getElem?_eq_some_iff.1 q2).1; simp at this; omega
          rcases hi2 with e | e
          · rw [e] at q2 ha'
            simp at q2 ha'
            subst q2; subst ha'
            exact stealArr_arr _ _ _
          · rw [e] at q2 ha'
            simp at q2 ha'
            subst q2; subst ha'
            exact Ha.out)
      have HO2 : Hid (w3.ownsRow w1.heap.size 38 34 v' (2 * (j + 1)) ((arrs ++ [stealArr, arr]).flatMap Array.toList)) := Lib.hid (by
        have h := HO.out
        have e : (arrs ++ [stealArr, arr]).flatMap Array.toList = arrs.flatMap Array.toList ++ (stealArr.toList ++ arr.toList) := by simp
        rw [e]
        exact h)
      have HB2' : Hid (Below w1.heap.size w1 w3) := Lib.hid ((HB.out.trans (HK2.out.toBelow HB.out.size (fun _ _ x => x))).grown HG3.out (by have := HB.out.size; have := HS2.out; omega) (fun b hb => (HG.out.lt b hb).1))
      have hal2 : (arrs ++ [stealArr, arr]).length = 2 * (j + 1) := by simp [hal]; omega
      have HI2 : Hid (Value.int .i64 ((idx : Int) - 1) = .int .i64 ((ss.length : Int) - 1 - (j + 1 : Nat))) := Lib.hid (by congr 1; have := HE.out; omega)
      have HR2 : Hid (BkRel w1 w.heap.size ss v' (.int .i64 ((idx : Int) - 1)) w3) := Lib.hid ⟨j + 1, arrs ++ [stealArr, arr], hlt, HI2.out, HO2.out, hal2, HA2.out, HB2'.out⟩
      first | exact ⟨HR2.out, by simp [intOf]⟩ | (go_roundw; exact HR2.out; (simp [intOf]))
    · obtain rfl : j = ss.length := by omega
      have he : ((ss.length : Int) - 1 - ss.length) = -1 := by omega
      rw [he]
      have HBL : Hid (bk (ss.reverse.take ss.length) = bk ss.reverse) := Lib.hid (by rw [List.take_of_length_le (by simp)])
      rw [HBL.out] at HA
      have hbl : (bk ss.reverse).length = 2 * ss.length := by rw [bk_len]; simp
      have HT : Hid (StepsAt wr w.heap.size wr.heap.size u6 (bk ss.reverse)) := Lib.hid (StepsAt.ofOwn (by rw [hbl]; exact ownsRow_mono HG.out HB1.out.size) (by rw [hal, hbl]) (fun i s arr q1 q2 => ((HA.out i s arr q1 q2).keeps (Keeps.below HB.out) (fun b _ hb x => by omega)).mono (Nat.le_refl _) HB.out.size) (Nat.le_refl _))
      have HS' : Hid (StepsAt wr w.heap.size w1.heap.size (.slice a ss.length cap) ss) := Lib.hid (HS.out.keeps (Keeps.below HB.out) (fun b _ hb x => by omega))
      have hbl12 : (bk ss.reverse).length ≤ 12 := by omega
      have HBw : Hid (Below w.heap.size w wr) := Lib.hid (HB1.out.trans (HB.out.mono HB1.out.size))
      have HFt : Hid (∀ s ∈ bk ss.reverse, s.dk = 4 ∨ s.dk = 5 → 1 ≤ s.n ∧ s.n ≤ 9223372036854775807) := Lib.hid (fun s hs h => by
        rcases bk_mem hs with rfl | hs
        · simp [stealS] at h
        · exact HF.out s (by simpa using hs) h)
      have HFts : Hid (∀ s ∈ bk ss.reverse, s.set.length ≤ 1000000) := Lib.hid (fun s hs => by
        rcases bk_mem hs with rfl | hs
        · simp [stealS]
        · exact HFs.out s (by simpa using hs))
      have S1 : Hid (w1.heap.size ≤ wr.heap.size) := Lib.hid HB.out.size
      clear he HBL HA HG HB hal hj hlt
      rename World => wB
      obtain ⟨ts, hts⟩ : ∃ ts, ts = bk ss.reverse := ⟨_, rfl⟩
      have HTS := Lib.hid hts
      rw [← hts] at HT HFt HFts hbl hbl12
      clear hts
      go_wp2_with fail
      refine (new_any wB w.heap.size w1.heap.size _ ss HS'.out S1.out HF.out HFs.out (by omega)).mono ?_
      rintro e w3 ⟨pbs, rfl, hL, hB⟩
      have HL := Lib.hid hL
      have HB3 := Lib.hid hB
      clear hL hB
      go_wp2_with fail
      refine (new_any w3 w.heap.size wB.heap.size _ ts (HT.out.keeps (Keeps.below HB3.out) (fun b _ hb x => by omega)) HB3.out.size HFt.out HFts.out (by omega)).mono ?_
      rintro e w4 ⟨pbs2, rfl, hL, hB⟩
      have HL2 := Lib.hid hL
      have HB4 := Lib.hid hB
      clear hL hB
      go_wp2_with fail
      refine (rounds_any w4 v1 rs (H1.out.below ((HBw.out.trans (HB3.out.mono HBw.out.size)).trans (HB4.out.mono (Nat.le_trans HBw.out.size HB3.out.size))))).mono ?_
      rintro e w5 ⟨va, rfl, hA, hB⟩
      have HA := Lib.hid hA
      have HB5 := Lib.hid hB
      have HLx : Hid (LinkAt w5 wB.heap.size w3.heap.size wB.heap.size pbs (newOf ss)) := Lib.hid ((HL.out.keeps (Keeps.below HB4.out) (fun b _ hb x => by omega)).keeps (Keeps.below HB5.out) (fun b _ hb x => by have := HB4.out.size; omega))
      have HLy : Hid (LinkAt w5 w3.heap.size w4.heap.size w3.heap.size pbs2 (newOf ts)) := Lib.hid (HL2.out.keeps (Keeps.below HB5.out) (fun b _ hb x => by omega))
      have HBa : Hid (Below w.heap.size w w5) := Lib.hid (((HBw.out.trans (HB3.out.mono HBw.out.size)).trans (HB4.out.mono (Nat.le_trans HBw.out.size HB3.out.size))).trans (HB5.out.mono (Nat.le_trans HBw.out.size (Nat.le_trans HB3.out.size HB4.out.size))))
      have SZ : Hid (w.heap.size ≤ wB.heap.size ∧ wB.heap.size ≤ w3.heap.size ∧ w3.heap.size ≤ w4.heap.size ∧ w4.heap.size ≤ w5.heap.size) := Lib.hid ⟨HBw.out.size, HB3.out.size, HB4.out.size, HB5.out.size⟩
      clear hA hB HL HL2 HB3 HB4 HB5 HBw HB1 H0 H1 HS HS' HT S1 HF HFt HFs HFts
      obtain ⟨a2, cap2, hva, q2, q3, p4, p5, p6⟩ := id HA.out
      rw [hva] at HA ⊢
      have P5 := Lib.hid p5
      have P6 := Lib.hid p6
      have P4 := Lib.hid p4
      have hal := roundsOf_len rs
      clear p4 p5 p6 hva
      obtain ⟨all, hall⟩ : ∃ all, all = roundsOf rs := ⟨_, rfl⟩
      rw [← hall] at HA P4 P6 hal q2 ⊢
      clear hall HA
      have hal63 : all.length ≤ 9223372036854775807 := by omega
      go_wp2_with fail
      go_loopw [11] (Row2 w5 wB.heap.size w3.heap.size w3.heap.size w4.heap.size pbs pbs2 ss ts all) (fun i _ => all.length - (intOf i).toNat)
      case atStart => exact ⟨0, Nat.zero_le _, rfl, by rw [List.take_zero, after_nil]; exact HLx.out, by rw [List.take_zero, after_nil]; exact HLy.out, Keeps.refl _ _⟩
      case round =>
        clear HLx HLy
        obtain ⟨k, hk, rfl, hL, hL2, hK⟩ := hrel
        have HL := Lib.hid hL
        have HL2 := Lib.hid hL2
        have HK := Lib.hid hK
        clear hL hL2 hK
        by_cases hlt : k < all.length
        · obtain ⟨r, hr⟩ : ∃ r, all[k]? = some r := ⟨_, List.getElem?_eq_getElem hlt⟩
          obtain ⟨g, o, rfl, hc⟩ := P6.out k r hr
          have hg : w4.heap.size ≤ g ∧ g < w5.heap.size := P5.out _ rfl
          have hc' : wr.cell? ⟨g, o + k, none⟩ = some (.int .i64 r) := by rw [HK.out.cell (p := ⟨g, o + k, none⟩) (World.block_lt_of_cell? _ _ hc) (by show ¬ (_ ≤ g ∧ g < _); omega)]; exact hc
          have Hr := Lib.hid hr
          have Hg : Hid (w4.heap.size ≤ g ∧ g < wr.heap.size) := Lib.hid ⟨hg.1, Nat.lt_of_lt_of_le hg.2 HK.out.size⟩
          have hk0 : (0 : Int) ≤ (k : Int) := by omega
          have hk1 : (k : Int) < (all.length : Int) := by omega
          have hk2 : (k : Int) ≤ (cap2 : Int) := by omega
          clear hc hr hg
          go_upto_region 15 with (fail)
          have HLd : Hid (∀ n, LinkAt (wr.drewN n) wB.heap.size w3.heap.size wB.heap.size pbs ((newOf ss).map (after (all.take k)))) := Lib.hid (fun n => HL.out.keeps ((Keeps.refl (fun _ => False) wr).drewN n) (fun _ _ _ x => x))
          have HLd2 : Hid (∀ n, LinkAt (wr.drewN n) w3.heap.size w4.heap.size w3.heap.size pbs2 ((newOf ts).map (after (all.take k)))) := Lib.hid (fun n => HL2.out.keeps ((Keeps.refl (fun _ => False) wr).drewN n) (fun _ _ _ x => x))
          have hkk : (all.take k).length ≤ k := List.length_take_le _ _
          have HC : Hid (∀ f ∈ (newOf ss).map (after (all.take k)), f.count < 1000000) := Lib.hid (fun f hf => by have h1 := count_bd ss (all.take k) f hf; omega)
          have HC2 : Hid (∀ f ∈ (newOf ts).map (after (all.take k)), f.count < 1000000) := Lib.hid (fun f hf => by have h1 := count_bd ts (all.take k) f hf; omega)
          obtain ⟨V, hV⟩ : ∃ V, V = overOf ss (all.take k) r := ⟨_, rfl⟩
          have HV := Lib.hid hV
          have HV2 : Hid (V = overOf ts (all.take k) r) := Lib.hid (by rw [HTS.out, over_bk]; exact hV)
          clear hV hkk
          have HTK : Hid (all.take (k + 1) = all.take k ++ [r]) := Lib.hid (by obtain ⟨_, rfl⟩ := List.getElem?_eq_some_iff.1 Hr.out; exact List.take_succ_eq_append_getElem hlt)
          have HOV : Hid (∀ W d, LinkAt W wB.heap.size w3.heap.size wB.heap.size pbs ((newOf ss).map (after (all.take k))) → Calls Try.prog 11 #[.pointer (some ⟨wB.heap.size, 0, none⟩), .int .i64 r, .int .i64 d] W fun e w' => e = .returned (.int .i64 V) ∧ LinkAt w' wB.heap.size w3.heap.size wB.heap.size pbs ((newOf ss).map (after (all.take (k + 1)))) ∧ Keeps (fun b => wB.heap.size ≤ b ∧ b < w3.heap.size) W w') := Lib.hid (fun W d hW => by
            have h := over_any W _ _ _ pbs _ r d hW HC.out
            rw [over_eq, ← map_after_snoc, ← HV.out, ← HTK.out] at h
            exact h)
          have HOV2 : Hid (∀ W d, LinkAt W w3.heap.size w4.heap.size w3.heap.size pbs2 ((newOf ts).map (after (all.take k))) → Calls Try.prog 11 #[.pointer (some ⟨w3.heap.size, 0, none⟩), .int .i64 r, .int .i64 d] W fun e w' => e = .returned (.int .i64 V) ∧ LinkAt w' w3.heap.size w4.heap.size w3.heap.size pbs2 ((newOf ts).map (after (all.take (k + 1)))) ∧ Keeps (fun b => w3.heap.size ≤ b ∧ b < w4.heap.size) W w') := Lib.hid (fun W d hW => by
            have h := over_any W _ _ _ pbs2 _ r d hW HC2.out
            rw [over_eq, ← map_after_snoc, ← HV2.out, ← HTK.out] at h
            exact h)
          obtain ⟨D1, hD1⟩ : ∃ D1, D1 = 1 + (k : Int) % 12 := ⟨_, rfl⟩
          obtain ⟨D2, hD2⟩ : ∃ D2, D2 = 12 - (k : Int) % 12 := ⟨_, rfl⟩
          obtain ⟨q, hq⟩ : ∃ q, q = (k : Int) % 12 := ⟨_, rfl⟩
          have HD1 : Hid ((Lit.int .i64 D1).wf = true) := Lib.hid (WalkArith.wf_i64 (by omega))
          obtain ⟨M, hM⟩ : ∃ M, M = metOf ss r D1 := ⟨_, rfl⟩
          have HM := Lib.hid hM
          have HM2 : Hid (M = metOf ts r D1) := Lib.hid (by rw [HTS.out, met_bk]; exact hM)
          clear hM
          have HLM : Hid (∀ W, LinkAt W wB.heap.size w3.heap.size wB.heap.size pbs ((newOf ss).map (after (all.take (k + 1)))) → Calls Try.prog 16 #[.pointer (some ⟨wB.heap.size, 0, none⟩), .int .i64 r, .int .i64 D1] W fun e w' => e = .returned (.bool M) ∧ W = w') := Lib.hid (fun W hW => by
            have h := lmet_any W _ _ _ pbs _ r D1 hW HD1.out
            rw [met_eq, ← HM.out] at h
            exact h)
          have HLM2 : Hid (∀ W, LinkAt W w3.heap.size w4.heap.size w3.heap.size pbs2 ((newOf ts).map (after (all.take (k + 1)))) → Calls Try.prog 16 #[.pointer (some ⟨w3.heap.size, 0, none⟩), .int .i64 r, .int .i64 D1] W fun e w' => e = .returned (.bool M) ∧ W = w') := Lib.hid (fun W hW => by
            have h := lmet_any W _ _ _ pbs2 _ r D1 hW HD1.out
            rw [met_eq, ← HM2.out] at h
            exact h)
          have f1 : (k : Int).tmod 12 = q := by rw [Int.tmod_eq_emod_of_nonneg hk0, hq]
          have f2 : IntKind.i64.wrap q = q := IntWalk.i64_in _ (by omega)
          have f3 : IntKind.i64.wrap (1 + q) = D1 := by rw [IntWalk.i64_in _ (by omega)]; omega
          have f4 : IntKind.i64.wrap (12 - q) = D2 := by rw [IntWalk.i64_in _ (by omega)]; omega
          have f5 : (k : Int) % 12 = q := hq.symm
          clear hq hD1 hD2
          go_region_held3 (fun w' => w'.cell? ⟨g, o + k, none⟩ = some (.int .i64 r)) (first | go_keep | exact (HK7.out.cell (p := ⟨g, o + k, none⟩) (Nat.lt_of_lt_of_le Hg.out.2 HK6.out.size) (fun x => absurd x.2 (Nat.not_lt.2 Hg.out.1))).trans ((HK6.out.cell (p := ⟨g, o + k, none⟩) Hg.out.2 (fun x => absurd x.2 (Nat.not_lt.2 (Nat.le_trans SZ.out.2.2.1 Hg.out.1)))).trans hc') | exact (HK6.out.cell (p := ⟨g, o + k, none⟩) Hg.out.2 (fun x => absurd x.2 (Nat.not_lt.2 (Nat.le_trans SZ.out.2.2.1 Hg.out.1)))).trans hc') (first | (go_at_call 11; have hg1 := HK6; clear hg1; refine (HOV2.out _ _ ((HLd2.out _).keeps HK6.out (fun b h1 h2 x => absurd x.2 (Nat.not_lt.2 h1)))).mono ?_; rintro e w7 ⟨rfl, hL, hK⟩; have HL7 := Lib.hid hL; have HK7 := Lib.hid hK; clear hL hK) | (go_at_call 11; refine (HOV.out _ _ (HLd.out _)).mono ?_; rintro e w6 ⟨rfl, hL, hK⟩; have HL6 := Lib.hid hL; have HK6 := Lib.hid hK; clear hL hK) | (go_at_call 16; have hg1 := HMdone; clear hg1; refine (HLM2.out _ HL7.out).mono ?_; rintro e w9 ⟨rfl, rfl⟩) | (go_at_call 16; refine (HLM.out _ (HL6.out.keeps HK7.out (fun b h1 h2 x => absurd h2 (Nat.not_lt.2 x.1)))).mono ?_; rintro e w8 ⟨rfl, rfl⟩; have HMdone : Hid True := Lib.hid trivial))
          have HR2 : Hid (Row2 w5 wB.heap.size w3.heap.size w3.heap.size w4.heap.size pbs pbs2 ss ts all (.int .i64 ((k : Int) + 1)) w7) := Lib.hid ⟨k + 1, hlt, rfl, HL6.out.keeps HK7.out (fun b h1 h2 x => absurd h2 (Nat.not_lt.2 x.1)), HL7.out, ((HK.out.drew).trans (HK6.out.mono (fun b _ x => ⟨x.1, Nat.lt_of_lt_of_le x.2 SZ.out.2.2.1⟩))).trans (HK7.out.mono (fun b _ x => ⟨Nat.le_trans SZ.out.2.1 x.1, x.2⟩))⟩
          have hms : all.length - (intOf (Value.int .i64 ((k : Int) + 1))).toNat < all.length - (intOf (Value.int .i64 (k : Int))).toNat := by simp [intOf]; omega
          clear f1 f2 f3 f4 f5 HL HL2 HLd HLd2 HC HC2 HOV HOV2 HLM HLM2 HK6 HK7 HL6 HL7 HK HMdone
          go_wp2
          first | exact ⟨HR2.out, by simp [intOf]; omega⟩ | (go_roundw; exact HR2.out; (simp [intOf]; omega))
        · obtain rfl : k = all.length := by omega
          rw [List.take_length] at HL HL2
          obtain ⟨V, hV⟩ : ∃ V, V = quietOf ss := ⟨_, rfl⟩
          have HLQ : Hid (Calls Try.prog 18 #[.pointer (some ⟨wB.heap.size, 0, none⟩)] wr fun e w' => e = .returned (.int .i64 V) ∧ wr = w') := Lib.hid (by
            have h := lquiet_any wr _ _ _ pbs _ HL.out
            rw [quiet_eq, ← hV] at h
            exact h)
          have HLQ2 : Hid (Calls Try.prog 18 #[.pointer (some ⟨w3.heap.size, 0, none⟩)] wr fun e w' => e = .returned (.int .i64 V) ∧ wr = w') := Lib.hid (by
            have h := lquiet_any wr _ _ _ pbs2 _ HL2.out
            rw [quiet_eq, HTS.out, quiet_bk, ← hV] at h
            exact h)
          clear hV
          go_wp2_with (first | (go_at_call 18; have hg1 := HMdone; clear hg1; refine HLQ2.out.mono ?_; rintro e w' ⟨rfl, rfl⟩) | (go_at_call 18; refine HLQ.out.mono ?_; rintro e w' ⟨rfl, rfl⟩; have HMdone : Hid True := Lib.hid trivial) | (go_at_call 12; refine (lives_any _).mono ?_; rintro e w7 ⟨rfl, hB⟩; have HB7 := Lib.hid hB; clear hB))
          go_ret
          refine ⟨rfl, ?_⟩
          have h1 := SZ.out
          have hb1 : Below w.heap.size w wr := HBa.out.trans (HK.out.toBelow (by omega) (fun b hb x => by omega))
          exact hb1.trans (HB7.out.mono hb1.size)
end Go.Proofs.Ytmgjccalpdlbbaa
