/- A line of a script as a value: its cells behind a name ('stepMk'); the reference's Step, which makes a line of a number, by its contract. -/
import Derived.Test.YtmgjccalpdlbbaaRef
namespace Go.Proofs.Ytmgjccalpdlbbaa
open Go.RowKit
set_option linter.unusedVariables false

/-- The cells of a line of which all but five fields are zero. -/
def stepMk (dk fr til n : Int) (sv : Value) : Array Value :=
  #[.int .i64 dk, .int .i64 fr, .int .i64 til, .int .i64 0, .int .i64 n, sv, .int .i64 0, .int .i64 0, .int .i64 0, .int .i64 0, .slice none 0 0, .int .i64 0, .int .i64 0, .int .i64 0, .int .i64 0, .slice none 0 0, .int .i64 0, .int .i64 0, .int .u64 0, .int .i64 0, .slice none 0 0, .slice none 0 0, .int .i64 0, .int .i64 0, .int .u64 0, .slice none 0 0, .int .i64 0, .int .i64 0, .slice none 0 0, .int .u64 0, .slice none 0 0, .int .u64 0, .int .u64 0, .string ⟨#[]⟩]

theorem zeroStep (w : World) : (zeroValue 38).run Try.prog w = .ok (.agg (stepMk 0 0 0 0 (.slice none 0 0))) w := by kernel_rfl
theorem allocStep (w : World) : (Instr.alloc 38 true (.tuple #[])).run Try.prog w = .ok (.pointer (some ⟨w.heap.size, 0, none⟩)) (w.alloc (.cells (stepMk 0 0 0 0 (.slice none 0 0)) 38)) := by kernel_rfl
theorem buildStep (w : World) (a b : Int) : (Instr.build 38 #[(0, .int .i64 a), (1, .int .i64 b)]).run Try.prog w = .ok (.agg (stepMk a b 0 0 (.slice none 0 0))) w := by kernel_rfl
theorem stepInfo : (Try.prog.info? 38).map (·.size) = some 34 := by kernel_rfl
theorem stepMk_size (dk fr til n : Int) (sv : Value) : (stepMk dk fr til n sv).size = 34 := rfl
theorem stepMk_one (dk fr til n : Int) (sv : Value) (h : sv.oneCell' = true) : (stepMk dk fr til n sv).all (·.oneCell') = true := by
  simp [stepMk, h]
  exact ⟨rfl, rfl, rfl, rfl, rfl, rfl, rfl, rfl, rfl, rfl, rfl, rfl, rfl, rfl, rfl, rfl, rfl, rfl, rfl, rfl, rfl, rfl⟩
theorem stepMk_0 (dk fr til n : Int) (sv : Value) : (stepMk dk fr til n sv).toList[0]? = some (.int .i64 dk) := rfl
theorem stepMk_1 (dk fr til n : Int) (sv : Value) : (stepMk dk fr til n sv).toList[1]? = some (.int .i64 fr) := rfl
theorem stepMk_2 (dk fr til n : Int) (sv : Value) : (stepMk dk fr til n sv).toList[2]? = some (.int .i64 til) := rfl
theorem stepMk_4 (dk fr til n : Int) (sv : Value) : (stepMk dk fr til n sv).toList[4]? = some (.int .i64 n) := rfl
theorem stepMk_5 (dk fr til n : Int) (sv : Value) : (stepMk dk fr til n sv).toList[5]? = some sv := rfl
theorem stepMk_set2 (dk fr til n x : Int) (sv : Value) : (stepMk dk fr til n sv).toList.set 2 (.int .i64 x) = (stepMk dk fr x n sv).toList := rfl
theorem stepMk_set4 (dk fr til n x : Int) (sv : Value) : (stepMk dk fr til n sv).toList.set 4 (.int .i64 x) = (stepMk dk fr til x sv).toList := rfl
theorem stepMk_set5 (dk fr til n : Int) (sv x : Value) : (stepMk dk fr til n sv).toList.set 5 x = (stepMk dk fr til n x).toList := rfl

def doOf (k : Int) : Int := if k % 6 = 0 then 3 else if k % 6 = 1 then 4 else if k % 6 = 2 then 5 else if k % 6 = 3 then 6 else if k % 6 = 4 then 4 else 5

def StepRes (w : World) (dk fr til n : Int) (set : List Int) (e : Ending) (w' : World) : Prop :=
  ∃ sv, sv.oneCell' = true ∧ e = .returned (.agg (stepMk dk fr til n sv)) ∧ IntsAt w' w.heap.size w'.heap.size sv set ∧ Below w.heap.size w w'

theorem load_blk {P : Program} {ops : Array Oper} {rest : List Oper} {o : Oper} {a : Act} {w : World} {Q : Exit → Act → World → Prop} (hgd : o.guard = none) (ty : TypeId) (x : Operand) (ho : o.op = .load ty x)
    (g : Nat) (hx : a.eval x = .pointer (some ⟨g, 0, none⟩)) (t : TypeId) (cs : Array Value) (d : TypeDesc) (hg : Blk w g t cs.toList)
    (hu : P.underlying ty = some d) (hd : (match d with | .struct _ | .array _ _ => true | _ => false) = true) (hi : (P.info? ty).map (·.size) = some cs.size)
    (h : wpList P ops Q rest (a.put o.dst (.agg cs)) w) : wpList P ops Q (o :: rest) a w :=
  wpList_load_row hgd ty x ho g hx t cs (0, 0) d hg hu hd hi h

theorem blk_zero (w : World) (o o' : Obj) : Blk (((w.alloc (.cells (stepMk 0 0 0 0 (.slice none 0 0)) 38)).alloc o).alloc o') w.heap.size 38 (stepMk 0 0 0 0 (.slice none 0 0)).toList :=
  ((Blk.new w 38 (stepMk 0 0 0 0 (.slice none 0 0)).toList).alloc o).alloc o'
theorem blk_zero2 (w : World) (o o' : Obj) : Blk (((w.alloc o).alloc o').alloc (.cells (stepMk 0 0 0 0 (.slice none 0 0)) 38)) (w.heap.size + 1 + 1) 38 (stepMk 0 0 0 0 (.slice none 0 0)).toList := by
  have := Blk.new ((w.alloc o).alloc o') 38 (stepMk 0 0 0 0 (.slice none 0 0)).toList
  simpa using this

theorem step_results {w : World} {g : Nat} {tmps : Array Value} {cs : Array Value} (hp : tmps.getD 2 undef = .pointer (some ⟨g, 0, none⟩)) (hg : Blk w g 38 cs.toList) (hs : cs.size = 34) :
    (results Try.f25 tmps).run Try.prog w = .ok (.agg cs) w :=
  results_cell_row (p := 2) (ty := 38) Try.results25 tmps w g 38 cs (0, 0) _ hp hg Try.underlying38 rfl (by rw [hs]; exact stepInfo)


theorem ints_lit {w : World} {b : Nat} {t : TypeId} {hi : Nat} (lo : Nat) {zs : List Int} (h : zs.length ≤ 1000) (hw : (zs.all fun z => (Lit.int .i64 z).wf) = true) (hb : lo ≤ b ∧ b < hi) (hB : Blk w b t (zs.map (Value.int .i64))) : IntsAt w lo hi (.slice (some ⟨b, 0, none⟩) zs.length zs.length) zs := by
  refine ⟨some ⟨b, 0, none⟩, zs.length, rfl, Nat.le_refl _, by omega, fun z hz => List.all_eq_true.1 hw z hz, fun x hx => by cases hx; exact hb, fun i z hz => ⟨b, 0, rfl, ?_⟩⟩
  rw [Nat.zero_add, hB.cell i]
  simp [hz]
theorem blk_new (w : World) (t : TypeId) (xs : List Value) {b : Nat} (hb : w.heap.size = b) : Blk (w.alloc (.cells xs.toArray t)) b t xs := by subst hb; exact Blk.new w t xs

set_option maxRecDepth 100000 in
set_option maxHeartbeats 4000000 in
theorem step_1 (n k : Int) (w : World) (hw : (Lit.int .i64 n).wf = true) (hk : Hid (k = around n 10000000)) (k1 : 0 ≤ k) (k2 : k < 10000000) (hc : k % 6 = 1) :
    Calls Try.prog 25 #[.int .i64 n] w (StepRes w 4 (k / 6 % 12) (k / 6 % 12 + 1 + k / 72 % 9) (1 + k / 648 % 4) []) := by
  have hB : 0 ≤ k / 6 % 12 ∧ k / 6 % 12 < 12 := by omega
  obtain ⟨b1, b2⟩ := hB
  have hC : 0 ≤ k / 72 % 9 ∧ k / 72 % 9 < 9 := by omega
  obtain ⟨b3, b4⟩ := hC
  have hD : 0 ≤ k / 648 % 4 ∧ k / 648 % 4 < 4 := by omega
  obtain ⟨b5, b6⟩ := hD
  go_enter Try.func25, Try.ntmps25
  go_wp2_with (first | (go_at_call 9; refine (around_any n 10000000 _ hw (by omega) (by omega)).mono ?_; rintro e w' ⟨rfl, rfl⟩; rw [← hk.out]) | (refine wpList_store_blk rfl 38 (.tmp 4) (.tmp 15) rfl (w.heap.size + 1 + 1) (stepMk 4 (k / 6 % 12) 0 0 (.slice none 0 0)) rfl ?hy 38 (stepMk 0 0 0 0 (.slice none 0 0)).toList ?hB stepInfo ?hl (stepMk_one _ _ _ _ _ rfl) ?_))
  try (case hy => rfl)
  try (case hl => rfl)
  case hB => exact blk_zero2 w _ _
  intro w1 B1 K1 S1
  have c0 := cell_of_blk B1 (stepMk_0 _ _ _ _ _)
  have c1 := cell_of_blk B1 (stepMk_1 _ _ _ _ _)
  have c2 := cell_of_blk B1 (stepMk_2 _ _ _ _ _)
  have c4 := cell_of_blk B1 (stepMk_4 _ _ _ _ _)
  have c5 := cell_of_blk B1 (stepMk_5 _ _ _ _ _)
  have z2 := B1.frozen 2
  have z4 := B1.frozen 4
  have z5 := B1.frozen 5
  have HB := Lib.hid B1
  have HK : Hid (Below w.heap.size w w1) := Lib.hid ((((Below.refl w.heap.size w).alloc (Nat.le_refl _) _).alloc (by simp) _).alloc (by simp <;> omega) _ |>.trans (K1.toBelow (by simp <;> omega) (fun b hb e => by omega)))
  have HZ : Hid (Blk w1 w.heap.size 38 (stepMk 0 0 0 0 (.slice none 0 0)).toList) := Lib.hid ((blk_zero w _ _).keeps K1 (fun e => by omega))
  have S2 : w1.heap.size = w.heap.size + 1 + 1 + 1 := by first | (rw [S1]; done) | (rw [S1]; simp)
  clear B1 K1 S1
  go_upto_region 7 with (fail)
  have HS2 := Lib.hid S2
  clear c0 c1 c2 c4 c5 z2 z4 z5 S2
  have HB2 := Lib.hid ((HB.out.set 2 (.int .i64 (k / 6 % 12 + 1 + k / 72 % 9))).set 4 (.int .i64 (1 + k / 648 % 4)))
  have HZ2 := Lib.hid ((HZ.out.setOther (p := ⟨w.heap.size + 1 + 1, 2, none⟩) (by simp <;> omega) (.int .i64 (k / 6 % 12 + 1 + k / 72 % 9))).setOther (p := ⟨w.heap.size + 1 + 1, 4, none⟩) (by simp <;> omega) (.int .i64 (1 + k / 648 % 4)))
  have HK2 := Lib.hid ((HK.out.setCell (p := ⟨w.heap.size + 1 + 1, 2, none⟩) (by simp <;> omega) (.int .i64 (k / 6 % 12 + 1 + k / 72 % 9))).setCell (p := ⟨w.heap.size + 1 + 1, 4, none⟩) (by simp <;> omega) (.int .i64 (1 + k / 648 % 4)))
  clear HB HZ HK
  go_wp2_with (first | (refine load_blk rfl 38 (.tmp 4) rfl (w.heap.size + 1 + 1) rfl 38 (stepMk 4 (k / 6 % 12) (k / 6 % 12 + 1 + k / 72 % 9) (1 + k / 648 % 4) (.slice none 0 0)) _ HB2.out Try.underlying38 rfl stepInfo ?_) | (refine wpList_store_blk rfl 38 (.tmp 2) (.tmp 44) rfl w.heap.size (stepMk 4 (k / 6 % 12) (k / 6 % 12 + 1 + k / 72 % 9) (1 + k / 648 % 4) (.slice none 0 0)) rfl ?hy 38 (stepMk 0 0 0 0 (.slice none 0 0)).toList HZ2.out stepInfo ?hl (stepMk_one _ _ _ _ _ rfl) ?_))
  try (case hy => rfl)
  try (case hl => rfl)
  intro w2 B2 K2 S3
  have HB3 := Lib.hid B2
  have HK3 : Hid (Below w.heap.size w w2) := Lib.hid (HK2.out.trans (K2.toBelow (by simp [HS2.out] <;> omega) (fun b hb e => by omega)))
  have HI : Hid (IntsAt w2 w.heap.size w2.heap.size (.slice none 0 0) []) := Lib.hid (IntsAt.nil _ _ _)
  clear B2 K2 S3
  go_wp2
  exact bodyPost_ret (step_results rfl HB3.out rfl) rfl ⟨_, rfl, rfl, HI.out, HK3.out⟩

set_option maxRecDepth 100000 in
set_option maxHeartbeats 4000000 in
theorem step_2 (n k : Int) (w : World) (hw : (Lit.int .i64 n).wf = true) (hk : Hid (k = around n 10000000)) (k1 : 0 ≤ k) (k2 : k < 10000000) (hc : k % 6 = 2) :
    Calls Try.prog 25 #[.int .i64 n] w (StepRes w 5 (k / 6 % 12) (k / 6 % 12 + 1 + k / 72 % 9) (1 + k / 648 % 4) []) := by
  have hB : 0 ≤ k / 6 % 12 ∧ k / 6 % 12 < 12 := by omega
  obtain ⟨b1, b2⟩ := hB
  have hC : 0 ≤ k / 72 % 9 ∧ k / 72 % 9 < 9 := by omega
  obtain ⟨b3, b4⟩ := hC
  have hD : 0 ≤ k / 648 % 4 ∧ k / 648 % 4 < 4 := by omega
  obtain ⟨b5, b6⟩ := hD
  go_enter Try.func25, Try.ntmps25
  go_wp2_with (first | (go_at_call 9; refine (around_any n 10000000 _ hw (by omega) (by omega)).mono ?_; rintro e w' ⟨rfl, rfl⟩; rw [← hk.out]) | (refine wpList_store_blk rfl 38 (.tmp 4) (.tmp 15) rfl (w.heap.size + 1 + 1) (stepMk 5 (k / 6 % 12) 0 0 (.slice none 0 0)) rfl ?hy 38 (stepMk 0 0 0 0 (.slice none 0 0)).toList ?hB stepInfo ?hl (stepMk_one _ _ _ _ _ rfl) ?_))
  try (case hy => rfl)
  try (case hl => rfl)
  case hB => exact blk_zero2 w _ _
  intro w1 B1 K1 S1
  have c0 := cell_of_blk B1 (stepMk_0 _ _ _ _ _)
  have c1 := cell_of_blk B1 (stepMk_1 _ _ _ _ _)
  have c2 := cell_of_blk B1 (stepMk_2 _ _ _ _ _)
  have c4 := cell_of_blk B1 (stepMk_4 _ _ _ _ _)
  have c5 := cell_of_blk B1 (stepMk_5 _ _ _ _ _)
  have z2 := B1.frozen 2
  have z4 := B1.frozen 4
  have z5 := B1.frozen 5
  have HB := Lib.hid B1
  have HK : Hid (Below w.heap.size w w1) := Lib.hid ((((Below.refl w.heap.size w).alloc (Nat.le_refl _) _).alloc (by simp) _).alloc (by simp <;> omega) _ |>.trans (K1.toBelow (by simp <;> omega) (fun b hb e => by omega)))
  have HZ : Hid (Blk w1 w.heap.size 38 (stepMk 0 0 0 0 (.slice none 0 0)).toList) := Lib.hid ((blk_zero w _ _).keeps K1 (fun e => by omega))
  have S2 : w1.heap.size = w.heap.size + 1 + 1 + 1 := by first | (rw [S1]; done) | (rw [S1]; simp)
  clear B1 K1 S1
  go_upto_region 7 with (fail)
  have HS2 := Lib.hid S2
  clear c0 c1 c2 c4 c5 z2 z4 z5 S2
  have HB2 := Lib.hid ((HB.out.set 2 (.int .i64 (k / 6 % 12 + 1 + k / 72 % 9))).set 4 (.int .i64 (1 + k / 648 % 4)))
  have HZ2 := Lib.hid ((HZ.out.setOther (p := ⟨w.heap.size + 1 + 1, 2, none⟩) (by simp <;> omega) (.int .i64 (k / 6 % 12 + 1 + k / 72 % 9))).setOther (p := ⟨w.heap.size + 1 + 1, 4, none⟩) (by simp <;> omega) (.int .i64 (1 + k / 648 % 4)))
  have HK2 := Lib.hid ((HK.out.setCell (p := ⟨w.heap.size + 1 + 1, 2, none⟩) (by simp <;> omega) (.int .i64 (k / 6 % 12 + 1 + k / 72 % 9))).setCell (p := ⟨w.heap.size + 1 + 1, 4, none⟩) (by simp <;> omega) (.int .i64 (1 + k / 648 % 4)))
  clear HB HZ HK
  go_wp2_with (first | (refine load_blk rfl 38 (.tmp 4) rfl (w.heap.size + 1 + 1) rfl 38 (stepMk 5 (k / 6 % 12) (k / 6 % 12 + 1 + k / 72 % 9) (1 + k / 648 % 4) (.slice none 0 0)) _ HB2.out Try.underlying38 rfl stepInfo ?_) | (refine wpList_store_blk rfl 38 (.tmp 2) (.tmp 44) rfl w.heap.size (stepMk 5 (k / 6 % 12) (k / 6 % 12 + 1 + k / 72 % 9) (1 + k / 648 % 4) (.slice none 0 0)) rfl ?hy 38 (stepMk 0 0 0 0 (.slice none 0 0)).toList HZ2.out stepInfo ?hl (stepMk_one _ _ _ _ _ rfl) ?_))
  try (case hy => rfl)
  try (case hl => rfl)
  intro w2 B2 K2 S3
  have HB3 := Lib.hid B2
  have HK3 : Hid (Below w.heap.size w w2) := Lib.hid (HK2.out.trans (K2.toBelow (by simp [HS2.out] <;> omega) (fun b hb e => by omega)))
  have HI : Hid (IntsAt w2 w.heap.size w2.heap.size (.slice none 0 0) []) := Lib.hid (IntsAt.nil _ _ _)
  clear B2 K2 S3
  go_wp2
  exact bodyPost_ret (step_results rfl HB3.out rfl) rfl ⟨_, rfl, rfl, HI.out, HK3.out⟩

set_option maxRecDepth 100000 in
set_option maxHeartbeats 4000000 in
theorem step_3 (n k : Int) (w : World) (hw : (Lit.int .i64 n).wf = true) (hk : Hid (k = around n 10000000)) (k1 : 0 ≤ k) (k2 : k < 10000000) (hc : k % 6 = 3) :
    Calls Try.prog 25 #[.int .i64 n] w (StepRes w 6 (k / 6 % 12) (k / 6 % 12 + 1 + k / 72 % 9) (1 + k / 648 % 4) []) := by
  have hB : 0 ≤ k / 6 % 12 ∧ k / 6 % 12 < 12 := by omega
  obtain ⟨b1, b2⟩ := hB
  have hC : 0 ≤ k / 72 % 9 ∧ k / 72 % 9 < 9 := by omega
  obtain ⟨b3, b4⟩ := hC
  have hD : 0 ≤ k / 648 % 4 ∧ k / 648 % 4 < 4 := by omega
  obtain ⟨b5, b6⟩ := hD
  go_enter Try.func25, Try.ntmps25
  go_wp2_with (first | (go_at_call 9; refine (around_any n 10000000 _ hw (by omega) (by omega)).mono ?_; rintro e w' ⟨rfl, rfl⟩; rw [← hk.out]) | (refine wpList_store_blk rfl 38 (.tmp 4) (.tmp 15) rfl (w.heap.size + 1 + 1) (stepMk 6 (k / 6 % 12) 0 0 (.slice none 0 0)) rfl ?hy 38 (stepMk 0 0 0 0 (.slice none 0 0)).toList ?hB stepInfo ?hl (stepMk_one _ _ _ _ _ rfl) ?_))
  try (case hy => rfl)
  try (case hl => rfl)
  case hB => exact blk_zero2 w _ _
  intro w1 B1 K1 S1
  have c0 := cell_of_blk B1 (stepMk_0 _ _ _ _ _)
  have c1 := cell_of_blk B1 (stepMk_1 _ _ _ _ _)
  have c2 := cell_of_blk B1 (stepMk_2 _ _ _ _ _)
  have c4 := cell_of_blk B1 (stepMk_4 _ _ _ _ _)
  have c5 := cell_of_blk B1 (stepMk_5 _ _ _ _ _)
  have z2 := B1.frozen 2
  have z4 := B1.frozen 4
  have z5 := B1.frozen 5
  have HB := Lib.hid B1
  have HK : Hid (Below w.heap.size w w1) := Lib.hid ((((Below.refl w.heap.size w).alloc (Nat.le_refl _) _).alloc (by simp) _).alloc (by simp <;> omega) _ |>.trans (K1.toBelow (by simp <;> omega) (fun b hb e => by omega)))
  have HZ : Hid (Blk w1 w.heap.size 38 (stepMk 0 0 0 0 (.slice none 0 0)).toList) := Lib.hid ((blk_zero w _ _).keeps K1 (fun e => by omega))
  have S2 : w1.heap.size = w.heap.size + 1 + 1 + 1 := by first | (rw [S1]; done) | (rw [S1]; simp)
  clear B1 K1 S1
  go_upto_region 7 with (fail)
  have HS2 := Lib.hid S2
  clear c0 c1 c2 c4 c5 z2 z4 z5 S2
  have HB2 := Lib.hid ((HB.out.set 2 (.int .i64 (k / 6 % 12 + 1 + k / 72 % 9))).set 4 (.int .i64 (1 + k / 648 % 4)))
  have HZ2 := Lib.hid ((HZ.out.setOther (p := ⟨w.heap.size + 1 + 1, 2, none⟩) (by simp <;> omega) (.int .i64 (k / 6 % 12 + 1 + k / 72 % 9))).setOther (p := ⟨w.heap.size + 1 + 1, 4, none⟩) (by simp <;> omega) (.int .i64 (1 + k / 648 % 4)))
  have HK2 := Lib.hid ((HK.out.setCell (p := ⟨w.heap.size + 1 + 1, 2, none⟩) (by simp <;> omega) (.int .i64 (k / 6 % 12 + 1 + k / 72 % 9))).setCell (p := ⟨w.heap.size + 1 + 1, 4, none⟩) (by simp <;> omega) (.int .i64 (1 + k / 648 % 4)))
  clear HB HZ HK
  go_wp2_with (first | (refine load_blk rfl 38 (.tmp 4) rfl (w.heap.size + 1 + 1) rfl 38 (stepMk 6 (k / 6 % 12) (k / 6 % 12 + 1 + k / 72 % 9) (1 + k / 648 % 4) (.slice none 0 0)) _ HB2.out Try.underlying38 rfl stepInfo ?_) | (refine wpList_store_blk rfl 38 (.tmp 2) (.tmp 44) rfl w.heap.size (stepMk 6 (k / 6 % 12) (k / 6 % 12 + 1 + k / 72 % 9) (1 + k / 648 % 4) (.slice none 0 0)) rfl ?hy 38 (stepMk 0 0 0 0 (.slice none 0 0)).toList HZ2.out stepInfo ?hl (stepMk_one _ _ _ _ _ rfl) ?_))
  try (case hy => rfl)
  try (case hl => rfl)
  intro w2 B2 K2 S3
  have HB3 := Lib.hid B2
  have HK3 : Hid (Below w.heap.size w w2) := Lib.hid (HK2.out.trans (K2.toBelow (by simp [HS2.out] <;> omega) (fun b hb e => by omega)))
  have HI : Hid (IntsAt w2 w.heap.size w2.heap.size (.slice none 0 0) []) := Lib.hid (IntsAt.nil _ _ _)
  clear B2 K2 S3
  go_wp2
  exact bodyPost_ret (step_results rfl HB3.out rfl) rfl ⟨_, rfl, rfl, HI.out, HK3.out⟩

set_option maxRecDepth 100000 in
set_option maxHeartbeats 4000000 in
theorem step_4 (n k : Int) (w : World) (hw : (Lit.int .i64 n).wf = true) (hk : Hid (k = around n 10000000)) (k1 : 0 ≤ k) (k2 : k < 10000000) (hc : k % 6 = 4) :
    Calls Try.prog 25 #[.int .i64 n] w (StepRes w 4 (k / 6 % 12) (k / 6 % 12 + 1 + k / 72 % 9) (1 + k / 648 % 4) []) := by
  have hB : 0 ≤ k / 6 % 12 ∧ k / 6 % 12 < 12 := by omega
  obtain ⟨b1, b2⟩ := hB
  have hC : 0 ≤ k / 72 % 9 ∧ k / 72 % 9 < 9 := by omega
  obtain ⟨b3, b4⟩ := hC
  have hD : 0 ≤ k / 648 % 4 ∧ k / 648 % 4 < 4 := by omega
  obtain ⟨b5, b6⟩ := hD
  go_enter Try.func25, Try.ntmps25
  go_wp2_with (first | (go_at_call 9; refine (around_any n 10000000 _ hw (by omega) (by omega)).mono ?_; rintro e w' ⟨rfl, rfl⟩; rw [← hk.out]) | (refine wpList_store_blk rfl 38 (.tmp 4) (.tmp 15) rfl (w.heap.size + 1 + 1) (stepMk 4 (k / 6 % 12) 0 0 (.slice none 0 0)) rfl ?hy 38 (stepMk 0 0 0 0 (.slice none 0 0)).toList ?hB stepInfo ?hl (stepMk_one _ _ _ _ _ rfl) ?_))
  try (case hy => rfl)
  try (case hl => rfl)
  case hB => exact blk_zero2 w _ _
  intro w1 B1 K1 S1
  have c0 := cell_of_blk B1 (stepMk_0 _ _ _ _ _)
  have c1 := cell_of_blk B1 (stepMk_1 _ _ _ _ _)
  have c2 := cell_of_blk B1 (stepMk_2 _ _ _ _ _)
  have c4 := cell_of_blk B1 (stepMk_4 _ _ _ _ _)
  have c5 := cell_of_blk B1 (stepMk_5 _ _ _ _ _)
  have z2 := B1.frozen 2
  have z4 := B1.frozen 4
  have z5 := B1.frozen 5
  have HB := Lib.hid B1
  have HK : Hid (Below w.heap.size w w1) := Lib.hid ((((Below.refl w.heap.size w).alloc (Nat.le_refl _) _).alloc (by simp) _).alloc (by simp <;> omega) _ |>.trans (K1.toBelow (by simp <;> omega) (fun b hb e => by omega)))
  have HZ : Hid (Blk w1 w.heap.size 38 (stepMk 0 0 0 0 (.slice none 0 0)).toList) := Lib.hid ((blk_zero w _ _).keeps K1 (fun e => by omega))
  have S2 : w1.heap.size = w.heap.size + 1 + 1 + 1 := by first | (rw [S1]; done) | (rw [S1]; simp)
  clear B1 K1 S1
  go_upto_region 7 with (fail)
  have HS2 := Lib.hid S2
  clear c0 c1 c2 c4 c5 z2 z4 z5 S2
  have HB2 := Lib.hid ((HB.out.set 2 (.int .i64 (k / 6 % 12 + 1 + k / 72 % 9))).set 4 (.int .i64 (1 + k / 648 % 4)))
  have HZ2 := Lib.hid ((HZ.out.setOther (p := ⟨w.heap.size + 1 + 1, 2, none⟩) (by simp <;> omega) (.int .i64 (k / 6 % 12 + 1 + k / 72 % 9))).setOther (p := ⟨w.heap.size + 1 + 1, 4, none⟩) (by simp <;> omega) (.int .i64 (1 + k / 648 % 4)))
  have HK2 := Lib.hid ((HK.out.setCell (p := ⟨w.heap.size + 1 + 1, 2, none⟩) (by simp <;> omega) (.int .i64 (k / 6 % 12 + 1 + k / 72 % 9))).setCell (p := ⟨w.heap.size + 1 + 1, 4, none⟩) (by simp <;> omega) (.int .i64 (1 + k / 648 % 4)))
  clear HB HZ HK
  go_wp2_with (first | (refine load_blk rfl 38 (.tmp 4) rfl (w.heap.size + 1 + 1) rfl 38 (stepMk 4 (k / 6 % 12) (k / 6 % 12 + 1 + k / 72 % 9) (1 + k / 648 % 4) (.slice none 0 0)) _ HB2.out Try.underlying38 rfl stepInfo ?_) | (refine wpList_store_blk rfl 38 (.tmp 2) (.tmp 44) rfl w.heap.size (stepMk 4 (k / 6 % 12) (k / 6 % 12 + 1 + k / 72 % 9) (1 + k / 648 % 4) (.slice none 0 0)) rfl ?hy 38 (stepMk 0 0 0 0 (.slice none 0 0)).toList HZ2.out stepInfo ?hl (stepMk_one _ _ _ _ _ rfl) ?_))
  try (case hy => rfl)
  try (case hl => rfl)
  intro w2 B2 K2 S3
  have HB3 := Lib.hid B2
  have HK3 : Hid (Below w.heap.size w w2) := Lib.hid (HK2.out.trans (K2.toBelow (by simp [HS2.out] <;> omega) (fun b hb e => by omega)))
  have HI : Hid (IntsAt w2 w.heap.size w2.heap.size (.slice none 0 0) []) := Lib.hid (IntsAt.nil _ _ _)
  clear B2 K2 S3
  go_wp2
  exact bodyPost_ret (step_results rfl HB3.out rfl) rfl ⟨_, rfl, rfl, HI.out, HK3.out⟩

set_option maxRecDepth 100000 in
set_option maxHeartbeats 4000000 in
theorem step_5 (n k : Int) (w : World) (hw : (Lit.int .i64 n).wf = true) (hk : Hid (k = around n 10000000)) (k1 : 0 ≤ k) (k2 : k < 10000000) (hc : k % 6 = 5) :
    Calls Try.prog 25 #[.int .i64 n] w (StepRes w 5 (k / 6 % 12) (k / 6 % 12 + 1 + k / 72 % 9) (1 + k / 648 % 4) []) := by
  have hB : 0 ≤ k / 6 % 12 ∧ k / 6 % 12 < 12 := by omega
  obtain ⟨b1, b2⟩ := hB
  have hC : 0 ≤ k / 72 % 9 ∧ k / 72 % 9 < 9 := by omega
  obtain ⟨b3, b4⟩ := hC
  have hD : 0 ≤ k / 648 % 4 ∧ k / 648 % 4 < 4 := by omega
  obtain ⟨b5, b6⟩ := hD
  go_enter Try.func25, Try.ntmps25
  go_wp2_with (first | (go_at_call 9; refine (around_any n 10000000 _ hw (by omega) (by omega)).mono ?_; rintro e w' ⟨rfl, rfl⟩; rw [← hk.out]) | (refine wpList_store_blk rfl 38 (.tmp 4) (.tmp 15) rfl (w.heap.size + 1 + 1) (stepMk 5 (k / 6 % 12) 0 0 (.slice none 0 0)) rfl ?hy 38 (stepMk 0 0 0 0 (.slice none 0 0)).toList ?hB stepInfo ?hl (stepMk_one _ _ _ _ _ rfl) ?_))
  try (case hy => rfl)
  try (case hl => rfl)
  case hB => exact blk_zero2 w _ _
  intro w1 B1 K1 S1
  have c0 := cell_of_blk B1 (stepMk_0 _ _ _ _ _)
  have c1 := cell_of_blk B1 (stepMk_1 _ _ _ _ _)
  have c2 := cell_of_blk B1 (stepMk_2 _ _ _ _ _)
  have c4 := cell_of_blk B1 (stepMk_4 _ _ _ _ _)
  have c5 := cell_of_blk B1 (stepMk_5 _ _ _ _ _)
  have z2 := B1.frozen 2
  have z4 := B1.frozen 4
  have z5 := B1.frozen 5
  have HB := Lib.hid B1
  have HK : Hid (Below w.heap.size w w1) := Lib.hid ((((Below.refl w.heap.size w).alloc (Nat.le_refl _) _).alloc (by simp) _).alloc (by simp <;> omega) _ |>.trans (K1.toBelow (by simp <;> omega) (fun b hb e => by omega)))
  have HZ : Hid (Blk w1 w.heap.size 38 (stepMk 0 0 0 0 (.slice none 0 0)).toList) := Lib.hid ((blk_zero w _ _).keeps K1 (fun e => by omega))
  have S2 : w1.heap.size = w.heap.size + 1 + 1 + 1 := by first | (rw [S1]; done) | (rw [S1]; simp)
  clear B1 K1 S1
  go_upto_region 7 with (fail)
  have HS2 := Lib.hid S2
  clear c0 c1 c2 c4 c5 z2 z4 z5 S2
  have HB2 := Lib.hid ((HB.out.set 2 (.int .i64 (k / 6 % 12 + 1 + k / 72 % 9))).set 4 (.int .i64 (1 + k / 648 % 4)))
  have HZ2 := Lib.hid ((HZ.out.setOther (p := ⟨w.heap.size + 1 + 1, 2, none⟩) (by simp <;> omega) (.int .i64 (k / 6 % 12 + 1 + k / 72 % 9))).setOther (p := ⟨w.heap.size + 1 + 1, 4, none⟩) (by simp <;> omega) (.int .i64 (1 + k / 648 % 4)))
  have HK2 := Lib.hid ((HK.out.setCell (p := ⟨w.heap.size + 1 + 1, 2, none⟩) (by simp <;> omega) (.int .i64 (k / 6 % 12 + 1 + k / 72 % 9))).setCell (p := ⟨w.heap.size + 1 + 1, 4, none⟩) (by simp <;> omega) (.int .i64 (1 + k / 648 % 4)))
  clear HB HZ HK
  go_wp2_with (first | (refine load_blk rfl 38 (.tmp 4) rfl (w.heap.size + 1 + 1) rfl 38 (stepMk 5 (k / 6 % 12) (k / 6 % 12 + 1 + k / 72 % 9) (1 + k / 648 % 4) (.slice none 0 0)) _ HB2.out Try.underlying38 rfl stepInfo ?_) | (refine wpList_store_blk rfl 38 (.tmp 2) (.tmp 44) rfl w.heap.size (stepMk 5 (k / 6 % 12) (k / 6 % 12 + 1 + k / 72 % 9) (1 + k / 648 % 4) (.slice none 0 0)) rfl ?hy 38 (stepMk 0 0 0 0 (.slice none 0 0)).toList HZ2.out stepInfo ?hl (stepMk_one _ _ _ _ _ rfl) ?_))
  try (case hy => rfl)
  try (case hl => rfl)
  intro w2 B2 K2 S3
  have HB3 := Lib.hid B2
  have HK3 : Hid (Below w.heap.size w w2) := Lib.hid (HK2.out.trans (K2.toBelow (by simp [HS2.out] <;> omega) (fun b hb e => by omega)))
  have HI : Hid (IntsAt w2 w.heap.size w2.heap.size (.slice none 0 0) []) := Lib.hid (IntsAt.nil _ _ _)
  clear B2 K2 S3
  go_wp2
  exact bodyPost_ret (step_results rfl HB3.out rfl) rfl ⟨_, rfl, rfl, HI.out, HK3.out⟩

set_option maxRecDepth 100000 in
set_option maxHeartbeats 4000000 in
theorem step_00 (n k : Int) (w : World) (hw : (Lit.int .i64 n).wf = true) (hk : Hid (k = around n 10000000)) (k1 : 0 ≤ k) (k2 : k < 10000000) (hc : k % 6 = 0) (hj : k / 648 % 5 = 0) :
    Calls Try.prog 25 #[.int .i64 n] w (StepRes w 3 (k / 6 % 12) (k / 6 % 12 + 1 + k / 72 % 9) 0 [1]) := by
  have hB : 0 ≤ k / 6 % 12 ∧ k / 6 % 12 < 12 := by omega
  obtain ⟨b1, b2⟩ := hB
  have hC : 0 ≤ k / 72 % 9 ∧ k / 72 % 9 < 9 := by omega
  obtain ⟨b3, b4⟩ := hC
  have hD : 0 ≤ k / 648 % 4 ∧ k / 648 % 4 < 4 := by omega
  obtain ⟨b5, b6⟩ := hD
  go_enter Try.func25, Try.ntmps25
  go_wp2_with (first | (go_at_call 9; refine (around_any n 10000000 _ hw (by omega) (by omega)).mono ?_; rintro e w' ⟨rfl, rfl⟩; rw [← hk.out]) | (refine wpList_store_blk rfl 38 (.tmp 4) (.tmp 15) rfl (w.heap.size + 1 + 1) (stepMk 3 (k / 6 % 12) 0 0 (.slice none 0 0)) rfl ?hy 38 (stepMk 0 0 0 0 (.slice none 0 0)).toList ?hB stepInfo ?hl (stepMk_one _ _ _ _ _ rfl) ?_))
  try (case hy => rfl)
  try (case hl => rfl)
  case hB => exact blk_zero2 w _ _
  intro w1 B1 K1 S1
  have c0 := cell_of_blk B1 (stepMk_0 _ _ _ _ _)
  have c1 := cell_of_blk B1 (stepMk_1 _ _ _ _ _)
  have c2 := cell_of_blk B1 (stepMk_2 _ _ _ _ _)
  have c4 := cell_of_blk B1 (stepMk_4 _ _ _ _ _)
  have c5 := cell_of_blk B1 (stepMk_5 _ _ _ _ _)
  have z2 := B1.frozen 2
  have z4 := B1.frozen 4
  have z5 := B1.frozen 5
  have HB := Lib.hid B1
  have HK : Hid (Below w.heap.size w w1) := Lib.hid ((((Below.refl w.heap.size w).alloc (Nat.le_refl _) _).alloc (by simp) _).alloc (by simp <;> omega) _ |>.trans (K1.toBelow (by simp <;> omega) (fun b hb e => by omega)))
  have HZ : Hid (Blk w1 w.heap.size 38 (stepMk 0 0 0 0 (.slice none 0 0)).toList) := Lib.hid ((blk_zero w _ _).keeps K1 (fun e => by omega))
  have S2 : w1.heap.size = w.heap.size + 1 + 1 + 1 := by first | (rw [S1]; done) | (rw [S1]; simp)
  clear B1 K1 S1
  go_upto_region 7 with (fail)
  have HS2 := Lib.hid S2
  clear c0 c1 c2 c4 c5 z2 z4 z5 S2
  have HB2 := Lib.hid (((((((((HB.out.set 2 (.int .i64 (k / 6 % 12 + 1 + k / 72 % 9))).set 5 (.slice (some ⟨w.heap.size + 1 + 1 + 1, 0, none⟩) 1 1)).alloc (.cells #[.int .i64 1] 3)).alloc (.cells #[.int .i64 2, .int .i64 3] 3)).alloc (.cells #[.int .i64 1, .int .i64 2, .int .i64 3, .int .i64 4] 3)).alloc (.cells #[.int .i64 4] 3)).alloc (.cells #[.int .i64 12, .int .i64 1] 3)).alloc (.cells #[(.slice (some ⟨w.heap.size + 1 + 1 + 1, 0, none⟩) 1 1), (.slice (some ⟨w.heap.size + 1 + 1 + 1 + 1, 0, none⟩) 2 2), (.slice (some ⟨w.heap.size + 1 + 1 + 1 + 1 + 1, 0, none⟩) 4 4), (.slice (some ⟨w.heap.size + 1 + 1 + 1 + 1 + 1 + 1, 0, none⟩) 1 1), (.slice (some ⟨w.heap.size + 1 + 1 + 1 + 1 + 1 + 1 + 1, 0, none⟩) 2 2)] 23)))
  have HZ2 := Lib.hid (((((((((HZ.out.setOther (p := ⟨w.heap.size + 1 + 1, 2, none⟩) (by simp <;> omega) (.int .i64 (k / 6 % 12 + 1 + k / 72 % 9))).setOther (p := ⟨w.heap.size + 1 + 1, 5, none⟩) (by simp <;> omega) (.slice (some ⟨w.heap.size + 1 + 1 + 1, 0, none⟩) 1 1)).alloc (.cells #[.int .i64 1] 3)).alloc (.cells #[.int .i64 2, .int .i64 3] 3)).alloc (.cells #[.int .i64 1, .int .i64 2, .int .i64 3, .int .i64 4] 3)).alloc (.cells #[.int .i64 4] 3)).alloc (.cells #[.int .i64 12, .int .i64 1] 3)).alloc (.cells #[(.slice (some ⟨w.heap.size + 1 + 1 + 1, 0, none⟩) 1 1), (.slice (some ⟨w.heap.size + 1 + 1 + 1 + 1, 0, none⟩) 2 2), (.slice (some ⟨w.heap.size + 1 + 1 + 1 + 1 + 1, 0, none⟩) 4 4), (.slice (some ⟨w.heap.size + 1 + 1 + 1 + 1 + 1 + 1, 0, none⟩) 1 1), (.slice (some ⟨w.heap.size + 1 + 1 + 1 + 1 + 1 + 1 + 1, 0, none⟩) 2 2)] 23)))
  have HK2 := Lib.hid (((((((((HK.out.setCell (p := ⟨w.heap.size + 1 + 1, 2, none⟩) (by simp <;> omega) (.int .i64 (k / 6 % 12 + 1 + k / 72 % 9))).setCell (p := ⟨w.heap.size + 1 + 1, 5, none⟩) (by simp <;> omega) (.slice (some ⟨w.heap.size + 1 + 1 + 1, 0, none⟩) 1 1)).alloc (by simp [HS2.out] <;> omega) (.cells #[.int .i64 1] 3)).alloc (by simp [HS2.out] <;> omega) (.cells #[.int .i64 2, .int .i64 3] 3)).alloc (by simp [HS2.out] <;> omega) (.cells #[.int .i64 1, .int .i64 2, .int .i64 3, .int .i64 4] 3)).alloc (by simp [HS2.out] <;> omega) (.cells #[.int .i64 4] 3)).alloc (by simp [HS2.out] <;> omega) (.cells #[.int .i64 12, .int .i64 1] 3)).alloc (by simp [HS2.out] <;> omega) (.cells #[(.slice (some ⟨w.heap.size + 1 + 1 + 1, 0, none⟩) 1 1), (.slice (some ⟨w.heap.size + 1 + 1 + 1 + 1, 0, none⟩) 2 2), (.slice (some ⟨w.heap.size + 1 + 1 + 1 + 1 + 1, 0, none⟩) 4 4), (.slice (some ⟨w.heap.size + 1 + 1 + 1 + 1 + 1 + 1, 0, none⟩) 1 1), (.slice (some ⟨w.heap.size + 1 + 1 + 1 + 1 + 1 + 1 + 1, 0, none⟩) 2 2)] 23)))
  clear HB HZ HK
  go_wp2_with (first | (refine load_blk rfl 38 (.tmp 4) rfl (w.heap.size + 1 + 1) rfl 38 (stepMk 3 (k / 6 % 12) (k / 6 % 12 + 1 + k / 72 % 9) 0 (.slice (some ⟨w.heap.size + 1 + 1 + 1, 0, none⟩) 1 1)) _ HB2.out Try.underlying38 rfl stepInfo ?_) | (refine wpList_store_blk rfl 38 (.tmp 2) (.tmp 44) rfl w.heap.size (stepMk 3 (k / 6 % 12) (k / 6 % 12 + 1 + k / 72 % 9) 0 (.slice (some ⟨w.heap.size + 1 + 1 + 1, 0, none⟩) 1 1)) rfl ?hy 38 (stepMk 0 0 0 0 (.slice none 0 0)).toList HZ2.out stepInfo ?hl (stepMk_one _ _ _ _ _ rfl) ?_))
  try (case hy => rfl)
  try (case hl => rfl)
  intro w2 B2 K2 S3
  have HB3 := Lib.hid B2
  have HK3 : Hid (Below w.heap.size w w2) := Lib.hid (HK2.out.trans (K2.toBelow (by simp [HS2.out] <;> omega) (fun b hb e => by omega)))
  have HI : Hid (IntsAt w2 w.heap.size w2.heap.size (.slice (some ⟨w.heap.size + 1 + 1 + 1, 0, none⟩) 1 1) [1]) := Lib.hid (ints_lit (t := 3) w.heap.size (zs := [1]) (by decide) (by decide) ⟨by omega, by rw [S3]; simp [HS2.out]⟩ (((((((blk_new ((w1.setCell ⟨w.heap.size + 1 + 1, 2, none⟩ (.int .i64 (k / 6 % 12 + 1 + k / 72 % 9))).setCell ⟨w.heap.size + 1 + 1, 5, none⟩ (.slice (some ⟨w.heap.size + 1 + 1 + 1, 0, none⟩) 1 1)) 3 [.int .i64 1] (b := w.heap.size + 1 + 1 + 1) (by simp [HS2.out])).alloc (.cells #[.int .i64 2, .int .i64 3] 3)).alloc (.cells #[.int .i64 1, .int .i64 2, .int .i64 3, .int .i64 4] 3)).alloc (.cells #[.int .i64 4] 3)).alloc (.cells #[.int .i64 12, .int .i64 1] 3)).alloc (.cells #[(.slice (some ⟨w.heap.size + 1 + 1 + 1, 0, none⟩) 1 1), (.slice (some ⟨w.heap.size + 1 + 1 + 1 + 1, 0, none⟩) 2 2), (.slice (some ⟨w.heap.size + 1 + 1 + 1 + 1 + 1, 0, none⟩) 4 4), (.slice (some ⟨w.heap.size + 1 + 1 + 1 + 1 + 1 + 1, 0, none⟩) 1 1), (.slice (some ⟨w.heap.size + 1 + 1 + 1 + 1 + 1 + 1 + 1, 0, none⟩) 2 2)] 23)).keeps K2 (by omega)))
  clear B2 K2 S3
  go_wp2
  exact bodyPost_ret (step_results rfl HB3.out rfl) rfl ⟨_, rfl, rfl, HI.out, HK3.out⟩

set_option maxRecDepth 100000 in
set_option maxHeartbeats 4000000 in
theorem step_01 (n k : Int) (w : World) (hw : (Lit.int .i64 n).wf = true) (hk : Hid (k = around n 10000000)) (k1 : 0 ≤ k) (k2 : k < 10000000) (hc : k % 6 = 0) (hj : k / 648 % 5 = 1) :
    Calls Try.prog 25 #[.int .i64 n] w (StepRes w 3 (k / 6 % 12) (k / 6 % 12 + 1 + k / 72 % 9) 0 [2, 3]) := by
  have hB : 0 ≤ k / 6 % 12 ∧ k / 6 % 12 < 12 := by omega
  obtain ⟨b1, b2⟩ := hB
  have hC : 0 ≤ k / 72 % 9 ∧ k / 72 % 9 < 9 := by omega
  obtain ⟨b3, b4⟩ := hC
  have hD : 0 ≤ k / 648 % 4 ∧ k / 648 % 4 < 4 := by omega
  obtain ⟨b5, b6⟩ := hD
  go_enter Try.func25, Try.ntmps25
  go_wp2_with (first | (go_at_call 9; refine (around_any n 10000000 _ hw (by omega) (by omega)).mono ?_; rintro e w' ⟨rfl, rfl⟩; rw [← hk.out]) | (refine wpList_store_blk rfl 38 (.tmp 4) (.tmp 15) rfl (w.heap.size + 1 + 1) (stepMk 3 (k / 6 % 12) 0 0 (.slice none 0 0)) rfl ?hy 38 (stepMk 0 0 0 0 (.slice none 0 0)).toList ?hB stepInfo ?hl (stepMk_one _ _ _ _ _ rfl) ?_))
  try (case hy => rfl)
  try (case hl => rfl)
  case hB => exact blk_zero2 w _ _
  intro w1 B1 K1 S1
  have c0 := cell_of_blk B1 (stepMk_0 _ _ _ _ _)
  have c1 := cell_of_blk B1 (stepMk_1 _ _ _ _ _)
  have c2 := cell_of_blk B1 (stepMk_2 _ _ _ _ _)
  have c4 := cell_of_blk B1 (stepMk_4 _ _ _ _ _)
  have c5 := cell_of_blk B1 (stepMk_5 _ _ _ _ _)
  have z2 := B1.frozen 2
  have z4 := B1.frozen 4
  have z5 := B1.frozen 5
  have HB := Lib.hid B1
  have HK : Hid (Below w.heap.size w w1) := Lib.hid ((((Below.refl w.heap.size w).alloc (Nat.le_refl _) _).alloc (by simp) _).alloc (by simp <;> omega) _ |>.trans (K1.toBelow (by simp <;> omega) (fun b hb e => by omega)))
  have HZ : Hid (Blk w1 w.heap.size 38 (stepMk 0 0 0 0 (.slice none 0 0)).toList) := Lib.hid ((blk_zero w _ _).keeps K1 (fun e => by omega))
  have S2 : w1.heap.size = w.heap.size + 1 + 1 + 1 := by first | (rw [S1]; done) | (rw [S1]; simp)
  clear B1 K1 S1
  go_upto_region 7 with (fail)
  have HS2 := Lib.hid S2
  clear c0 c1 c2 c4 c5 z2 z4 z5 S2
  have HB2 := Lib.hid (((((((((HB.out.set 2 (.int .i64 (k / 6 % 12 + 1 + k / 72 % 9))).set 5 (.slice (some ⟨w.heap.size + 1 + 1 + 1 + 1, 0, none⟩) 2 2)).alloc (.cells #[.int .i64 1] 3)).alloc (.cells #[.int .i64 2, .int .i64 3] 3)).alloc (.cells #[.int .i64 1, .int .i64 2, .int .i64 3, .int .i64 4] 3)).alloc (.cells #[.int .i64 4] 3)).alloc (.cells #[.int .i64 12, .int .i64 1] 3)).alloc (.cells #[(.slice (some ⟨w.heap.size + 1 + 1 + 1, 0, none⟩) 1 1), (.slice (some ⟨w.heap.size + 1 + 1 + 1 + 1, 0, none⟩) 2 2), (.slice (some ⟨w.heap.size + 1 + 1 + 1 + 1 + 1, 0, none⟩) 4 4), (.slice (some ⟨w.heap.size + 1 + 1 + 1 + 1 + 1 + 1, 0, none⟩) 1 1), (.slice (some ⟨w.heap.size + 1 + 1 + 1 + 1 + 1 + 1 + 1, 0, none⟩) 2 2)] 23)))
  have HZ2 := Lib.hid (((((((((HZ.out.setOther (p := ⟨w.heap.size + 1 + 1, 2, none⟩) (by simp <;> omega) (.int .i64 (k / 6 % 12 + 1 + k / 72 % 9))).setOther (p := ⟨w.heap.size + 1 + 1, 5, none⟩) (by simp <;> omega) (.slice (some ⟨w.heap.size + 1 + 1 + 1 + 1, 0, none⟩) 2 2)).alloc (.cells #[.int .i64 1] 3)).alloc (.cells #[.int .i64 2, .int .i64 3] 3)).alloc (.cells #[.int .i64 1, .int .i64 2, .int .i64 3, .int .i64 4] 3)).alloc (.cells #[.int .i64 4] 3)).alloc (.cells #[.int .i64 12, .int .i64 1] 3)).alloc (.cells #[(.slice (some ⟨w.heap.size + 1 + 1 + 1, 0, none⟩) 1 1), (.slice (some ⟨w.heap.size + 1 + 1 + 1 + 1, 0, none⟩) 2 2), (.slice (some ⟨w.heap.size + 1 + 1 + 1 + 1 + 1, 0, none⟩) 4 4), (.slice (some ⟨w.heap.size + 1 + 1 + 1 + 1 + 1 + 1, 0, none⟩) 1 1), (.slice (some ⟨w.heap.size + 1 + 1 + 1 + 1 + 1 + 1 + 1, 0, none⟩) 2 2)] 23)))
  have HK2 := Lib.hid (((((((((HK.out.setCell (p := ⟨w.heap.size + 1 + 1, 2, none⟩) (by simp <;> omega) (.int .i64 (k / 6 % 12 + 1 + k / 72 % 9))).setCell (p := ⟨w.heap.size + 1 + 1, 5, none⟩) (by simp <;> omega) (.slice (some ⟨w.heap.size + 1 + 1 + 1 + 1, 0, none⟩) 2 2)).alloc (by simp [HS2.out] <;> omega) (.cells #[.int .i64 1] 3)).alloc (by simp [HS2.out] <;> omega) (.cells #[.int .i64 2, .int .i64 3] 3)).alloc (by simp [HS2.out] <;> omega) (.cells #[.int .i64 1, .int .i64 2, .int .i64 3, .int .i64 4] 3)).alloc (by simp [HS2.out] <;> omega) (.cells #[.int .i64 4] 3)).alloc (by simp [HS2.out] <;> omega) (.cells #[.int .i64 12, .int .i64 1] 3)).alloc (by simp [HS2.out] <;> omega) (.cells #[(.slice (some ⟨w.heap.size + 1 + 1 + 1, 0, none⟩) 1 1), (.slice (some ⟨w.heap.size + 1 + 1 + 1 + 1, 0, none⟩) 2 2), (.slice (some ⟨w.heap.size + 1 + 1 + 1 + 1 + 1, 0, none⟩) 4 4), (.slice (some ⟨w.heap.size + 1 + 1 + 1 + 1 + 1 + 1, 0, none⟩) 1 1), (.slice (some ⟨w.heap.size + 1 + 1 + 1 + 1 + 1 + 1 + 1, 0, none⟩) 2 2)] 23)))
  clear HB HZ HK
  go_wp2_with (first | (refine load_blk rfl 38 (.tmp 4) rfl (w.heap.size + 1 + 1) rfl 38 (stepMk 3 (k / 6 % 12) (k / 6 % 12 + 1 + k / 72 % 9) 0 (.slice (some ⟨w.heap.size + 1 + 1 + 1 + 1, 0, none⟩) 2 2)) _ HB2.out Try.underlying38 rfl stepInfo ?_) | (refine wpList_store_blk rfl 38 (.tmp 2) (.tmp 44) rfl w.heap.size (stepMk 3 (k / 6 % 12) (k / 6 % 12 + 1 + k / 72 % 9) 0 (.slice (some ⟨w.heap.size + 1 + 1 + 1 + 1, 0, none⟩) 2 2)) rfl ?hy 38 (stepMk 0 0 0 0 (.slice none 0 0)).toList HZ2.out stepInfo ?hl (stepMk_one _ _ _ _ _ rfl) ?_))
  try (case hy => rfl)
  try (case hl => rfl)
  intro w2 B2 K2 S3
  have HB3 := Lib.hid B2
  have HK3 : Hid (Below w.heap.size w w2) := Lib.hid (HK2.out.trans (K2.toBelow (by simp [HS2.out] <;> omega) (fun b hb e => by omega)))
  have HI : Hid (IntsAt w2 w.heap.size w2.heap.size (.slice (some ⟨w.heap.size + 1 + 1 + 1 + 1, 0, none⟩) 2 2) [2, 3]) := Lib.hid (ints_lit (t := 3) w.heap.size (zs := [2, 3]) (by decide) (by decide) ⟨by omega, by rw [S3]; simp [HS2.out]⟩ ((((((blk_new (((w1.setCell ⟨w.heap.size + 1 + 1, 2, none⟩ (.int .i64 (k / 6 % 12 + 1 + k / 72 % 9))).setCell ⟨w.heap.size + 1 + 1, 5, none⟩ (.slice (some ⟨w.heap.size + 1 + 1 + 1 + 1, 0, none⟩) 2 2)).alloc (.cells #[.int .i64 1] 3)) 3 [.int .i64 2, .int .i64 3] (b := w.heap.size + 1 + 1 + 1 + 1) (by simp [HS2.out])).alloc (.cells #[.int .i64 1, .int .i64 2, .int .i64 3, .int .i64 4] 3)).alloc (.cells #[.int .i64 4] 3)).alloc (.cells #[.int .i64 12, .int .i64 1] 3)).alloc (.cells #[(.slice (some ⟨w.heap.size + 1 + 1 + 1, 0, none⟩) 1 1), (.slice (some ⟨w.heap.size + 1 + 1 + 1 + 1, 0, none⟩) 2 2), (.slice (some ⟨w.heap.size + 1 + 1 + 1 + 1 + 1, 0, none⟩) 4 4), (.slice (some ⟨w.heap.size + 1 + 1 + 1 + 1 + 1 + 1, 0, none⟩) 1 1), (.slice (some ⟨w.heap.size + 1 + 1 + 1 + 1 + 1 + 1 + 1, 0, none⟩) 2 2)] 23)).keeps K2 (by omega)))
  clear B2 K2 S3
  go_wp2
  exact bodyPost_ret (step_results rfl HB3.out rfl) rfl ⟨_, rfl, rfl, HI.out, HK3.out⟩

set_option maxRecDepth 100000 in
set_option maxHeartbeats 4000000 in
theorem step_02 (n k : Int) (w : World) (hw : (Lit.int .i64 n).wf = true) (hk : Hid (k = around n 10000000)) (k1 : 0 ≤ k) (k2 : k < 10000000) (hc : k % 6 = 0) (hj : k / 648 % 5 = 2) :
    Calls Try.prog 25 #[.int .i64 n] w (StepRes w 3 (k / 6 % 12) (k / 6 % 12 + 1 + k / 72 % 9) 0 [1, 2, 3, 4]) := by
  have hB : 0 ≤ k / 6 % 12 ∧ k / 6 % 12 < 12 := by omega
  obtain ⟨b1, b2⟩ := hB
  have hC : 0 ≤ k / 72 % 9 ∧ k / 72 % 9 < 9 := by omega
  obtain ⟨b3, b4⟩ := hC
  have hD : 0 ≤ k / 648 % 4 ∧ k / 648 % 4 < 4 := by omega
  obtain ⟨b5, b6⟩ := hD
  go_enter Try.func25, Try.ntmps25
  go_wp2_with (first | (go_at_call 9; refine (around_any n 10000000 _ hw (by omega) (by omega)).mono ?_; rintro e w' ⟨rfl, rfl⟩; rw [← hk.out]) | (refine wpList_store_blk rfl 38 (.tmp 4) (.tmp 15) rfl (w.heap.size + 1 + 1) (stepMk 3 (k / 6 % 12) 0 0 (.slice none 0 0)) rfl ?hy 38 (stepMk 0 0 0 0 (.slice none 0 0)).toList ?hB stepInfo ?hl (stepMk_one _ _ _ _ _ rfl) ?_))
  try (case hy => rfl)
  try (case hl => rfl)
  case hB => exact blk_zero2 w _ _
  intro w1 B1 K1 S1
  have c0 := cell_of_blk B1 (stepMk_0 _ _ _ _ _)
  have c1 := cell_of_blk B1 (stepMk_1 _ _ _ _ _)
  have c2 := cell_of_blk B1 (stepMk_2 _ _ _ _ _)
  have c4 := cell_of_blk B1 (stepMk_4 _ _ _ _ _)
  have c5 := cell_of_blk B1 (stepMk_5 _ _ _ _ _)
  have z2 := B1.frozen 2
  have z4 := B1.frozen 4
  have z5 := B1.frozen 5
  have HB := Lib.hid B1
  have HK : Hid (Below w.heap.size w w1) := Lib.hid ((((Below.refl w.heap.size w).alloc (Nat.le_refl _) _).alloc (by simp) _).alloc (by simp <;> omega) _ |>.trans (K1.toBelow (by simp <;> omega) (fun b hb e => by omega)))
  have HZ : Hid (Blk w1 w.heap.size 38 (stepMk 0 0 0 0 (.slice none 0 0)).toList) := Lib.hid ((blk_zero w _ _).keeps K1 (fun e => by omega))
  have S2 : w1.heap.size = w.heap.size + 1 + 1 + 1 := by first | (rw [S1]; done) | (rw [S1]; simp)
  clear B1 K1 S1
  go_upto_region 7 with (fail)
  have HS2 := Lib.hid S2
  clear c0 c1 c2 c4 c5 z2 z4 z5 S2
  have HB2 := Lib.hid (((((((((HB.out.set 2 (.int .i64 (k / 6 % 12 + 1 + k / 72 % 9))).set 5 (.slice (some ⟨w.heap.size + 1 + 1 + 1 + 1 + 1, 0, none⟩) 4 4)).alloc (.cells #[.int .i64 1] 3)).alloc (.cells #[.int .i64 2, .int .i64 3] 3)).alloc (.cells #[.int .i64 1, .int .i64 2, .int .i64 3, .int .i64 4] 3)).alloc (.cells #[.int .i64 4] 3)).alloc (.cells #[.int .i64 12, .int .i64 1] 3)).alloc (.cells #[(.slice (some ⟨w.heap.size + 1 + 1 + 1, 0, none⟩) 1 1), (.slice (some ⟨w.heap.size + 1 + 1 + 1 + 1, 0, none⟩) 2 2), (.slice (some ⟨w.heap.size + 1 + 1 + 1 + 1 + 1, 0, none⟩) 4 4), (.slice (some ⟨w.heap.size + 1 + 1 + 1 + 1 + 1 + 1, 0, none⟩) 1 1), (.slice (some ⟨w.heap.size + 1 + 1 + 1 + 1 + 1 + 1 + 1, 0, none⟩) 2 2)] 23)))
  have HZ2 := Lib.hid (((((((((HZ.out.setOther (p := ⟨w.heap.size + 1 + 1, 2, none⟩) (by simp <;> omega) (.int .i64 (k / 6 % 12 + 1 + k / 72 % 9))).setOther (p := ⟨w.heap.size + 1 + 1, 5, none⟩) (by simp <;> omega) (.slice (some ⟨w.heap.size + 1 + 1 + 1 + 1 + 1, 0, none⟩) 4 4)).alloc (.cells #[.int .i64 1] 3)).alloc (.cells #[.int .i64 2, .int .i64 3] 3)).alloc (.cells #[.int .i64 1, .int .i64 2, .int .i64 3, .int .i64 4] 3)).alloc (.cells #[.int .i64 4] 3)).alloc (.cells #[.int .i64 12, .int .i64 1] 3)).alloc (.cells #[(.slice (some ⟨w.heap.size + 1 + 1 + 1, 0, none⟩) 1 1), (.slice (some ⟨w.heap.size + 1 + 1 + 1 + 1, 0, none⟩) 2 2), (.slice (some ⟨w.heap.size + 1 + 1 + 1 + 1 + 1, 0, none⟩) 4 4), (.slice (some ⟨w.heap.size + 1 + 1 + 1 + 1 + 1 + 1, 0, none⟩) 1 1), (.slice (some ⟨w.heap.size + 1 + 1 + 1 + 1 + 1 + 1 + 1, 0, none⟩) 2 2)] 23)))
  have HK2 := Lib.hid (((((((((HK.out.setCell (p := ⟨w.heap.size + 1 + 1, 2, none⟩) (by simp <;> omega) (.int .i64 (k / 6 % 12 + 1 + k / 72 % 9))).setCell (p := ⟨w.heap.size + 1 + 1, 5, none⟩) (by simp <;> omega) (.slice (some ⟨w.heap.size + 1 + 1 + 1 + 1 + 1, 0, none⟩) 4 4)).alloc (by simp [HS2.out] <;> omega) (.cells #[.int .i64 1] 3)).alloc (by simp [HS2.out] <;> omega) (.cells #[.int .i64 2, .int .i64 3] 3)).alloc (by simp [HS2.out] <;> omega) (.cells #[.int .i64 1, .int .i64 2, .int .i64 3, .int .i64 4] 3)).alloc (by simp [HS2.out] <;> omega) (.cells #[.int .i64 4] 3)).alloc (by simp [HS2.out] <;> omega) (.cells #[.int .i64 12, .int .i64 1] 3)).alloc (by simp [HS2.out] <;> omega) (.cells #[(.slice (some ⟨w.heap.size + 1 + 1 + 1, 0, none⟩) 1 1), (.slice (some ⟨w.heap.size + 1 + 1 + 1 + 1, 0, none⟩) 2 2), (.slice (some ⟨w.heap.size + 1 + 1 + 1 + 1 + 1, 0, none⟩) 4 4), (.slice (some ⟨w.heap.size + 1 + 1 + 1 + 1 + 1 + 1, 0, none⟩) 1 1), (.slice (some ⟨w.heap.size + 1 + 1 + 1 + 1 + 1 + 1 + 1, 0, none⟩) 2 2)] 23)))
  clear HB HZ HK
  go_wp2_with (first | (refine load_blk rfl 38 (.tmp 4) rfl (w.heap.size + 1 + 1) rfl 38 (stepMk 3 (k / 6 % 12) (k / 6 % 12 + 1 + k / 72 % 9) 0 (.slice (some ⟨w.heap.size + 1 + 1 + 1 + 1 + 1, 0, none⟩) 4 4)) _ HB2.out Try.underlying38 rfl stepInfo ?_) | (refine wpList_store_blk rfl 38 (.tmp 2) (.tmp 44) rfl w.heap.size (stepMk 3 (k / 6 % 12) (k / 6 % 12 + 1 + k / 72 % 9) 0 (.slice (some ⟨w.heap.size + 1 + 1 + 1 + 1 + 1, 0, none⟩) 4 4)) rfl ?hy 38 (stepMk 0 0 0 0 (.slice none 0 0)).toList HZ2.out stepInfo ?hl (stepMk_one _ _ _ _ _ rfl) ?_))
  try (case hy => rfl)
  try (case hl => rfl)
  intro w2 B2 K2 S3
  have HB3 := Lib.hid B2
  have HK3 : Hid (Below w.heap.size w w2) := Lib.hid (HK2.out.trans (K2.toBelow (by simp [HS2.out] <;> omega) (fun b hb e => by omega)))
  have HI : Hid (IntsAt w2 w.heap.size w2.heap.size (.slice (some ⟨w.heap.size + 1 + 1 + 1 + 1 + 1, 0, none⟩) 4 4) [1, 2, 3, 4]) := Lib.hid (ints_lit (t := 3) w.heap.size (zs := [1, 2, 3, 4]) (by decide) (by decide) ⟨by omega, by rw [S3]; simp [HS2.out]⟩ (((((blk_new ((((w1.setCell ⟨w.heap.size + 1 + 1, 2, none⟩ (.int .i64 (k / 6 % 12 + 1 + k / 72 % 9))).setCell ⟨w.heap.size + 1 + 1, 5, none⟩ (.slice (some ⟨w.heap.size + 1 + 1 + 1 + 1 + 1, 0, none⟩) 4 4)).alloc (.cells #[.int .i64 1] 3)).alloc (.cells #[.int .i64 2, .int .i64 3] 3)) 3 [.int .i64 1, .int .i64 2, .int .i64 3, .int .i64 4] (b := w.heap.size + 1 + 1 + 1 + 1 + 1) (by simp [HS2.out])).alloc (.cells #[.int .i64 4] 3)).alloc (.cells #[.int .i64 12, .int .i64 1] 3)).alloc (.cells #[(.slice (some ⟨w.heap.size + 1 + 1 + 1, 0, none⟩) 1 1), (.slice (some ⟨w.heap.size + 1 + 1 + 1 + 1, 0, none⟩) 2 2), (.slice (some ⟨w.heap.size + 1 + 1 + 1 + 1 + 1, 0, none⟩) 4 4), (.slice (some ⟨w.heap.size + 1 + 1 + 1 + 1 + 1 + 1, 0, none⟩) 1 1), (.slice (some ⟨w.heap.size + 1 + 1 + 1 + 1 + 1 + 1 + 1, 0, none⟩) 2 2)] 23)).keeps K2 (by omega)))
  clear B2 K2 S3
  go_wp2
  exact bodyPost_ret (step_results rfl HB3.out rfl) rfl ⟨_, rfl, rfl, HI.out, HK3.out⟩

set_option maxRecDepth 100000 in
set_option maxHeartbeats 4000000 in
theorem step_03 (n k : Int) (w : World) (hw : (Lit.int .i64 n).wf = true) (hk : Hid (k = around n 10000000)) (k1 : 0 ≤ k) (k2 : k < 10000000) (hc : k % 6 = 0) (hj : k / 648 % 5 = 3) :
    Calls Try.prog 25 #[.int .i64 n] w (StepRes w 3 (k / 6 % 12) (k / 6 % 12 + 1 + k / 72 % 9) 0 [4]) := by
  have hB : 0 ≤ k / 6 % 12 ∧ k / 6 % 12 < 12 := by omega
  obtain ⟨b1, b2⟩ := hB
  have hC : 0 ≤ k / 72 % 9 ∧ k / 72 % 9 < 9 := by omega
  obtain ⟨b3, b4⟩ := hC
  have hD : 0 ≤ k / 648 % 4 ∧ k / 648 % 4 < 4 := by omega
  obtain ⟨b5, b6⟩ := hD
  go_enter Try.func25, Try.ntmps25
  go_wp2_with (first | (go_at_call 9; refine (around_any n 10000000 _ hw (by omega) (by omega)).mono ?_; rintro e w' ⟨rfl, rfl⟩; rw [← hk.out]) | (refine wpList_store_blk rfl 38 (.tmp 4) (.tmp 15) rfl (w.heap.size + 1 + 1) (stepMk 3 (k / 6 % 12) 0 0 (.slice none 0 0)) rfl ?hy 38 (stepMk 0 0 0 0 (.slice none 0 0)).toList ?hB stepInfo ?hl (stepMk_one _ _ _ _ _ rfl) ?_))
  try (case hy => rfl)
  try (case hl => rfl)
  case hB => exact blk_zero2 w _ _
  intro w1 B1 K1 S1
  have c0 := cell_of_blk B1 (stepMk_0 _ _ _ _ _)
  have c1 := cell_of_blk B1 (stepMk_1 _ _ _ _ _)
  have c2 := cell_of_blk B1 (stepMk_2 _ _ _ _ _)
  have c4 := cell_of_blk B1 (stepMk_4 _ _ _ _ _)
  have c5 := cell_of_blk B1 (stepMk_5 _ _ _ _ _)
  have z2 := B1.frozen 2
  have z4 := B1.frozen 4
  have z5 := B1.frozen 5
  have HB := Lib.hid B1
  have HK : Hid (Below w.heap.size w w1) := Lib.hid ((((Below.refl w.heap.size w).alloc (Nat.le_refl _) _).alloc (by simp) _).alloc (by simp <;> omega) _ |>.trans (K1.toBelow (by simp <;> omega) (fun b hb e => by omega)))
  have HZ : Hid (Blk w1 w.heap.size 38 (stepMk 0 0 0 0 (.slice none 0 0)).toList) := Lib.hid ((blk_zero w _ _).keeps K1 (fun e => by omega))
  have S2 : w1.heap.size = w.heap.size + 1 + 1 + 1 := by first | (rw [S1]; done) | (rw [S1]; simp)
  clear B1 K1 S1
  go_upto_region 7 with (fail)
  have HS2 := Lib.hid S2
  clear c0 c1 c2 c4 c5 z2 z4 z5 S2
  have HB2 := Lib.hid (((((((((HB.out.set 2 (.int .i64 (k / 6 % 12 + 1 + k / 72 % 9))).set 5 (.slice (some ⟨w.heap.size + 1 + 1 + 1 + 1 + 1 + 1, 0, none⟩) 1 1)).alloc (.cells #[.int .i64 1] 3)).alloc (.cells #[.int .i64 2, .int .i64 3] 3)).alloc (.cells #[.int .i64 1, .int .i64 2, .int .i64 3, .int .i64 4] 3)).alloc (.cells #[.int .i64 4] 3)).alloc (.cells #[.int .i64 12, .int .i64 1] 3)).alloc (.cells #[(.slice (some ⟨w.heap.size + 1 + 1 + 1, 0, none⟩) 1 1), (.slice (some ⟨w.heap.size + 1 + 1 + 1 + 1, 0, none⟩) 2 2), (.slice (some ⟨w.heap.size + 1 + 1 + 1 + 1 + 1, 0, none⟩) 4 4), (.slice (some ⟨w.heap.size + 1 + 1 + 1 + 1 + 1 + 1, 0, none⟩) 1 1), (.slice (some ⟨w.heap.size + 1 + 1 + 1 + 1 + 1 + 1 + 1, 0, none⟩) 2 2)] 23)))
  have HZ2 := Lib.hid (((((((((HZ.out.setOther (p := ⟨w.heap.size + 1 + 1, 2, none⟩) (by simp <;> omega) (.int .i64 (k / 6 % 12 + 1 + k / 72 % 9))).setOther (p := ⟨w.heap.size + 1 + 1, 5, none⟩) (by simp <;> omega) (.slice (some ⟨w.heap.size + 1 + 1 + 1 + 1 + 1 + 1, 0, none⟩) 1 1)).alloc (.cells #[.int .i64 1] 3)).alloc (.cells #[.int .i64 2, .int .i64 3] 3)).alloc (.cells #[.int .i64 1, .int .i64 2, .int .i64 3, .int .i64 4] 3)).alloc (.cells #[.int .i64 4] 3)).alloc (.cells #[.int .i64 12, .int .i64 1] 3)).alloc (.cells #[(.slice (some ⟨w.heap.size + 1 + 1 + 1, 0, none⟩) 1 1), (.slice (some ⟨w.heap.size + 1 + 1 + 1 + 1, 0, none⟩) 2 2), (.slice (some ⟨w.heap.size + 1 + 1 + 1 + 1 + 1, 0, none⟩) 4 4), (.slice (some ⟨w.heap.size + 1 + 1 + 1 + 1 + 1 + 1, 0, none⟩) 1 1), (.slice (some ⟨w.heap.size + 1 + 1 + 1 + 1 + 1 + 1 + 1, 0, none⟩) 2 2)] 23)))
  have HK2 := Lib.hid (((((((((HK.out.setCell (p := ⟨w.heap.size + 1 + 1, 2, none⟩) (by simp <;> omega) (.int .i64 (k / 6 % 12 + 1 + k / 72 % 9))).setCell (p := ⟨w.heap.size + 1 + 1, 5, none⟩) (by simp <;> omega) (.slice (some ⟨w.heap.size + 1 + 1 + 1 + 1 + 1 + 1, 0, none⟩) 1 1)).alloc (by simp [HS2.out] <;> omega) (.cells #[.int .i64 1] 3)).alloc (by simp [HS2.out] <;> omega) (.cells #[.int .i64 2, .int .i64 3] 3)).alloc (by simp [HS2.out] <;> omega) (.cells #[.int .i64 1, .int .i64 2, .int .i64 3, .int .i64 4] 3)).alloc (by simp [HS2.out] <;> omega) (.cells #[.int .i64 4] 3)).alloc (by simp [HS2.out] <;> omega) (.cells #[.int .i64 12, .int .i64 1] 3)).alloc (by simp [HS2.out] <;> omega) (.cells #[(.slice (some ⟨w.heap.size + 1 + 1 + 1, 0, none⟩) 1 1), (.slice (some ⟨w.heap.size + 1 + 1 + 1 + 1, 0, none⟩) 2 2), (.slice (some ⟨w.heap.size + 1 + 1 + 1 + 1 + 1, 0, none⟩) 4 4), (.slice (some ⟨w.heap.size + 1 + 1 + 1 + 1 + 1 + 1, 0, none⟩) 1 1), (.slice (some ⟨w.heap.size + 1 + 1 + 1 + 1 + 1 + 1 + 1, 0, none⟩) 2 2)] 23)))
  clear HB HZ HK
  go_wp2_with (first | (refine load_blk rfl 38 (.tmp 4) rfl (w.heap.size + 1 + 1) rfl 38 (stepMk 3 (k / 6 % 12) (k / 6 % 12 + 1 + k / 72 % 9) 0 (.slice (some ⟨w.heap.size + 1 + 1 + 1 + 1 + 1 + 1, 0, none⟩) 1 1)) _ HB2.out Try.underlying38 rfl stepInfo ?_) | (refine wpList_store_blk rfl 38 (.tmp 2) (.tmp 44) rfl w.heap.size (stepMk 3 (k / 6 % 12) (k / 6 % 12 + 1 + k / 72 % 9) 0 (.slice (some ⟨w.heap.size + 1 + 1 + 1 + 1 + 1 + 1, 0, none⟩) 1 1)) rfl ?hy 38 (stepMk 0 0 0 0 (.slice none 0 0)).toList HZ2.out stepInfo ?hl (stepMk_one _ _ _ _ _ rfl) ?_))
  try (case hy => rfl)
  try (case hl => rfl)
  intro w2 B2 K2 S3
  have HB3 := Lib.hid B2
  have HK3 : Hid (Below w.heap.size w w2) := Lib.hid (HK2.out.trans (K2.toBelow (by simp [HS2.out] <;> omega) (fun b hb e => by omega)))
  have HI : Hid (IntsAt w2 w.heap.size w2.heap.size (.slice (some ⟨w.heap.size + 1 + 1 + 1 + 1 + 1 + 1, 0, none⟩) 1 1) [4]) := Lib.hid (ints_lit (t := 3) w.heap.size (zs := [4]) (by decide) (by decide) ⟨by omega, by rw [S3]; simp [HS2.out]⟩ ((((blk_new (((((w1.setCell ⟨w.heap.size + 1 + 1, 2, none⟩ (.int .i64 (k / 6 % 12 + 1 + k / 72 % 9))).setCell ⟨w.heap.size + 1 + 1, 5, none⟩ (.slice (some ⟨w.heap.size + 1 + 1 + 1 + 1 + 1 + 1, 0, none⟩) 1 1)).alloc (.cells #[.int .i64 1] 3)).alloc (.cells #[.int .i64 2, .int .i64 3] 3)).alloc (.cells #[.int .i64 1, .int .i64 2, .int .i64 3, .int .i64 4] 3)) 3 [.int .i64 4] (b := w.heap.size + 1 + 1 + 1 + 1 + 1 + 1) (by simp [HS2.out])).alloc (.cells #[.int .i64 12, .int .i64 1] 3)).alloc (.cells #[(.slice (some ⟨w.heap.size + 1 + 1 + 1, 0, none⟩) 1 1), (.slice (some ⟨w.heap.size + 1 + 1 + 1 + 1, 0, none⟩) 2 2), (.slice (some ⟨w.heap.size + 1 + 1 + 1 + 1 + 1, 0, none⟩) 4 4), (.slice (some ⟨w.heap.size + 1 + 1 + 1 + 1 + 1 + 1, 0, none⟩) 1 1), (.slice (some ⟨w.heap.size + 1 + 1 + 1 + 1 + 1 + 1 + 1, 0, none⟩) 2 2)] 23)).keeps K2 (by omega)))
  clear B2 K2 S3
  go_wp2
  exact bodyPost_ret (step_results rfl HB3.out rfl) rfl ⟨_, rfl, rfl, HI.out, HK3.out⟩

set_option maxRecDepth 100000 in
set_option maxHeartbeats 4000000 in
theorem step_04 (n k : Int) (w : World) (hw : (Lit.int .i64 n).wf = true) (hk : Hid (k = around n 10000000)) (k1 : 0 ≤ k) (k2 : k < 10000000) (hc : k % 6 = 0) (hj : k / 648 % 5 = 4) :
    Calls Try.prog 25 #[.int .i64 n] w (StepRes w 3 (k / 6 % 12) (k / 6 % 12 + 1 + k / 72 % 9) 0 [12, 1]) := by
  have hB : 0 ≤ k / 6 % 12 ∧ k / 6 % 12 < 12 := by omega
  obtain ⟨b1, b2⟩ := hB
  have hC : 0 ≤ k / 72 % 9 ∧ k / 72 % 9 < 9 := by omega
  obtain ⟨b3, b4⟩ := hC
  have hD : 0 ≤ k / 648 % 4 ∧ k / 648 % 4 < 4 := by omega
  obtain ⟨b5, b6⟩ := hD
  go_enter Try.func25, Try.ntmps25
  go_wp2_with (first | (go_at_call 9; refine (around_any n 10000000 _ hw (by omega) (by omega)).mono ?_; rintro e w' ⟨rfl, rfl⟩; rw [← hk.out]) | (refine wpList_store_blk rfl 38 (.tmp 4) (.tmp 15) rfl (w.heap.size + 1 + 1) (stepMk 3 (k / 6 % 12) 0 0 (.slice none 0 0)) rfl ?hy 38 (stepMk 0 0 0 0 (.slice none 0 0)).toList ?hB stepInfo ?hl (stepMk_one _ _ _ _ _ rfl) ?_))
  try (case hy => rfl)
  try (case hl => rfl)
  case hB => exact blk_zero2 w _ _
  intro w1 B1 K1 S1
  have c0 := cell_of_blk B1 (stepMk_0 _ _ _ _ _)
  have c1 := cell_of_blk B1 (stepMk_1 _ _ _ _ _)
  have c2 := cell_of_blk B1 (stepMk_2 _ _ _ _ _)
  have c4 := cell_of_blk B1 (stepMk_4 _ _ _ _ _)
  have c5 := cell_of_blk B1 (stepMk_5 _ _ _ _ _)
  have z2 := B1.frozen 2
  have z4 := B1.frozen 4
  have z5 := B1.frozen 5
  have HB := Lib.hid B1
  have HK : Hid (Below w.heap.size w w1) := Lib.hid ((((Below.refl w.heap.size w).alloc (Nat.le_refl _) _).alloc (by simp) _).alloc (by simp <;> omega) _ |>.trans (K1.toBelow (by simp <;> omega) (fun b hb e => by omega)))
  have HZ : Hid (Blk w1 w.heap.size 38 (stepMk 0 0 0 0 (.slice none 0 0)).toList) := Lib.hid ((blk_zero w _ _).keeps K1 (fun e => by omega))
  have S2 : w1.heap.size = w.heap.size + 1 + 1 + 1 := by first | (rw [S1]; done) | (rw [S1]; simp)
  clear B1 K1 S1
  go_upto_region 7 with (fail)
  have HS2 := Lib.hid S2
  clear c0 c1 c2 c4 c5 z2 z4 z5 S2
  have HB2 := Lib.hid (((((((((HB.out.set 2 (.int .i64 (k / 6 % 12 + 1 + k / 72 % 9))).set 5 (.slice (some ⟨w.heap.size + 1 + 1 + 1 + 1 + 1 + 1 + 1, 0, none⟩) 2 2)).alloc (.cells #[.int .i64 1] 3)).alloc (.cells #[.int .i64 2, .int .i64 3] 3)).alloc (.cells #[.int .i64 1, .int .i64 2, .int .i64 3, .int .i64 4] 3)).alloc (.cells #[.int .i64 4] 3)).alloc (.cells #[.int .i64 12, .int .i64 1] 3)).alloc (.cells #[(.slice (some ⟨w.heap.size + 1 + 1 + 1, 0, none⟩) 1 1), (.slice (some ⟨w.heap.size + 1 + 1 + 1 + 1, 0, none⟩) 2 2), (.slice (some ⟨w.heap.size + 1 + 1 + 1 + 1 + 1, 0, none⟩) 4 4), (.slice (some ⟨w.heap.size + 1 + 1 + 1 + 1 + 1 + 1, 0, none⟩) 1 1), (.slice (some ⟨w.heap.size + 1 + 1 + 1 + 1 + 1 + 1 + 1, 0, none⟩) 2 2)] 23)))
  have HZ2 := Lib.hid (((((((((HZ.out.setOther (p := ⟨w.heap.size + 1 + 1, 2, none⟩) (by simp <;> omega) (.int .i64 (k / 6 % 12 + 1 + k / 72 % 9))).setOther (p := ⟨w.heap.size + 1 + 1, 5, none⟩) (by simp <;> omega) (.slice (some ⟨w.heap.size + 1 + 1 + 1 + 1 + 1 + 1 + 1, 0, none⟩) 2 2)).alloc (.cells #[.int .i64 1] 3)).alloc (.cells #[.int .i64 2, .int .i64 3] 3)).alloc (.cells #[.int .i64 1, .int .i64 2, .int .i64 3, .int .i64 4] 3)).alloc (.cells #[.int .i64 4] 3)).alloc (.cells #[.int .i64 12, .int .i64 1] 3)).alloc (.cells #[(.slice (some ⟨w.heap.size + 1 + 1 + 1, 0, none⟩) 1 1), (.slice (some ⟨w.heap.size + 1 + 1 + 1 + 1, 0, none⟩) 2 2), (.slice (some ⟨w.heap.size + 1 + 1 + 1 + 1 + 1, 0, none⟩) 4 4), (.slice (some ⟨w.heap.size + 1 + 1 + 1 + 1 + 1 + 1, 0, none⟩) 1 1), (.slice (some ⟨w.heap.size + 1 + 1 + 1 + 1 + 1 + 1 + 1, 0, none⟩) 2 2)] 23)))
  have HK2 := Lib.hid (((((((((HK.out.setCell (p := ⟨w.heap.size + 1 + 1, 2, none⟩) (by simp <;> omega) (.int .i64 (k / 6 % 12 + 1 + k / 72 % 9))).setCell (p := ⟨w.heap.size + 1 + 1, 5, none⟩) (by simp <;> omega) (.slice (some ⟨w.heap.size + 1 + 1 + 1 + 1 + 1 + 1 + 1, 0, none⟩) 2 2)).alloc (by simp [HS2.out] <;> omega) (.cells #[.int .i64 1] 3)).alloc (by simp [HS2.out] <;> omega) (.cells #[.int .i64 2, .int .i64 3] 3)).alloc (by simp [HS2.out] <;> omega) (.cells #[.int .i64 1, .int .i64 2, .int .i64 3, .int .i64 4] 3)).alloc (by simp [HS2.out] <;> omega) (.cells #[.int .i64 4] 3)).alloc (by simp [HS2.out] <;> omega) (.cells #[.int .i64 12, .int .i64 1] 3)).alloc (by simp [HS2.out] <;> omega) (.cells #[(.slice (some ⟨w.heap.size + 1 + 1 + 1, 0, none⟩) 1 1), (.slice (some ⟨w.heap.size + 1 + 1 + 1 + 1, 0, none⟩) 2 2), (.slice (some ⟨w.heap.size + 1 + 1 + 1 + 1 + 1, 0, none⟩) 4 4), (.slice (some ⟨w.heap.size + 1 + 1 + 1 + 1 + 1 + 1, 0, none⟩) 1 1), (.slice (some ⟨w.heap.size + 1 + 1 + 1 + 1 + 1 + 1 + 1, 0, none⟩) 2 2)] 23)))
  clear HB HZ HK
  go_wp2_with (first | (refine load_blk rfl 38 (.tmp 4) rfl (w.heap.size + 1 + 1) rfl 38 (stepMk 3 (k / 6 % 12) (k / 6 % 12 + 1 + k / 72 % 9) 0 (.slice (some ⟨w.heap.size + 1 + 1 + 1 + 1 + 1 + 1 + 1, 0, none⟩) 2 2)) _ HB2.out Try.underlying38 rfl stepInfo ?_) | (refine wpList_store_blk rfl 38 (.tmp 2) (.tmp 44) rfl w.heap.size (stepMk 3 (k / 6 % 12) (k / 6 % 12 + 1 + k / 72 % 9) 0 (.slice (some ⟨w.heap.size + 1 + 1 + 1 + 1 + 1 + 1 + 1, 0, none⟩) 2 2)) rfl ?hy 38 (stepMk 0 0 0 0 (.slice none 0 0)).toList HZ2.out stepInfo ?hl (stepMk_one _ _ _ _ _ rfl) ?_))
  try (case hy => rfl)
  try (case hl => rfl)
  intro w2 B2 K2 S3
  have HB3 := Lib.hid B2
  have HK3 : Hid (Below w.heap.size w w2) := Lib.hid (HK2.out.trans (K2.toBelow (by simp [HS2.out] <;> omega) (fun b hb e => by omega)))
  have HI : Hid (IntsAt w2 w.heap.size w2.heap.size (.slice (some ⟨w.heap.size + 1 + 1 + 1 + 1 + 1 + 1 + 1, 0, none⟩) 2 2) [12, 1]) := Lib.hid (ints_lit (t := 3) w.heap.size (zs := [12, 1]) (by decide) (by decide) ⟨by omega, by rw [S3]; simp [HS2.out]⟩ (((blk_new ((((((w1.setCell ⟨w.heap.size + 1 + 1, 2, none⟩ (.int .i64 (k / 6 % 12 + 1 + k / 72 % 9))).setCell ⟨w.heap.size + 1 + 1, 5, none⟩ (.slice (some ⟨w.heap.size + 1 + 1 + 1 + 1 + 1 + 1 + 1, 0, none⟩) 2 2)).alloc (.cells #[.int .i64 1] 3)).alloc (.cells #[.int .i64 2, .int .i64 3] 3)).alloc (.cells #[.int .i64 1, .int .i64 2, .int .i64 3, .int .i64 4] 3)).alloc (.cells #[.int .i64 4] 3)) 3 [.int .i64 12, .int .i64 1] (b := w.heap.size + 1 + 1 + 1 + 1 + 1 + 1 + 1) (by simp [HS2.out])).alloc (.cells #[(.slice (some ⟨w.heap.size + 1 + 1 + 1, 0, none⟩) 1 1), (.slice (some ⟨w.heap.size + 1 + 1 + 1 + 1, 0, none⟩) 2 2), (.slice (some ⟨w.heap.size + 1 + 1 + 1 + 1 + 1, 0, none⟩) 4 4), (.slice (some ⟨w.heap.size + 1 + 1 + 1 + 1 + 1 + 1, 0, none⟩) 1 1), (.slice (some ⟨w.heap.size + 1 + 1 + 1 + 1 + 1 + 1 + 1, 0, none⟩) 2 2)] 23)).keeps K2 (by omega)))
  clear B2 K2 S3
  go_wp2
  exact bodyPost_ret (step_results rfl HB3.out rfl) rfl ⟨_, rfl, rfl, HI.out, HK3.out⟩

/-- A line of a script, as far as it matters. -/
structure StepV where
  dk : Int
  fr : Int
  til : Int
  n : Int
  set : List Int

def setOf (j : Int) : List Int := if j = 0 then [1] else if j = 1 then [2, 3] else if j = 2 then [1, 2, 3, 4] else if j = 3 then [4] else [12, 1]
/-- The line that the reference makes of a number. -/
def stepV (x : Int) : StepV :=
  let k := around x 10000000
  { dk := doOf k, fr := k / 6 % 12, til := k / 6 % 12 + 1 + k / 72 % 9, n := if k % 6 = 0 then 0 else 1 + k / 648 % 4, set := if k % 6 = 0 then setOf (k / 648 % 5) else [] }

theorem step_any (n : Int) (w : World) (hw : (Lit.int .i64 n).wf = true) :
    Calls Try.prog 25 #[.int .i64 n] w (StepRes w (stepV n).dk (stepV n).fr (stepV n).til (stepV n).n (stepV n).set) := by
  have k1 := around_lo n 10000000 (by omega)
  have k2 := around_hi n 10000000 (by omega)
  unfold stepV
  generalize hk : around n 10000000 = k at k1 k2 ⊢
  have HK : Hid (k = around n 10000000) := Lib.hid hk.symm
  have h6 : k % 6 = 0 ∨ k % 6 = 1 ∨ k % 6 = 2 ∨ k % 6 = 3 ∨ k % 6 = 4 ∨ k % 6 = 5 := by omega
  rcases h6 with h | h | h | h | h | h
  · have h5 : k / 648 % 5 = 0 ∨ k / 648 % 5 = 1 ∨ k / 648 % 5 = 2 ∨ k / 648 % 5 = 3 ∨ k / 648 % 5 = 4 := by omega
    rcases h5 with g | g | g | g | g
    · have := step_00 n k w hw HK k1 k2 h g; simpa [h, g, doOf, setOf] using this
    · have := step_01 n k w hw HK k1 k2 h g; simpa [h, g, doOf, setOf] using this
    · have := step_02 n k w hw HK k1 k2 h g; simpa [h, g, doOf, setOf] using this
    · have := step_03 n k w hw HK k1 k2 h g; simpa [h, g, doOf, setOf] using this
    · have := step_04 n k w hw HK k1 k2 h g; simpa [h, g, doOf, setOf] using this
  · have := step_1 n k w hw HK k1 k2 h; simpa [h, doOf] using this
  · have := step_2 n k w hw HK k1 k2 h; simpa [h, doOf] using this
  · have := step_3 n k w hw HK k1 k2 h; simpa [h, doOf] using this
  · have := step_4 n k w hw HK k1 k2 h; simpa [h, doOf] using this
  · have := step_5 n k w hw HK k1 k2 h; simpa [h, doOf] using this

end Go.Proofs.Ytmgjccalpdlbbaa
