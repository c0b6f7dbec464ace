/- The builtin append of what may be nothing, onto a row of the call's own; the references' Ints; a Steps contract that tells whose the row is. -/
import Derived.Test.YtmgjccalpdlbbaaCheck
namespace Go.Proofs.Ytmgjccalpdlbbaa
open Go.RowKit
set_option linter.unusedVariables false

section
variable {P : Program}
theorem run_append_nilsrc (w : World) (base : Nat) (t ty e : TypeId) (i : TypeInfo) (size : Nat) (ht : P.underlying t = some (.slice e)) (hi : P.info? e = some i)
    (v : Value) (n : Nat) (xs : List Value) (hown : w.ownsRow base e size v n xs) (c : Nat) : (Builtin.append_ #[t, t] ty #[v, .slice none 0 c]).run P w = .ok v w := by
  rcases hown.2 with ⟨rfl, rfl⟩ | ⟨g, cap, cur, rfl, _, _, hnc, _⟩
  · simp [Builtin.append_, run_underlying ht, sizeOf, typeInfo, hi, Builtin.lenOf, Builtin.firstCells]
  · simp [Builtin.append_, run_underlying ht, sizeOf, typeInfo, hi, Builtin.lenOf, Builtin.firstCells, hnc, storeCells]

theorem wpL_append0 {ops : Array Oper} {rest : List Oper} {o : Oper} {ac : Act} {w : World} {Q : Exit → Act → World → Prop} (hw : Region.wanted o (yielded ops ac.tmps) = true) (s x : Operand) (t : TypeId)
    (hop : o.op = .call { callee := .builtin .append, args := #[s, x], argTypes := #[t, t] })
    (base : Nat) (e : TypeId) (i : TypeInfo) (z : Value) (size bytes : Nat) (ht : P.underlying t = some (.slice e)) (hi : P.info? e = some i) (hz : i.zero = some z)
    (hsize : i.size = size) (hby : i.bytes = bytes) (hzs : z.cells.size = size) (hsz : 0 < size)
    (v : Value) (n : Nat) (xs : List Value) (hs : ac.eval s = v) (hown : w.ownsRow base e size v n xs)
    (A : Option Addr) (m c : Nat) (news : List Value) (hx : ac.eval x = .slice A m c) (hl : news.length = m * size) (hnews : ∀ j u, news[j]? = some u → ∃ a, A = some a ∧ w.cell? (a.add j) = some u) (h1 : ∀ u ∈ news, u.oneCell' = true)
    (h63 : n + m ≤ maxLen) (hbytes : (n + m) * bytes ≤ 140737488355328) (hbase : base ≤ w.heap.size)
    (h : ∀ v' w', w'.ownsRow base e size v' (n + m) (xs ++ news) → w.grownBy w' v.ownBlock → wpList P ops Q rest (ac.put o.dst v') w') : wpList P ops Q (o :: rest) ac w := by
  refine BigFrame.wpList_want hw fun K hK => ?_
  obtain ⟨v', w', hr, h2, h3⟩ : ∃ v' w', (Builtin.append_ #[t, t] o.type #[v, .slice A m c]).run P w = .ok v' w' ∧ w'.ownsRow base e size v' (n + m) (xs ++ news) ∧ w.grownBy w' v.ownBlock := by
    cases A with
    | none =>
      have hn : news = [] := by
        cases news with
        | nil => rfl
        | cons u r => obtain ⟨a, ha, _⟩ := hnews 0 u (by simp); cases ha
      have hm : m = 0 := by
        rw [hn] at hl
        rcases Nat.eq_zero_or_pos m with h0 | h0
        · exact h0
        · have := Nat.mul_pos h0 hsz; simp at hl; omega
      subst hm; subst hn
      exact ⟨v, w, run_append_nilsrc w base t o.type e i size ht hi v n xs hown c, by simpa using hown, World.grownBy.refl w _⟩
    | some a =>
      obtain ⟨v', w', hr, ho, hg, _⟩ := run_append_own (P := P) w base t o.type e i z size bytes ht hi hz hsize hby hzs hsz v n xs hown a m c news hl (fun j u hu => by obtain ⟨a', ha, hc⟩ := hnews j u hu; cases ha; exact hc) h1 h63 hbytes hbase
      exact ⟨v', w', hr, ho, hg⟩
  unfold Oper.wp execOp
  simp only [hop, resolve, invoke, builtin, Sem.run_bind, Sem.run_pure, Result.andThen_ok, List.map_toArray, List.map_cons, List.map_nil, hs, hx, hr]
  exact hK _ _ (h v' w' h2 h3)
end

/-- '[]T{}'. -/
theorem wpL_buildNone {ops : Array Oper} {rest : List Oper} {op : Oper} {a : Act} {w : World} {Q : Exit → Act → World → Prop} (hw : Region.wanted op (yielded ops a.tmps) = true) (ho : op.op = .buildSlice 41 0 #[])
    (h : ∀ w', w'.ownsRow w.heap.size 38 34 (.slice (some ⟨w.heap.size, 0, none⟩) 0 0) 0 [] → Keeps (fun _ => False) w w' → w'.heap.size = w.heap.size + 1 → wpList Try.prog ops Q rest (a.put op.dst (.slice (some ⟨w.heap.size, 0, none⟩) 0 0)) w') : wpList Try.prog ops Q (op :: rest) a w := by
  obtain ⟨i0, hi, hz0, hz1, hz2⟩ := info_parts stepInfo3
  refine BigFrame.wpList_want hw fun K hK => ?_
  have hr : (Instr.buildSlice 41 0 #[]).run Try.prog w = .ok (.slice (some ⟨w.heap.size, 0, none⟩) 0 0) (w.alloc (.cells #[] 38)) := by
    have hsz : (sizeOf 38).run Try.prog w = .ok i0.size w := by simp [sizeOf, typeInfo, hi]
    have hnew : (newRow 38 #[]).run Try.prog w = .ok ⟨w.heap.size, 0, none⟩ (w.alloc (.cells #[] 38)) := by simp [newRow]
    unfold Instr.buildSlice
    simp only [Sem.run_bind, run_underlying Try.underlying41, hsz, Result.andThen_ok, Nat.zero_mul]
    simp only [Instr.fill]
    have e : ∀ f : Nat → Value, (Array.range 0).map f = #[] := fun f => Array.eq_empty_of_size_eq_zero (by simp)
    simp [e, hnew]
  unfold Oper.wp execOp
  simp only [ho, List.map_toArray, List.map_nil, Sem.run_bind, hr, Result.andThen_ok, Sem.run_pure]
  refine hK _ _ (h _ ⟨rfl, .inr ⟨w.heap.size, 0, #[], rfl, Nat.le_refl _, heap_alloc_new w _, Nat.le_refl _, Nat.zero_le _, rfl, rfl⟩⟩ ((Keeps.refl _ _).alloc _) (by simp))

theorem argints_take {w : World} {a : Option Addr} {n cap k : Nat} {zs : List Int} (h : ArgInts w (.slice a n cap) zs) (hk : k ≤ n) : ArgInts w (.slice a k cap) (zs.take k) := by
  obtain ⟨a', cap', he, p2, p3, p4, p6⟩ := h
  simp at he
  obtain ⟨rfl, rfl, rfl⟩ := he
  have hl : (zs.take k).length = k := by simp; omega
  refine ⟨a, cap, by rw [hl], by omega, p3, fun z hz => p4 z (List.mem_of_mem_take hz), fun i z hz => p6 i z ?_⟩
  rw [List.getElem?_take] at hz
  split at hz
  · exact hz
  · cases hz
theorem argints_cells {w : World} {a : Option Addr} {n cap : Nat} {zs : List Int} (h : ArgInts w (.slice a n cap) zs) : ∀ j u, (zs.map (Value.int .i64))[j]? = some u → ∃ x, a = some x ∧ w.cell? (x.add j) = some u := by
  obtain ⟨a', cap', he, p2, p3, p4, p6⟩ := h
  simp at he
  obtain ⟨rfl, rfl, rfl⟩ := he
  intro j u hu
  rw [List.getElem?_map] at hu
  obtain ⟨z, hz, rfl⟩ := Option.map_eq_some_iff.1 hu
  obtain ⟨g, o, rfl, hc⟩ := p6 j z hz
  refine ⟨_, rfl, ?_⟩
  have hadd : (⟨g, o, none⟩ : Addr).add j = ⟨g, o + j, none⟩ := by unfold Addr.add; split <;> simp_all
  rw [hadd]; exact hc

theorem addr_add_zero (a : Addr) : a.add 0 = a := by unfold Addr.add; simp
/-- 's[:k]', whether s is nil or not. -/
theorem run_slice_pre {P : Program} (t e : TypeId) (i : TypeInfo) (ht : P.underlying t = some (.slice e)) (hi : P.info? e = some i) (a : Option Addr) (n cap k : Nat) (hk : k ≤ cap) (w : World) :
    (Instr.slice t (.slice a n cap) none (some (.int .i64 (k : Int))) none).run P w = .ok (.slice a k cap) w := by
  have h0 : (if cap = 0 then a else a.map (·.add (0 * i.size))) = a := by
    split
    · rfl
    · cases a <;> simp [addr_add_zero]
  simp [Instr.slice, Instr.sliceBounds, Instr.sliceBound, run_underlying ht, sizeOf, typeInfo, hi, asIntOf, go_sem, hk]

theorem ints_done {w w' : World} {v : Value} {zs : List Int} {m : Nat} (ho : w'.ownsRow w.heap.size 3 1 v (0 + m) ([] ++ (zs.take m).map (Value.int .i64))) (hg : w.grownBy w' (Value.slice none 0 0).ownBlock) (hw : ∀ z ∈ zs.take m, (Lit.int .i64 z).wf = true) (hl : (zs.take m).length = m) (hz : zs.take 14 = zs.take m) :
    ∃ v', Ending.returned v = .returned v' ∧ IntsAt w' w.heap.size w'.heap.size v' (zs.take 14) ∧ Below w.heap.size w w' := by
  rw [hz]
  refine ⟨v, rfl, IntsAt.ofOwn (n := m) (by simpa using ho) hw (Nat.le_refl _), (Below.refl _ _).grown hg (Nat.le_refl _) (by simp [Value.ownBlock])⟩

set_option maxRecDepth 100000 in
set_option maxHeartbeats 1000000 in
theorem ints_any (w : World) (v : Value) (zs : List Int) (h : ArgInts w v zs) :
    Calls Try.prog 23 #[v, .int .i64 14] w fun e w' => ∃ v', e = .returned v' ∧ IntsAt w' w.heap.size w'.heap.size v' (zs.take 14) ∧ Below w.heap.size w w' := by
  obtain ⟨i0, hi0, hz0, hz1, hz2⟩ := info_parts intInfo3
  obtain ⟨a, cap, rfl, h2, h3, h4, h6⟩ := id h
  have hl : zs.length ≤ 9223372036854775807 := by omega
  have hm : ∃ m : Nat, (zs.take 14).length = m ∧ m ≤ zs.length ∧ m ≤ 14 ∧ (if (zs.length : Int) ≤ 14 then (zs.length : Int) else 14) = (m : Int) := ⟨_, rfl, by simp; omega, by simp; omega, by simp; split <;> omega⟩
  obtain ⟨m, m1, m2, m3, m4⟩ := hm
  have hsl := run_slice_pre (P := Try.prog) 23 3 i0 Try.underlying23 hi0 a zs.length cap m (by omega)
  have HA : Hid (ArgInts w (.slice a m cap) (zs.take m)) := Lib.hid (argints_take h m2)
  have hzm : zs.take 14 = zs.take m := by
    rcases Nat.lt_or_ge 14 zs.length with hh | hh
    · have : m = 14 := by rw [List.length_take] at m1; omega
      rw [this]
    · rw [List.take_of_length_le hh, List.take_of_length_le (by rw [List.length_take] at m1; omega)]
  have HZM := Lib.hid hzm
  have HW : Hid (∀ z ∈ zs.take m, (Lit.int .i64 z).wf = true) := Lib.hid (fun z hz => h4 z (List.mem_of_mem_take hz))
  have HL : Hid ((zs.take m).length = m) := Lib.hid (by simp; omega)
  have HQ : Hid (((zs.take m).map (Value.int .i64)).length = m * 1) := Lib.hid (by rw [List.length_map, HL.out, Nat.mul_one])
  have HC2 := Lib.hid (argints_cells HA.out)
  have HC3 := Lib.hid (ints_oneCell .i64 (zs.take m))
  have HC4 : Hid (0 + m ≤ maxLen) := Lib.hid (by unfold maxLen; omega)
  have HC5 : Hid ((0 + m) * 8 ≤ 140737488355328) := Lib.hid (by omega)
  have Hz0 := Lib.hid hz0
  have Hz1 := Lib.hid hz1
  have Hz2 := Lib.hid hz2
  have Hi0 := Lib.hid hi0
  clear h h4 h6 hz0 hz1 hz2 hi0 m1 hzm h2 h3
  by_cases hlt : zs.length ≤ 14
  · rw [if_pos (by omega)] at m4
    obtain rfl : m = zs.length := by omega
    clear m4 m2 m3
    go_enter Try.func23, Try.ntmps23
    go_wp2_with (at_builtin; (refine wpL_append0 rfl (.tmp 6) (.tmp 12) 23 rfl w.heap.size 3 i0 (.int .i64 0) 1 8 Try.underlying23 Hi0.out Hz0.out Hz1.out Hz2.out rfl Nat.one_pos (.slice none 0 0) 0 [] rfl (World.ownsRow_nil w _ _ _) a zs.length cap ((zs.take zs.length).map (Value.int .i64)) rfl HQ.out HC2.out HC3.out HC4.out HC5.out (Nat.le_refl _) ?_); intro v' w' hown hg; have HO := Lib.hid hown; have HG := Lib.hid hg; clear hown hg)
    go_ret
    exact ints_done HO.out HG.out HW.out HL.out HZM.out
  · rw [if_neg (by omega)] at m4
    obtain rfl : m = 14 := by omega
    clear m4
    have hsl2 : ∀ w, (Instr.slice 23 (.slice a zs.length cap) none (some (.int .i64 14)) none).run Try.prog w = .ok (.slice a 14 cap) w := hsl
    clear hsl
    go_enter Try.func23, Try.ntmps23
    go_wp2_with (at_builtin; (refine wpL_append0 rfl (.tmp 6) (.tmp 12) 23 rfl w.heap.size 3 i0 (.int .i64 0) 1 8 Try.underlying23 Hi0.out Hz0.out Hz1.out Hz2.out rfl Nat.one_pos (.slice none 0 0) 0 [] rfl (World.ownsRow_nil w _ _ _) a 14 cap ((zs.take 14).map (Value.int .i64)) rfl HQ.out HC2.out HC3.out HC4.out HC5.out (Nat.le_refl _) ?_); intro v' w' hown hg; have HO := Lib.hid hown; have HG := Lib.hid hg; clear hown hg)
    go_ret
    exact ints_done HO.out HG.out HW.out HL.out rfl
end Go.Proofs.Ytmgjccalpdlbbaa
