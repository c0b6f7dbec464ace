/- The builtin append onto a row of the call's own, once more: what is told beside the kit's law is that the row lies where it lay, or in a new block. -/
import Derived.Test.YtfnglmepfjaimaaGreatDoorLib
namespace Go.Proofs.YtfnglmepfjaimaaGreatDoor
open Go.RowKit
set_option linter.unusedVariables false

section
variable {P : Program}

theorem run_append_own2 (w : World) (base : Nat) (t ty e : TypeId) (i : TypeInfo) (z : Value) (size bytes : Nat) (ht : P.underlying t = some (.slice e)) (hi : P.info? e = some i) (hz : i.zero = some z)
    (hsize : i.size = size) (hby : i.bytes = bytes) (hzs : z.cells.size = size) (hsz : 0 < size)
    (v : Value) (n : Nat) (xs : List Value) (hown : w.ownsRow base e size v n xs)
    (a : Addr) (m c : Nat) (news : List Value) (hl : news.length = m * size) (hnews : ∀ j u, news[j]? = some u → w.cell? (a.add j) = some u) (h1 : ∀ u ∈ news, u.oneCell' = true)
    (h0 : 0 < m) (h63 : n + m ≤ maxLen) (hbytes : (n + m) * bytes ≤ 140737488355328) (hbase : base ≤ w.heap.size) :
    ∃ v' w', (Builtin.append_ #[t, t] ty #[v, .slice (some a) m c]).run P w = .ok v' w' ∧ w'.ownsRow base e size v' (n + m) (xs ++ news) ∧ w.grownBy w' v.ownBlock ∧ (v'.ownBlock = v.ownBlock ∨ v'.ownBlock = some w.heap.size) ∧ v.ownBlock ≠ some w.heap.size := by
  obtain ⟨v', w', hrun, ho, hg, _⟩ := run_append_own (P := P) w base t ty e i z size bytes ht hi hz hsize hby hzs hsz v n xs hown a m c news hl hnews h1 h63 hbytes hbase
  have hm : ((n + m : Nat) : Int) ≤ 9223372036854775807 := by simp only [maxLen] at h63; omega
  have hne : v.ownBlock ≠ some w.heap.size := fun h => by have := (hown.lt _ h).2; omega
  refine ⟨v', w', hrun, ho, hg, ?_, hne⟩
  rcases hown.2 with ⟨rfl, rfl⟩ | ⟨g, cap, cur, rfl, hbg, hgg, hnc, hcm, hcs, htake⟩
  · have hr := run_append_nil (P := P) w t ty e i z ht hi hz a m c news (by rw [hsize]; exact hl) hnews h0 (by omega) (by rw [hby]; have hb := hbytes; simp only [Nat.zero_add] at hb; omega)
    rw [hrun] at hr
    injection hr with e1 e2
    subst e1
    right; rfl
  · by_cases hroom : n + m ≤ cap
    · have hfit : n * i.size + news.length ≤ cur.size := by rw [hl, hcs, hsize, ← Nat.add_mul]; exact Nat.mul_le_mul_right _ hroom
      have hr := run_append_room (P := P) w t ty e i ht hi g n cap cur hgg a m c news (by rw [hsize]; exact hl) hnews h1 hroom hfit
      rw [hrun] at hr
      injection hr with e1 e2
      subst e1
      left; rfl
    · have holds : ∀ j u, xs[j]? = some u → w.cell? ((⟨g, 0, none⟩ : Addr).add j) = some u := hown.cells (g := g) rfl
      have hr := run_append_grow (P := P) w t ty e i z ht hi hz ⟨g, 0, none⟩ n cap xs (by rw [hsize]; exact hown.1) holds a m c news (by rw [hsize]; exact hl) hnews (by omega) hm (growslice_fits (by omega) (by rw [hby]; exact hbytes))
      rw [hrun] at hr
      injection hr with e1 e2
      subst e1
      right; rfl

theorem wpL_append {ops : Array Oper} {rest : List Oper} {o : Oper} {ac : Act} {w : World} {Q : Exit → Act → World → Prop} (hw : Region.wanted o (yielded ops ac.tmps) = true) (s x : Operand) (t : TypeId)
    (hop : o.op = .call { callee := .builtin .append, args := #[s, x], argTypes := #[t, t] })
    (base : Nat) (e : TypeId) (i : TypeInfo) (z : Value) (size bytes : Nat) (ht : P.underlying t = some (.slice e)) (hi : P.info? e = some i) (hz : i.zero = some z)
    (hsize : i.size = size) (hby : i.bytes = bytes) (hzs : z.cells.size = size) (hsz : 0 < size)
    (v : Value) (n : Nat) (xs : List Value) (hs : ac.eval s = v) (hown : w.ownsRow base e size v n xs)
    (a : Addr) (m c : Nat) (news : List Value) (hx : ac.eval x = .slice (some a) m c) (hl : news.length = m * size) (hnews : ∀ j u, news[j]? = some u → w.cell? (a.add j) = some u) (h1 : ∀ u ∈ news, u.oneCell' = true)
    (h0 : 0 < m) (h63 : n + m ≤ maxLen) (hbytes : (n + m) * bytes ≤ 140737488355328) (hbase : base ≤ w.heap.size)
    (h : ∀ v' w', w'.ownsRow base e size v' (n + m) (xs ++ news) → w.grownBy w' v.ownBlock → (v'.ownBlock = v.ownBlock ∨ v'.ownBlock = some w.heap.size) → wpList P ops Q rest (ac.put o.dst v') w') : wpList P ops Q (o :: rest) ac w := by
  refine BigFrame.wpList_want hw fun K hK => ?_
  obtain ⟨v', w', hr, h2, h3, h4, _⟩ := run_append_own2 (P := P) w base t o.type e i z size bytes ht hi hz hsize hby hzs hsz v n xs hown a m c news hl hnews h1 h0 h63 hbytes hbase
  unfold Oper.wp execOp
  simp only [hop, resolve, invoke, builtin, Sem.run_bind, Sem.run_pure, Result.andThen_ok, List.map_toArray, List.map_cons, List.map_nil, hs, hx, hr]
  exact hK _ _ (h v' w' h2 h3 h4)
end

/-- An argument that reads as a list of ints. -/
def ArgInts (w : World) (v : Value) (zs : List Int) : Prop :=
  ∃ a cap, v = .slice a zs.length cap ∧ zs.length ≤ cap ∧ cap ≤ 9223372036854775807 ∧ (∀ z ∈ zs, (Lit.int .i64 z).wf = true) ∧ ∀ i z, zs[i]? = some z → ∃ g o, a = some ⟨g, o, none⟩ ∧ w.cell? ⟨g, o + i, none⟩ = some (.int .i64 z)
theorem ArgInts.of {w : World} {lo hi : Nat} {v : Value} {zs : List Int} (h : IntsAt w lo hi v zs) : ArgInts w v zs := by
  obtain ⟨a, cap, h1, h2, h3, h4, _, h6⟩ := h
  exact ⟨a, cap, h1, h2, h3, h4, h6⟩
theorem ArgInts.below {w w' : World} {v : Value} {zs : List Int} (h : ArgInts w v zs) (hb : Below w.heap.size w w') : ArgInts w' v zs := by
  obtain ⟨a, cap, h1, h2, h3, h4, h6⟩ := h
  refine ⟨a, cap, h1, h2, h3, h4, fun i z hz => ?_⟩
  obtain ⟨g, o, e, hc⟩ := h6 i z hz
  exact ⟨g, o, e, by rw [hb.cell (p := ⟨g, o + i, none⟩) (World.block_lt_of_cell? _ _ hc)]; exact hc⟩
/-- A slice of integers that came in, as the shell of a row's proof tells of it. -/
theorem ArgInts.row {w : World} {a : Option Addr} {len cap : Nat} {zs : List Int}
    (h : (a = none ∧ len = 0 ∧ cap = 0 ∧ zs = []) ∨ ∃ x, a = some x ∧ len ≤ cap ∧ cap ≤ maxLen ∧ zs.length = cap ∧ (∀ i, i < zs.length → w.cell? (x.add i) = some (.int .i64 (zs.getD i 0))) ∧ ∀ n ∈ zs, (Lit.int .i64 n).wf = true) :
    ArgInts w (.slice a len cap) (zs.take len) := by
  rcases h with ⟨rfl, rfl, rfl, rfl⟩ | ⟨x, rfl, h1, h2, h3, h4, h5⟩
  · exact ⟨none, 0, rfl, Nat.le_refl _, by omega, by simp, by simp⟩
  · have hl : (zs.take len).length = len := by simp; omega
    refine ⟨some x, cap, by rw [hl], by omega, by unfold maxLen at h2; omega, fun z hz => h5 z (List.mem_of_mem_take hz), fun i z hz => ?_⟩
    rw [List.getElem?_take] at hz
    split at hz
    case isFalse => cases hz
    case isTrue hlt =>
      have hsp : x.spot = none := by
        have h0 := h4 0 (by omega)
        unfold Addr.add at h0
        simp only [if_pos] at h0
        cases hx : x.spot with
        | none => rfl
        | some q =>
          unfold World.cell? at h0
          rw [hx] at h0
          split at h0 <;> simp at h0
      obtain ⟨b, o, sp⟩ := x
      simp only at hsp
      subst hsp
      have hi : i < zs.length := (List.getElem?_eq_some_iff.1 hz).1
      refine ⟨b, o, rfl, ?_⟩
      have := h4 i hi
      have hadd : (⟨b, o, none⟩ : Addr).add i = ⟨b, o + i, none⟩ := by unfold Addr.add; split <;> simp_all
      rw [hadd, List.getD_eq_getElem?_getD, hz] at this
      simpa using this
end Go.Proofs.YtfnglmepfjaimaaGreatDoor
