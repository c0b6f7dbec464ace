/- A machine of values over the model: make of a slice. -/
import Derived.Test.YtfnglmepfjaimaaGreatDoorGR
import Derived.Laws.MakeOwn
namespace Go.Proofs.YtfnglmepfjaimaaGreatDoor
open Go.RowKit
set_option linter.unusedVariables false
section
variable {P : Program}
/-- 'make([]T, n)'. -/
theorem gs_makeSliceP {pl : Option Nat} {o : Oper} {st : St} {t e : TypeId} {s bytes : Nat} {zs : List Value} {x y : Operand} {n : Nat} {kl kc : IntKind} (ho : o.op = .makeSlice t x y) (hd : ∀ d, o.dst = some d → d < st.n) (he : telem P t = some e) (hs : tsize P e = some s) (hz : tzero P e = some zs) (hzl : zs.length = s) (hby : (P.info? e).map (·.bytes) = some bytes)
    (hx : gev st x = .lit (.int kl n)) (hy : gev st y = .lit (.int kc n)) (hb : bytes * n ≤ 281474976710656) (h63 : n ≤ 9223372036854775807) (hpl : plOk st pl) : GS P o st (st.newP pl o.dst e ((gzeros zs (n * s)).map .lit) (.rsl (plNum st pl) 0 n)) := by
  intro cx a w K R ⟨β, h⟩ hK
  obtain ⟨i, z, hi, hz', hzs, h1⟩ := tzero_spec hz
  have ht := telem_spec he
  have hsi : i.size = s := by
    unfold tsize at hs
    rw [hi] at hs
    simpa using hs
  have hbi : i.bytes = bytes := by
    rw [hi] at hby
    simpa using hby
  have vx : a.eval x = .int kl n := by have := h.ev x; rw [hx] at this; exact this.lit_eq
  have vy : a.eval y = .int kc n := by have := h.ev y; rw [hy] at this; exact this.lit_eq
  have hcells : madeCells z.cells (n * s) = (gzeros zs (n * s)).toArray := by
    apply Array.ext (by simp [gzeros, madeCells])
    intro j h1' h2'
    have hj : j < n * s := by simpa [madeCells] using h1'
    have hpos : 0 < zs.length := by
      rcases Nat.eq_zero_or_pos zs.length with h0 | h0
      · rw [← hzl, h0] at hj; simp at hj
      · exact h0
    have hlt := Nat.mod_lt j hpos
    have hsz : z.cells.size = zs.length := by rw [← hzs]; simp
    simp only [madeCells, Array.getElem_map, Array.getElem_range, gzeros, List.getElem_toArray, List.getElem_map, List.getElem_range, hsz]
    rw [List.getD_eq_getElem?_getD, List.getElem?_eq_getElem hlt, getElem!_pos z.cells _ (by omega)]
    simp only [Option.getD_some, ← hzs, Array.getElem_toList]
  have hrun : (execOp a.eval o).run P w = .ok (.value (.slice (some ⟨w.heap.size, 0, none⟩) n n)) (w.alloc (.cells (gzeros zs (n * s)).toArray e)) := by
    have hbb : (i.bytes : Int) * (n : Int) ≤ 281474976710656 := by
      have h : ((bytes * n : Nat) : Int) ≤ 281474976710656 := by omega
      rw [hbi]
      rwa [Int.natCast_mul] at h
    have hm := run_make (P := P) w t e i z ht hi hz' kl kc n n (by omega) (Int.le_refl _) hbb (by omega)
    rw [hsi] at hm
    simp only [Int.toNat_natCast] at hm
    rw [hcells] at hm
    unfold execOp
    simp only [ho, vx, vy, Sem.run_bind, hm, Result.andThen_ok, Sem.run_pure]
  refine h.loose.oper (fun c hc => by rw [ho] at hc; cases hc) ?_
  unfold Oper.wp
  rw [hrun]
  have hzz : ∀ v ∈ gzeros zs (n * s), v.oneCell' = true := by
    intro v hv
    simp only [gzeros, List.mem_map, List.mem_range] at hv
    obtain ⟨k, hk, rfl⟩ := hv
    have hpos : 0 < zs.length := by
      rcases Nat.eq_zero_or_pos zs.length with h0 | h0
      · rw [← hzl, h0] at hk; simp at hk
      · exact h0
    have hlt := Nat.mod_lt k hpos
    rw [List.getD_eq_getElem?_getD, List.getElem?_eq_getElem hlt]
    exact h1 _ (List.getElem_mem hlt)
  have hn : n ≤ maxLen := by unfold maxLen; omega
  refine hK _ _ (h.newP (hpl := hpl) (C := n) (by rw [tsz_of hs]; simp [gzeros]) hn (by simp) (fun j u hu => hzz u (List.mem_of_getElem? (by simpa using hu))) (fun j g u hg hu => ?_) o.dst hd (fun β' hb S w' => .rsl _ _ _ _ _ _ _ hb (Nat.le_refl _) hn (fun _ => rfl) (fun _ => ⟨rfl, rfl⟩)))
  rw [List.getElem?_map] at hg
  have hu' : (gzeros zs (n * s))[j]? = some u := by simpa using hu
  rw [hu'] at hg
  cases hg
  exact .imm _ _ (.lit u)
theorem gs_makeSlice {o : Oper} {st : St} {t e : TypeId} {s bytes : Nat} {zs : List Value} {x y : Operand} {n : Nat} {kl kc : IntKind} (ho : o.op = .makeSlice t x y) (hd : ∀ d, o.dst = some d → d < st.n) (he : telem P t = some e) (hs : tsize P e = some s) (hz : tzero P e = some zs) (hzl : zs.length = s) (hby : (P.info? e).map (·.bytes) = some bytes)
    (hx : gev st x = .lit (.int kl n)) (hy : gev st y = .lit (.int kc n)) (hb : bytes * n ≤ 281474976710656) (h63 : n ≤ 9223372036854775807) : GS P o st (st.new o.dst e ((gzeros zs (n * s)).map .lit) (.rsl st.c 0 n)) := gs_makeSliceP (pl := none) ho hd he hs hz hzl hby hx hy hb h63 trivial
/-- The same, checked. -/
def gmake (P : Program) (t : TypeId) (gx gy : G) : Option (TypeId × List G × Nat) := match gx, gy with
  | .lit (.int _ (.ofNat n)), .lit (.int _ (.ofNat m)) => match telem P t with
    | some e => match tsize P e, tzero P e, (P.info? e).map (·.bytes) with
      | some s, some zs, some b => bif Nat.beq n m && Nat.beq zs.length s && Nat.ble (b * n) 281474976710656 && Nat.ble n 9223372036854775807 then some (e, (gzeros zs (n * s)).map .lit, n) else none
      | _, _, _ => none
    | none => none
  | _, _ => none
theorem gs_makeP {pl : Option Nat} {o : Oper} {st : St} {t e : TypeId} {x y : Operand} {l : List G} {n : Nat} (ho : o.op = .makeSlice t x y) (hd : ∀ d, o.dst = some d → d < st.n) (h : gmake P t (gev st x) (gev st y) = some (e, l, n)) (hpl : plOk st pl) : GS P o st (st.newP pl o.dst e l (.rsl (plNum st pl) 0 n)) := by
  unfold gmake at h
  split at h
  · rename_i kl n' kc m hx hy
    split at h
    · rename_i e' he
      split at h
      · rename_i s zs b h1 h2 h3
        cases hc : (Nat.beq n' m && Nat.beq zs.length s && Nat.ble (b * n') 281474976710656 && Nat.ble n' 9223372036854775807) with
        | false => rw [hc] at h; cases h
        | true =>
          rw [hc] at h
          cases h
          simp only [Bool.and_eq_true] at hc
          have e1 := Nat.eq_of_beq_eq_true hc.1.1.1
          subst e1
          exact gs_makeSliceP ho hd he h1 h2 (Nat.eq_of_beq_eq_true hc.1.1.2) h3 hx hy (Nat.le_of_ble_eq_true hc.1.2) (Nat.le_of_ble_eq_true hc.2) hpl
      · cases h
    · cases h
  · cases h
theorem gs_make {o : Oper} {st : St} {t e : TypeId} {x y : Operand} {l : List G} {n : Nat} (ho : o.op = .makeSlice t x y) (hd : ∀ d, o.dst = some d → d < st.n) (h : gmake P t (gev st x) (gev st y) = some (e, l, n)) : GS P o st (st.new o.dst e l (.rsl st.c 0 n)) := gs_makeP (pl := none) ho hd h trivial
end
end Go.Proofs.YtfnglmepfjaimaaGreatDoor
