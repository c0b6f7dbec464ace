/- A machine of values over the model, eighth part: struct and slice literals; append. -/
import Derived.Test.YtfnglmepfjaimaaGreatDoorGG
namespace Go.Proofs.YtfnglmepfjaimaaGreatDoor
open Go.RowKit
set_option linter.unusedVariables false
section
variable {P : Program}

/-- Cells and what they read as. -/
def Rw (β : Bm) (S : Nat → Prop) (w : World) (l : List G) (us : List Value) : Prop := us.length = l.length ∧ (∀ u ∈ us, u.oneCell' = true) ∧ ∀ (i : Nat) (g : G) (u : Value), l[i]? = some g → us[i]? = some u → RV β S w g u
theorem Rw.splice {β : Bm} {S : Nat → Prop} {w : World} {l l' : List G} {us us' : List Value} (h : Rw β S w l us) (h' : Rw β S w l' us') {k : Nat} (hk : k + l'.length ≤ l.length) : Rw β S w (l.take k ++ l' ++ l.drop (k + l'.length)) (us.take k ++ us' ++ us.drop (k + us'.length)) := by
  obtain ⟨a1, a2, a3⟩ := h
  obtain ⟨b1, b2, b3⟩ := h'
  refine ⟨by simp [a1, b1], fun u hu => ?_, fun i g u hg hu => ?_⟩
  · simp only [List.mem_append] at hu
    rcases hu with (hu | hu) | hu
    · exact a2 u (List.mem_of_mem_take hu)
    · exact b2 u hu
    · exact a2 u (List.mem_of_mem_drop hu)
  · obtain ⟨u', hu', hr⟩ := splice_rel (R := fun g u => RV β S w g u) (xs := us) (xs' := us') (fun j g hg => by
      have hlt := (List.getElem?_eq_some_iff.1 hg).1
      have hx : us[j]? = some (us[j]'(by omega)) := by simp [show j < us.length by omega]
      exact ⟨_, hx, a3 j g _ hg hx⟩) (fun j g hg => by
      have hlt := (List.getElem?_eq_some_iff.1 hg).1
      have hx : us'[j]? = some (us'[j]'(by omega)) := by simp [show j < us'.length by omega]
      exact ⟨_, hx, b3 j g _ hg hx⟩) b1.symm (by omega) hk i g hg
    rw [hu] at hu'
    cases hu'
    exact hr
theorem Rw.of_cells {β : Bm} {S : Nat → Prop} {w : World} {g : G} {v : Value} {l : List G} (h : RV β S w g v) (hg : gcells g = some l) : Rw β S w l v.cells.toList := by
  obtain ⟨c1, c2, c3⟩ := h.cells hg
  refine ⟨by simpa using c1, fun u hu => ?_, fun i g u hl hu => c3 i g u hl (by simpa using hu)⟩
  obtain ⟨j, hj⟩ := List.mem_iff_getElem?.1 hu
  exact c2 j u (by simpa using hj)
theorem Rw.lits {β : Bm} {S : Nat → Prop} {w : World} {zs : List Value} (h : ∀ v ∈ zs, v.oneCell' = true) : Rw β S w (zs.map .lit) zs := by
  refine ⟨by simp, h, fun i g u hg hu => ?_⟩
  rw [List.getElem?_map, hu] at hg
  simp at hg
  subst hg
  exact .imm _ _ (.lit u)

def gfill (place : Nat → Option (Nat × Nat)) : List G → List (Nat × G) → Option (List G)
  | cells, [] => some cells
  | cells, (i, g) :: r => match place i, gcells g with
    | some (off, sz), some cs => if cs.length = sz ∧ off + sz ≤ cells.length then gfill place (cells.take off ++ cs ++ cells.drop (off + cs.length)) r else none
    | _, _ => none
theorem gfill_run {β : Bm} {S : Nat → Prop} {w : World} {place : Nat → Option (Nat × Nat)} {ρ : Operand → G} {e : Operand → Value} (he : ∀ x, RV β S w (ρ x) (e x)) : ∀ (parts : List (Nat × Operand)) {cells out : List G} {us : List Value}, Rw β S w cells us → gfill place cells (parts.map fun p => (p.1, ρ p.2)) = some out →
    ∃ us', Instr.fill place us.toArray (parts.map fun p => (p.1, e p.2)) = some us'.toArray ∧ Rw β S w out us'
  | [], cells, out, us, h, hg => by simp [gfill] at hg; subst hg; exact ⟨us, rfl, h⟩
  | (i, x) :: r, cells, out, us, h, hg => by
    simp only [List.map_cons, gfill] at hg
    split at hg
    · rename_i off sz cs hp hc
      split at hg
      · rename_i hb
        have hx := Rw.of_cells (he x) hc
        have hsz : (e x).cells.size = sz := by have := hx.1; simp at this; omega
        obtain ⟨us', hu, hr⟩ := gfill_run he r (h.splice hx (k := off) (by omega)) hg
        refine ⟨us', ?_, hr⟩
        rw [List.map_cons, fill_cons place us.toArray i off sz (e x) _ hp hsz (by have := h.1; simp; omega)]
        have h1 := h.1
        have hf := foldl_set (e x).cells.toList (us.take off) (us.drop off) off (by simp; omega) (by simp; omega)
        rw [List.take_append_drop] at hf
        rw [← Array.foldl_toList, Array.toList_zipIdx, hf, ← hu]
        simp
      · cases hg
    · cases hg

def tplaces (P : Program) (t : TypeId) : Option (List (Nat × Nat)) := (P.underlying t).bind fun | .struct fs => fs.toList.mapM (fun f => (P.info? f.type).map fun i => (f.offset, i.size)) | _ => none
theorem tplaces_spec {t : TypeId} {pl : List (Nat × Nat)} (h : tplaces P t = some pl) : ∃ fs, P.underlying t = some (.struct fs) ∧ fs.toList.mapM (fun f => (P.info? f.type).map fun i => (f.offset, i.size)) = some pl := by
  simp only [tplaces, Option.bind_eq_some_iff] at h
  obtain ⟨d, hd, h⟩ := h
  cases d <;> simp at h
  exact ⟨_, hd, h⟩
def gbuild (P : Program) (t : TypeId) (parts : List (Nat × G)) : Option G :=
  match tplaces P t, tzero P t with
  | some pl, some zs => (gfill (pl[·]?) (zs.map .lit) parts).map .agg
  | _, _ => none
theorem gs_build {o : Oper} {st : St} {t : TypeId} {parts : Array (Nat × Operand)} {g : G} (ho : o.op = .build t parts) (hd : ∀ d, o.dst = some d → d < st.n) (hg : gbuild P t (parts.toList.map fun p => (p.1, gev st p.2)) = some g) : GS P o st (st.put o.dst g) := by
  intro cx a w K R ⟨β, h⟩ hK
  unfold gbuild at hg
  split at hg
  · rename_i pl zs hp hz
    obtain ⟨i, z, hi, hz', hzs, h1⟩ := tzero_spec hz
    obtain ⟨fs, hu, hpl⟩ := tplaces_spec hp
    simp only [Option.map_eq_some_iff] at hg
    obtain ⟨out, hout, rfl⟩ := hg
    obtain ⟨us, hus, hr⟩ := gfill_run (β := β) (S := Av cx.S0 β st.σ) (w := w) (e := a.eval) (fun x => h.ev x) parts.toList (Rw.lits h1) hout
    have hb : P.built t ((parts.map fun (p : Nat × Operand) => (p.1, a.eval p.2)).toList) = some us.toArray := by
      unfold Program.built
      simp only [hi, hu, hz', hpl]
      rw [← hus, ← hzs]
      simp
    have hrun : (execOp a.eval o).run P w = .ok (.value (.agg us.toArray)) w := by
      unfold execOp
      simp [ho, run_build w t _ _ hb]
    refine h.loose.oper (fun c hc => by rw [ho] at hc; cases hc) ?_
    unfold Oper.wp
    rw [hrun]
    refine hK _ _ ⟨β, h.put o.dst hd (.agg _ _ (by simpa using hr.1) (fun i u hu => ?_) (fun i g u hg hu => hr.2.2 i g u hg (by simpa using hu)))⟩
    exact hr.2.1 u (List.mem_of_getElem? (by simpa using hu))
  · cases hg

/-- '[]T{..}': a new row. -/
def gzeros (zs : List Value) (n : Nat) : List Value := (List.range n).map fun i => zs.getD (i % zs.length) undef
theorem gs_buildSliceP {pl : Option Nat} {o : Oper} {st : St} {t e : TypeId} {n s : Nat} {parts : Array (Nat × Operand)} {zs : List Value} {l : List G} (ho : o.op = .buildSlice t n parts) (hd : ∀ d, o.dst = some d → d < st.n) (he : telem P t = some e) (hs : tsize P e = some s) (hz : tzero P e = some zs) (hzl : zs.length = s) (hn : n * s ≤ 16777216) (hn2 : n ≤ 1000000)
    (hg : gfill (fun i => some (i * s, s)) ((gzeros zs (n * s)).map .lit) (parts.toList.map fun p => (p.1, gev st p.2)) = some l) (hpl : plOk st pl) : GS P o st (st.newP pl o.dst e l (.rsl (plNum st pl) 0 n)) := by
  intro cx a w K R ⟨β, h⟩ hK
  obtain ⟨i, z, hi, hz', hzs, h1⟩ := tzero_spec hz
  have ht := telem_spec he
  have hzz : ∀ v ∈ gzeros zs (n * s), v.oneCell' = true := by
    intro v hv
    simp only [gzeros, List.mem_map, List.mem_range] at hv
    obtain ⟨k, hk, rfl⟩ := hv
    have hpos : 0 < zs.length := by
      rcases Nat.eq_zero_or_pos zs.length with h0 | h0
      · rw [← hzl, h0] at hk; simp at hk
      · exact h0
    have hlt := Nat.mod_lt k hpos
    rw [List.getD_eq_getElem?_getD, List.getElem?_eq_getElem hlt]
    exact h1 _ (List.getElem_mem hlt)
  obtain ⟨us, hus, hr⟩ := gfill_run (β := β) (S := Av cx.S0 β st.σ) (w := w) (e := a.eval) (fun x => h.ev x) parts.toList (Rw.lits hzz) hg
  have hlen : ∀ (ps : List (Nat × G)) (cells out : List G), gfill (fun i => some (i * s, s)) cells ps = some out → out.length = cells.length := by
    intro ps
    induction ps with
    | nil => intro cells out h; simp [gfill] at h; rw [h]
    | cons p r ih =>
      intro cells out h
      obtain ⟨k, g⟩ := p
      simp only [gfill] at h
      split at h
      · rename_i off sz cs hp hc
        split at h
        · rename_i hb
          rw [ih _ _ h]; simp; omega
        · cases h
      · cases h
  have hll : l.length = n * s := by rw [hlen _ _ _ hg]; simp [gzeros]
  have hnew : (newRow e us.toArray).run P w = .ok ⟨w.heap.size, 0, none⟩ (w.alloc (.cells us.toArray e)) := by simp [newRow]
  have hrun : (execOp a.eval o).run P w = .ok (.value (.slice (some ⟨w.heap.size, 0, none⟩) n n)) (w.alloc (.cells us.toArray e)) := by
    unfold execOp
    simp only [ho]
    unfold Instr.buildSlice
    simp only [Sem.run_bind, run_underlying ht, Result.andThen_ok, run_sizeOf hs]
    have e1 : ¬ (n * s > 2 ^ 24) := by omega
    rw [if_neg e1]
    have hparts : (parts.map fun (x : Nat × Operand) => (x.1, a.eval x.2)).toList = parts.toList.map fun p => (p.1, a.eval p.2) := by simp
    by_cases h0 : n * s = 0
    · have hrep : ∀ f : Nat → Value, (Array.range 0).map f = (gzeros zs (n * s)).toArray := fun f => by rw [h0]; simp [gzeros]
      simp only [h0, if_true, Sem.run_bind, Sem.run_pure, Result.andThen_ok]
      simp only [hrep, hparts, hus, Sem.run_bind, hnew, Result.andThen_ok, Sem.run_pure]
    · have hrep : ((Array.range (n * s)).map fun x => z.cells[x % z.cells.size]!) = (gzeros zs (n * s)).toArray := by
        apply Array.ext (by simp [gzeros])
        intro j h1' h2'
        have hj : j < n * s := by simpa using h1'
        have hpos : 0 < zs.length := by
          rcases Nat.eq_zero_or_pos zs.length with h0 | h0
          · rw [← hzl, h0] at hj; simp at hj
          · exact h0
        have hlt := Nat.mod_lt j hpos
        have hsz : z.cells.size = zs.length := by rw [← hzs]; simp
        simp only [Array.getElem_map, Array.getElem_range, gzeros, List.getElem_toArray, List.getElem_map, List.getElem_range, hsz]
        rw [List.getD_eq_getElem?_getD, List.getElem?_eq_getElem hlt, getElem!_pos z.cells _ (by omega)]
        simp only [Option.getD_some, ← hzs, Array.getElem_toList]
      have hzv : (zeroValue e).run P w = .ok z w := by simp [zeroValue, typeInfo, hi, hz']
      simp only [h0, if_false, Sem.run_bind, Sem.run_pure, Result.andThen_ok, hzv, hrep, hparts, hus, hnew]
  refine h.loose.oper (fun c hc => by rw [ho] at hc; cases hc) ?_
  unfold Oper.wp
  rw [hrun]
  have hul : us.length = n * s := by rw [hr.1, hll]
  refine hK _ _ (h.newP (hpl := hpl) (C := n) (by rw [tsz_of hs]; simpa using hul) (by unfold maxLen; omega) (by simp [hul, hll]) (fun j u hu => hr.2.1 u (List.mem_of_getElem? (by simpa using hu))) (fun j g u hg hu => hr.2.2 j g u hg (by simpa using hu)) o.dst hd (fun β' hb S w' => .rsl _ _ _ _ _ _ _ hb (Nat.le_refl _) (by unfold maxLen; omega) (fun _ => rfl) (fun _ => ⟨rfl, rfl⟩)))
theorem gs_buildSlice {o : Oper} {st : St} {t e : TypeId} {n s : Nat} {parts : Array (Nat × Operand)} {zs : List Value} {l : List G} (ho : o.op = .buildSlice t n parts) (hd : ∀ d, o.dst = some d → d < st.n) (he : telem P t = some e) (hs : tsize P e = some s) (hz : tzero P e = some zs) (hzl : zs.length = s) (hn : n * s ≤ 16777216) (hn2 : n ≤ 1000000)
    (hg : gfill (fun i => some (i * s, s)) ((gzeros zs (n * s)).map .lit) (parts.toList.map fun p => (p.1, gev st p.2)) = some l) : GS P o st (st.new o.dst e l (.rsl st.c 0 n)) := gs_buildSliceP (pl := none) ho hd he hs hz hzl hn hn2 hg trivial
end
end Go.Proofs.YtfnglmepfjaimaaGreatDoor
