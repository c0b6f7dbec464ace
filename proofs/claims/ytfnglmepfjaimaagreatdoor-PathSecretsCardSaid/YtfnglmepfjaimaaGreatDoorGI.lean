/- A machine of values over the model, ninth part: append. -/
import Derived.Test.YtfnglmepfjaimaaGreatDoorGH
namespace Go.Proofs.YtfnglmepfjaimaaGreatDoor
open Go.RowKit
set_option linter.unusedVariables false
section
variable {P : Program}

theorem run_append_none (w : World) (base : Nat) (t ty e : TypeId) (i : TypeInfo) (size : Nat) (ht : P.underlying t = some (.slice e)) (hi : P.info? e = some i)
    (v : Value) (n : Nat) (xs : List Value) (hown : w.ownsRow base e size v n xs) (A : Option Addr) (c : Nat) : (Builtin.append_ #[t, t] ty #[v, .slice A 0 c]).run P w = .ok v w := by
  rcases hown.2 with ⟨rfl, rfl⟩ | ⟨g, cap, cur, rfl, _, _, hnc, _⟩
  · cases A <;> simp [Builtin.append_, run_underlying ht, sizeOf, typeInfo, hi, Builtin.lenOf, Builtin.firstCells, loadCells, loadCellsFrom]
  · cases A <;> simp [Builtin.append_, run_underlying ht, sizeOf, typeInfo, hi, Builtin.lenOf, Builtin.firstCells, hnc, loadCells, loadCellsFrom, storeCells]

theorem run_append_any (w : World) (t ty e : TypeId) (i : TypeInfo) (z : Value) (size bytes : Nat) (ht : P.underlying t = some (.slice e)) (hi : P.info? e = some i) (hz : i.zero = some z)
    (hsize : i.size = size) (hby : i.bytes = bytes) (hzs : z.cells.size = size) (hsz : 0 < size)
    (v : Value) (n : Nat) (xs : List Value) (hown : w.ownsRow 0 e size v n xs)
    (A : Option Addr) (m c : Nat) (news : List Value) (hl : news.length = m * size) (hnews : ∀ (j : Nat) (u : Value), news[j]? = some u → ∃ a, A = some a ∧ w.cell? (a.add j) = some u) (h1 : ∀ u ∈ news, u.oneCell' = true)
    (h63 : n + m ≤ maxLen) (hbytes : (n + m) * bytes ≤ 140737488355328) :
    ∃ v' w', (Builtin.append_ #[t, t] ty #[v, .slice A m c]).run P w = .ok v' w' ∧ w'.ownsRow 0 e size v' (n + m) (xs ++ news) ∧ w.grownBy w' v.ownBlock ∧ (v'.ownBlock = v.ownBlock ∨ v'.ownBlock = some w.heap.size) := by
  rcases Nat.eq_zero_or_pos m with hm | hm
  · subst hm
    have hn : news = [] := List.eq_nil_of_length_eq_zero (by rw [hl, Nat.zero_mul])
    subst hn
    exact ⟨v, w, run_append_none w 0 t ty e i size ht hi v n xs hown A c, by simpa using hown, World.grownBy.refl w _, .inl rfl⟩
  · cases A with
    | none =>
      obtain ⟨u, hu⟩ : ∃ u, news[0]? = some u := ⟨_, List.getElem?_eq_getElem (by rw [hl]; exact Nat.mul_pos hm hsz)⟩
      obtain ⟨a, ha, _⟩ := hnews 0 u hu
      cases ha
    | some a =>
      obtain ⟨v', w', hr, h2, h3, h4, _⟩ := run_append_own2 (P := P) w 0 t ty e i z size bytes ht hi hz hsize hby hzs hsz v n xs hown a m c news hl (fun j u hu => by obtain ⟨a', ha, hc⟩ := hnews j u hu; cases ha; exact hc) h1 hm h63 hbytes (Nat.zero_le _)
      exact ⟨v', w', hr, h2, h3, h4⟩

/-- The cells of a slice. -/
def gview (σ : Sto) (s : Nat) : G → Option (List G × Nat)
  | .sl l m => if l.length = m * s then some (l, m) else none
  | .rsl j o m => (sget σ j).bind fun ob => if o + m * s ≤ ob.l.length then some ((ob.l.drop o).take (m * s), m) else none
  | .lit (.slice none 0 _) => some ([], 0)
  | _ => none
theorem gview_run {cx : Cx} {st : St} {a : Act} {w : World} {β : Bm} (h : RelB P cx st a w β) {s : Nat} {x : G} {v : Value} {l : List G} {m : Nat} (hx : RV β (Av cx.S0 β st.σ) w x v) (hg : gview st.σ s x = some (l, m)) :
    ∃ A c news, v = .slice A m c ∧ news.length = m * s ∧ Rw β (Av cx.S0 β st.σ) w l news ∧ (∀ (j : Nat) (u : Value), news[j]? = some u → ∃ a, A = some a ∧ w.cell? (a.add j) = some u) := by
  cases x with
  | sl l' m' =>
    simp only [gview] at hg
    split at hg
    · rename_i hl
      simp at hg
      obtain ⟨rfl, rfl⟩ := hg
      obtain ⟨A, cap, us, rfl, hn, hm, ha, h1, hr⟩ := hx.sl_cells
      have hu : ∀ (j : Nat) (u : Value), ((List.range l'.length).map us)[j]? = some u → j < l'.length ∧ u = us j := by
        intro j u hu
        have hlt := (List.getElem?_eq_some_iff.1 hu).1
        have hlt' : j < l'.length := by simpa using hlt
        rw [List.getElem?_map, List.getElem?_range hlt'] at hu
        simp at hu
        exact ⟨hlt', hu.symm⟩
      refine ⟨A, cap, (List.range l'.length).map us, rfl, by simp [hl], ⟨by simp, fun u hu' => ?_, fun i g u hg hu' => ?_⟩, fun j u hu' => ?_⟩
      · obtain ⟨j, hj⟩ := List.mem_iff_getElem?.1 hu'
        obtain ⟨hlt, rfl⟩ := hu j u hj
        exact h1 j hlt
      · obtain ⟨hlt, rfl⟩ := hu i u hu'
        exact .imm _ _ (hr i g hg)
      · obtain ⟨hlt, rfl⟩ := hu j u hu'
        obtain ⟨b, off, rfl, _, _, hc⟩ := ha j hlt
        exact ⟨_, rfl, by rw [add_none]; exact hc⟩
    · cases hg
  | rsl j o m' =>
    simp only [gview, Option.bind_eq_some_iff] at hg
    obtain ⟨ob, hob, hg⟩ := hg
    split at hg
    · rename_i hle
      simp at hg
      obtain ⟨rfl, rfl⟩ := hg
      rcases hx.rsl_form with ⟨hb, rfl, rfl⟩ | ⟨b, C, o', cap, hb, rfl, hn, hm, ho, hC⟩
      · exact ⟨none, 0, [], rfl, by simp, ⟨by simp, by simp, by simp⟩, by simp⟩
      · obtain ⟨us, hc⟩ := (h.ob j ob hob).cells hb
        have hl : ((ob.l.drop o).take (m' * s)).length = m' * s := by simp; omega
        have hu : ∀ (k : Nat) (u : Value), ((List.range (m' * s)).map fun i => us (o + i))[k]? = some u → k < m' * s ∧ u = us (o + k) := by
          intro k u hu
          have hlt := (List.getElem?_eq_some_iff.1 hu).1
          have hlt' : k < m' * s := by simpa using hlt
          rw [List.getElem?_map, List.getElem?_range hlt'] at hu
          simp at hu
          exact ⟨hlt', hu.symm⟩
        refine ⟨_, cap, (List.range (m' * s)).map fun i => us (o + i), rfl, by simp, ⟨by rw [hl]; simp, fun u hu' => ?_, fun i g u hg hu' => ?_⟩, fun k u hu' => ?_⟩
        · obtain ⟨k, hk⟩ := List.mem_iff_getElem?.1 hu'
          obtain ⟨hlt, rfl⟩ := hu k u hk
          exact hc.2.1 _ (by omega)
        · obtain ⟨hlt, rfl⟩ := hu i u hu'
          rw [List.getElem?_take, if_pos hlt, List.getElem?_drop] at hg
          exact hc.2.2 _ g hg
        · obtain ⟨hlt, rfl⟩ := hu k u hu'
          have hpos : 0 < m' := by
            rcases Nat.eq_zero_or_pos m' with h0 | h0
            · rw [h0] at hlt; simp at hlt
            · exact h0
          have e := ho (by omega)
          subst e
          have := hc.1 (o' + k) (by omega)
          rw [Nat.zero_add] at this
          exact ⟨_, rfl, by rw [add_none]; exact this⟩
    · cases hg
  | lit u =>
    cases u with
    | slice A n c =>
      cases A with
      | none =>
        cases n with
        | zero =>
          simp [gview] at hg
          obtain ⟨rfl, rfl⟩ := hg
          have := hx.lit_eq
          subst this
          exact ⟨none, c, [], rfl, by simp, ⟨by simp, by simp, by simp⟩, by simp⟩
        | succ n => simp [gview] at hg
      | some _ => simp [gview] at hg
    | _ => simp [gview] at hg
  | _ => simp [gview] at hg

/-- The row that is appended to: its number, how many it has, its cells. -/
def gsrc (σ : Sto) (c : Nat) (e : TypeId) (s : Nat) : G → Option (Nat × Nat × List G)
  | .lit (.slice none 0 0) => some (c, 0, [])
  | .rsl i 0 n => (sget σ i).bind fun ob => if ob.t = e ∧ ob.l.length = n * s ∧ ob.x.isNone = true then some (i, n, ob.l) else none
  | _ => none

/-- The row behind an append, whatever is appended. -/
theorem append_core {cx : Cx} {st : St} {a : Act} {w : World} {β : Bm} (h : RelB P cx st a w β) {e : TypeId} {s : Nat} (hs : tsize P e = some s) {gx : G} {vx : Value} (hvx : RV β (Av cx.S0 β st.σ) w gx vx) {i n m : Nat} {l news : List G} {newsV : List Value} (hx : gsrc st.σ st.c e s gx = some (i, n, l))
    (hnl : newsV.length = m * s) (hnr : Rw β (Av cx.S0 β st.σ) w news newsV) {X : Value → World → Prop} (hX : ∀ xs, w.ownsRow 0 e s vx n xs → ∃ v' w', X v' w' ∧ w'.ownsRow 0 e s v' (n + m) (xs ++ newsV) ∧ w.grownBy w' vx.ownBlock ∧ (v'.ownBlock = vx.ownBlock ∨ v'.ownBlock = some w.heap.size)) {d : Option Tmp} (hd : ∀ x, d = some x → x < st.n) {pl : Option Nat} (hpl : plOk st pl) :
    ∃ v' w', X v' w' ∧ Rel P cx ({ st with σ := (plNum st pl, some ⟨e, l ++ news, none⟩) :: (i, none) :: st.σ, c := plC st pl }.put d (.rsl (plNum st pl) 0 (n + m))) (a.put d v') w' := by
  -- the row appended to
  obtain ⟨xs, hown, hxr, hrow⟩ : ∃ xs, w.ownsRow 0 e s vx n xs ∧ Rw β (Av cx.S0 β st.σ) w l xs ∧ ∀ b, vx.ownBlock = some b → ∃ ob C, sget st.σ i = some ob ∧ β i = some (some (b, C)) := by
    have hx' := hvx
    unfold gsrc at hx
    split at hx
    · simp at hx
      obtain ⟨rfl, rfl, rfl⟩ := hx
      rw [hx'.lit_eq]
      exact ⟨[], World.ownsRow_nil w _ _ _, ⟨by simp, by simp, by simp⟩, by simp [Value.ownBlock]⟩
    · rename_i i' n'
      rw [Option.bind_eq_some_iff] at hx
      obtain ⟨ob, hob, hx⟩ := hx
      split at hx
      · rename_i hc
        obtain ⟨rfl, hol, hxn⟩ := hc
        simp at hx
        obtain ⟨rfl, rfl, rfl⟩ := hx
        rcases hx'.rsl_form with ⟨hb, hv, rfl⟩ | ⟨b, C, o', cap, hb, hv, hn, hm, ho', hC⟩
        · rw [hv]
          refine ⟨[], World.ownsRow_nil w _ _ _, ?_, by simp [Value.ownBlock]⟩
          have : ob.l = [] := List.eq_nil_of_length_eq_zero (by simpa using hol)
          rw [this]
          exact ⟨by simp, by simp, by simp⟩
        · rw [hv]
          rcases h.ob _ ob hob with ⟨h1, _⟩ | ⟨b', x', o', hx', _⟩ | ⟨b', C', cur, _, h1, h2, h3, h4, h5, h6⟩
          · rw [h1] at hb; cases hb
          · rw [hx'] at hxn; cases hxn
          · rw [h1] at hb; cases hb
            obtain ⟨hcap, ho''⟩ := hC rfl
            subst hcap
            have hcs : cur.size = cap * s := by rw [h3, tsz_of hs]
            have hns : n' * s ≤ cur.size := by rw [hcs]; exact Nat.mul_le_mul_right _ hn
            subst ho''
            refine ⟨cur.toList.take (n' * s), ⟨by simp; omega, .inr ⟨b, cap, cur, rfl, Nat.zero_le _, h2, hn, hm, hcs, rfl⟩⟩, ⟨by simp; omega, fun u hu => ?_, fun j g u hg hu => ?_⟩, fun b' hb' => ?_⟩
            · obtain ⟨j, hj⟩ := List.mem_iff_getElem?.1 hu
              rw [List.getElem?_take] at hj
              split at hj
              · obtain ⟨u', hu', h7, _⟩ := h6 j _ (List.getElem?_eq_getElem (by omega))
                rw [Array.getElem?_toList, hu'] at hj
                cases hj; exact h7
              · cases hj
            · rw [List.getElem?_take] at hu
              split at hu
              · obtain ⟨u', hu', _, h8⟩ := h6 j g hg
                rw [Array.getElem?_toList, hu'] at hu
                cases hu; exact h8
              · cases hu
            · simp [Value.ownBlock] at hb'
              subst hb'
              exact ⟨ob, cap, hob, h1⟩
      · cases hx
    · cases hx
  obtain ⟨v', w', hX', hown', hgr, hblk⟩ := hX xs hown
  refine ⟨v', w', hX', ?_⟩
  have hkp : Keeps (fun x' => vx.ownBlock = some x') w w' := ⟨hgr.os, hgr.tape, hgr.output, hgr.size, fun k hk hn => hgr.block k hk (fun x => hn x.symm)⟩
  rcases hown'.2 with ⟨rfl, hnm⟩ | ⟨g, cap, cur, rfl, _, hg, hle, hm, hcs, htake⟩
  · -- nothing, still
    have hnone : vx.ownBlock = none := by
      rcases hblk with hb | hb
      · rw [← hb]; rfl
      · simp [Value.ownBlock] at hb
    have h0 : l ++ news = [] := by
      have e1 := hxr.1; have e2 := hnr.1; have e3 := hown.1
      have a1 : n = 0 := by omega
      have a2 : m = 0 := by omega
      subst a1; subst a2
      have b1 : l.length = 0 := by rw [← e1, e3]; simp
      have b2 : news.length = 0 := by rw [← e2, hnl]; simp
      rw [List.eq_nil_of_length_eq_zero b1, List.eq_nil_of_length_eq_zero b2]; rfl
    have hw := h.world (hkp.mono fun b _ hb => by rw [hnone] at hb; cases hb)
    have h00 : n + m = 0 := hnm
    rw [h0, h00]
    cases pl with
    | none =>
      have hv := (hw.kill i).virt e (k := st.c) (Nat.le_refl _)
      exact ⟨_, hv.put d hd (.rsl0 _ _ (by simp [plNum]))⟩
    | some k =>
      obtain ⟨_, ob0, hr0, hx1⟩ := hpl
      have hk0 : β k = some none := by
        rcases h.ob k ob0 hr0 with ⟨h1, _⟩ | ⟨b, x, o, h1, _, _, _, h5⟩ | ⟨b, C, cur, h1, _⟩
        · exact h1
        · rw [hx1] at h1; cases h1; exact h5.elim
        · rw [hx1] at h1; cases h1
      have hik : i ≠ k := by
        intro e
        unfold gsrc at hx
        split at hx
        · cases hx
          have := h.fresh st.c (Nat.le_refl _)
          rw [e, hk0] at this; cases this
        · rw [Option.bind_eq_some_iff] at hx
          obtain ⟨ob, hob, hx⟩ := hx
          split at hx
          · rename_i hc
            cases hx
            rw [e, hr0] at hob
            cases hob
            rw [hx1] at hc
            exact absurd hc.2.2 (by simp)
          · cases hx
        · cases hx
      have hv := (hw.kill i).matV e (k := k) (ob0 := ob0) (by
        show sget ((i, none) :: st.σ) k = _
        rw [sget_cons, if_neg hik]; exact hr0) hx1
      exact ⟨_, hv.put d hd (.rsl0 _ _ (by rw [show plNum st (some k) = k from rfl, hk0]; simp))⟩
  · have hgb : vx.ownBlock = some g ∨ w.heap.size ≤ g := by
      rcases hblk with hb | hb
      · left; rw [← hb]; rfl
      · right; simp [Value.ownBlock] at hb; omega
    have hlen : (l ++ news).length ≤ cur.size := by
      have e1 := hxr.1; have e2 := hnr.1; have e3 := hown.1
      rw [List.length_append, ← e1, ← e2, e3, hnl, ← Nat.add_mul, hcs]
      exact Nat.mul_le_mul_right _ hle
    have hw := h.regrowP (hpl := hpl) hrow hkp (b := g) (C := cap) (cur := cur) (ob := ⟨e, l ++ news, none⟩) hgb hg (by rw [tsz_of hs]; exact hcs) hm hlen rfl (fun j g' hg' => by
      have hlt : j < (l ++ news).length := (List.getElem?_eq_some_iff.1 hg').1
      have hltc : j < cur.size := Nat.lt_of_lt_of_le hlt hlen
      have e1 := hxr.1; have e2 := hnr.1; have e3 := hown.1
      have hcu : cur[j]? = (xs ++ newsV)[j]? := by
        rw [← htake, List.getElem?_take, if_pos, Array.getElem?_toList]
        have : (l ++ news).length = (n + m) * s := by rw [List.length_append, ← e1, ← e2, e3, hnl, Nat.add_mul]
        omega
      rw [hcu]
      by_cases hj : j < l.length
      · have hg'' : l[j]? = some g' := by simpa [List.getElem?_append_left hj] using hg'
        have hxj : xs[j]? = some (xs[j]'(by omega)) := by simp [show j < xs.length by omega]
        refine ⟨_, by rw [List.getElem?_append_left (by omega)]; exact hxj, hxr.2.1 _ (List.mem_of_getElem? hxj), hxr.2.2 j g' _ hg'' hxj⟩
      · have hg'' : news[j - l.length]? = some g' := by simpa [List.getElem?_append_right (Nat.le_of_not_lt hj)] using hg'
        have hlt2 := (List.getElem?_eq_some_iff.1 hg'').1
        have hxj : newsV[j - l.length]? = some (newsV[j - l.length]'(by omega)) := by simp [show j - l.length < newsV.length by omega]
        refine ⟨_, by rw [List.getElem?_append_right (by omega), e1]; exact hxj, hnr.2.1 _ (List.mem_of_getElem? hxj), hnr.2.2 _ g' _ hg'' hxj⟩)
    exact ⟨_, hw.put d hd (.rsl _ _ _ _ _ _ _ (by simp) hle hm (fun _ => rfl) (fun _ => ⟨rfl, rfl⟩))⟩
theorem gs_appendP {pl : Option Nat} {o : Oper} {st : St} {t e : TypeId} {s bytes : Nat} {x y : Operand} {zs : List Value} {i n m : Nat} {l news : List G} (ho : o.op = .call { callee := .builtin .append, args := #[x, y], argTypes := #[t, t] }) (hd : ∀ d, o.dst = some d → d < st.n)
    (he : telem P t = some e) (hs : tsize P e = some s) (hs0 : 0 < s) (hz : tzero P e = some zs) (hzl : zs.length = s) (hby : (P.info? e).map (·.bytes) = some bytes)
    (hx : gsrc st.σ st.c e s (gev st x) = some (i, n, l)) (hy : gview st.σ s (gev st y) = some (news, m)) (h63 : n + m ≤ maxLen) (hbytes : (n + m) * bytes ≤ 140737488355328) (hpl : plOk st pl) :
    GS P o st ({ st with σ := (plNum st pl, some ⟨e, l ++ news, none⟩) :: (i, none) :: st.σ, c := plC st pl }.put o.dst (.rsl (plNum st pl) 0 (n + m))) := by
  intro cx a w K R ⟨β, h⟩ hK
  obtain ⟨ti, z, hi, hz', hzs, h1z⟩ := tzero_spec hz
  have ht := telem_spec he
  have hsize : ti.size = s := by simp [tsize, hi] at hs; exact hs
  have hbytes' : ti.bytes = bytes := by rw [hi] at hby; simpa using hby
  have hzc : z.cells.size = s := by rw [← hzl, ← hzs]; simp
  obtain ⟨A, c, newsV, hyv, hnl, hnr, hnc⟩ := gview_run h (h.ev y) hy
  obtain ⟨v', w', hrun, hrel⟩ := append_core h hs (h.ev x) hx hnl hnr (X := fun v' w' => (execOp a.eval o).run P w = .ok (.value v') w') (fun xs hown => by
    obtain ⟨v', w', hrun', h2, h3, h4⟩ := run_append_any (P := P) w t o.type e ti z s bytes ht hi hz' hsize hbytes' hzc hs0 (a.eval x) n xs hown A m c newsV hnl hnc hnr.2.1 h63 hbytes
    refine ⟨v', w', ?_, h2, h3, h4⟩
    unfold execOp
    simp only [ho, resolve, invoke, builtin, Sem.run_bind, Sem.run_pure, Result.andThen_ok, List.map_toArray, List.map_cons, List.map_nil, hyv, hrun']) hd hpl
  refine h.loose.oper (fun c hc => by rw [ho] at hc; cases hc) ?_
  unfold Oper.wp
  rw [hrun]
  exact hK _ _ hrel
theorem gs_append {o : Oper} {st : St} {t e : TypeId} {s bytes : Nat} {x y : Operand} {zs : List Value} {i n m : Nat} {l news : List G} (ho : o.op = .call { callee := .builtin .append, args := #[x, y], argTypes := #[t, t] }) (hd : ∀ d, o.dst = some d → d < st.n)
    (he : telem P t = some e) (hs : tsize P e = some s) (hs0 : 0 < s) (hz : tzero P e = some zs) (hzl : zs.length = s) (hby : (P.info? e).map (·.bytes) = some bytes)
    (hx : gsrc st.σ st.c e s (gev st x) = some (i, n, l)) (hy : gview st.σ s (gev st y) = some (news, m)) (h63 : n + m ≤ maxLen) (hbytes : (n + m) * bytes ≤ 140737488355328) :
    GS P o st ({ st with σ := (st.c, some ⟨e, l ++ news, none⟩) :: (i, none) :: st.σ, c := st.c + 1 }.put o.dst (.rsl st.c 0 (n + m))) := gs_appendP (pl := none) ho hd he hs hs0 hz hzl hby hx hy h63 hbytes trivial
end
end Go.Proofs.YtfnglmepfjaimaaGreatDoor
