/- A machine of values over the model, tenth part: functions, calls, and states that say less. -/
import Derived.Test.YtfnglmepfjaimaaGreatDoorGI
namespace Go.Proofs.YtfnglmepfjaimaaGreatDoor
open Go.RowKit
set_option linter.unusedVariables false
section
variable {P : Program}

/-- The package-level variables that are known, in memory. -/
def Gls (gl : List (Nat × List G)) (S : Nat → Prop) (w : World) : Prop := ∀ g l, gl.lookup g = some l → IV S w (.ptr l 0) (.pointer (some ⟨g, 0, none⟩))
/-- A function tells a value, of values, and writes nothing that was there. -/
def Fn' (P : Program) (gl : List (Nat × List G)) (f : FuncId) (gs : List G) (r : G) : Prop :=
  ∀ (w : World) (S : Nat → Prop) (vs : Array Value), (∀ b, S b → b < w.heap.size) → Gls gl S w → vs.size = gs.length → (∀ (i : Nat) (g : G) (u : Value), gs[i]? = some g → vs[i]? = some u → IV S w g u) →
    Calls P f vs w fun e w' => ∃ v, e = .returned v ∧ IV S w' r v ∧ Keeps (fun _ => False) w w'

/-- Values without objects. -/
def ImmG (g : G) : Prop := ∀ β S w v, RV β S w g v → IV S w g v
theorem imm_lit (v : Value) : ImmG (.lit v) := fun β S w u h => by rw [h.lit_eq]; exact .lit v
theorem imm_sl (l : List G) (n : Nat) : ImmG (.sl l n) := fun β S w u h => by
  cases h with
  | imm _ _ h => exact h
theorem imm_ptr (l : List G) (o : Nat) : ImmG (.ptr l o) := fun β S w u h => by
  cases h with
  | imm _ _ h => exact h
theorem imm_agg {l : List G} (hl : ∀ g ∈ l, ImmG g) : ImmG (.agg l) := fun β S w u h => by
  obtain ⟨us, rfl, h2, h1, hr⟩ := h.agg_form
  exact .agg _ _ h2 h1 fun i g u hg hu => hl g (List.mem_of_getElem? hg) _ _ _ _ (hr i g u hg hu)
theorem imm_tup {l : List G} (hl : ∀ g ∈ l, ImmG g) : ImmG (.tup l) := fun β S w u h => by
  obtain ⟨us, rfl, h2, hr⟩ := h.tup_form
  exact .tup _ _ h2 fun i g u hg hu => hl g (List.mem_of_getElem? hg) _ _ _ _ (hr i g u hg hu)
theorem imm_clo {fn : Fn} {a b : List G} (ha : ∀ g ∈ a, ImmG g) (hb : ∀ g ∈ b, ImmG g) : ImmG (.clo fn a b) := fun β S w u h => by
  obtain ⟨fs, cs, rfl, h1, h2, h3, h4⟩ := h.clo_form
  exact .clo _ _ _ _ _ h1 h2 (fun i g u hg hu => ha g (List.mem_of_getElem? hg) _ _ _ _ (h3 i g u hg hu)) (fun i g u hg hu => hb g (List.mem_of_getElem? hg) _ _ _ _ (h4 i g u hg hu))

/-- What a value reads as once the objects are nobody's. -/
def Frz (P : Program) (st : St) (g g' : G) : Prop := ∀ cx a w β, RelB P cx st a w β → ∀ v, RV β (Av cx.S0 β st.σ) w g v → IV cx.S0 w g' v
theorem frz_imm {st : St} {g : G} (h : ImmG g) : Frz P st g g := fun cx a w β _ v hv => (h _ _ _ _ hv).sub fun _ _ x => .inl x
theorem frz_agg {st : St} {l l' : List G} (hl : l'.length = l.length) (h : ∀ (i : Nat) (g g' : G), l[i]? = some g → l'[i]? = some g' → Frz P st g g') : Frz P st (.agg l) (.agg l') := fun cx a w β r v hv => by
  obtain ⟨us, rfl, h2, h1, hr⟩ := hv.agg_form
  refine .agg _ _ (by omega) h1 fun i g u hg hu => ?_
  have hlt := (List.getElem?_eq_some_iff.1 hg).1
  have hx : l[i]? = some (l[i]'(by omega)) := by simp [show i < l.length by omega]
  exact h i _ g hx hg cx a w β r u (hr i _ u hx hu)
theorem frz_tup {st : St} {l l' : List G} (hl : l'.length = l.length) (h : ∀ (i : Nat) (g g' : G), l[i]? = some g → l'[i]? = some g' → Frz P st g g') : Frz P st (.tup l) (.tup l') := fun cx a w β r v hv => by
  obtain ⟨us, rfl, h2, hr⟩ := hv.tup_form
  refine .tup _ _ (by omega) fun i g u hg hu => ?_
  have hlt := (List.getElem?_eq_some_iff.1 hg).1
  have hx : l[i]? = some (l[i]'(by omega)) := by simp [show i < l.length by omega]
  exact h i _ g hx hg cx a w β r u (hr i _ u hx hu)
theorem frz_rsl {st : St} {i o n s : Nat} {ob : Ob} {l : List G} (ho : sget st.σ i = some ob) (hs : tsize P ob.t = some s) (hle : o + n * s ≤ ob.l.length) (hl : l.length = n * s) (h : ∀ (j : Nat) (g g' : G), ob.l[o + j]? = some g → l[j]? = some g' → Frz P st g g') : Frz P st (.rsl i o n) (.sl l n) := fun cx a w β r v hv => by
  rcases hv.rsl_form with ⟨hb, rfl, rfl⟩ | ⟨b, C, o', cap, hb, rfl, hn, hm, ho', hC⟩
  · have : l = [] := List.eq_nil_of_length_eq_zero (by simpa using hl)
    subst this
    exact .sl [] 0 none 0 (fun _ => undef) (Nat.le_refl _) (Nat.zero_le _) (by simp) (by simp) (by simp)
  · obtain ⟨us, hc⟩ := (r.ob i ob ho).cells hb
    refine .sl l n _ cap (fun j => us (o + j)) hn hm (fun j hj => ?_) (fun j hj => hc.2.1 _ (by omega)) (fun j g' hg' => ?_)
    · have hpos : 0 < n := by
        rcases Nat.eq_zero_or_pos n with h0 | h0
        · rw [h0, Nat.zero_mul] at hl; omega
        · exact h0
      have e := ho' (by omega)
      subst e
      have := hc.1 (o' + j) (by omega)
      rw [Nat.zero_add] at this
      exact ⟨b, o', rfl, r.sep i ob b C ho hb, r.lt ho hb, this⟩
    · have hlt := (List.getElem?_eq_some_iff.1 hg').1
      have hx : ob.l[o + j]? = some (ob.l[o + j]'(by omega)) := by simp [show o + j < ob.l.length by omega]
      exact h j _ g' hx hg' cx a w β r _ (hc.2.2 _ _ hx)
theorem frz_ref {st : St} {i o : Nat} {ob : Ob} {l : List G} (ho : sget st.σ i = some ob) (hl : l.length ≤ ob.l.length) (h : ∀ (j : Nat) (g g' : G), ob.l[j]? = some g → l[j]? = some g' → Frz P st g g') : Frz P st (.ref i o) (.ptr l o) := fun cx a w β r v hv => by
  obtain ⟨b, C, hb, rfl⟩ := hv.ref_addr
  obtain ⟨us, hc⟩ := (r.ob i ob ho).cells hb
  have := IV.ptr (S := cx.S0) (w := w) l o b 0 us (r.sep i ob b C ho hb) (r.lt ho hb) (fun j hj => hc.1 j (by omega)) (fun j hj => hc.2.1 j (by omega)) (fun j g' hg' => by
    have hlt := (List.getElem?_eq_some_iff.1 hg').1
    have hx : ob.l[j]? = some (ob.l[j]'(by omega)) := by simp [show j < ob.l.length by omega]
    exact h j _ g' hx hg' cx a w β r _ (hc.2.2 _ _ hx))
  simpa using this
theorem frz_all {st : St} {l : List G} (h : ∀ g ∈ l, ImmG g) {o : Nat} : ∀ (j : Nat) (g g' : G), l[o + j]? = some g → (l.drop o)[j]? = some g' → Frz P st g g' := fun j g g' h1 h2 => by
  rw [List.getElem?_drop, h1] at h2
  cases h2
  exact frz_imm (h g (List.mem_of_getElem? h1))

/-- What a function's end tells. -/
def gres (P : Program) (st : St) : ResultVar → Option G
  | .tmp t => some (fget st.fr t)
  | .cell a t => gload P st.σ t (fget st.fr a)
def enterFr : Nat → List G → Fr
  | _, [] => []
  | k, g :: r => (k, g) :: enterFr (k + 1) r
theorem fget_enter : ∀ (gs : List G) (k i : Nat), fget (enterFr k gs) i = if k ≤ i then (gs[i - k]?).getD .junk else .junk
  | [], k, i => by simp [enterFr, fget]
  | g :: r, k, i => by
    rw [enterFr, fget_cons, fget_enter r (k + 1) i]
    by_cases h : k = i
    · subst h; simp
    · rw [if_neg h]
      by_cases h2 : k + 1 ≤ i
      · rw [if_pos h2, if_pos (by omega)]
        have : i - k = (i - (k + 1)) + 1 := by omega
        rw [this, List.getElem?_cons_succ]
      · rw [if_neg h2, if_neg (by omega)]
def St.enter (fn : Func) (gl : List (Nat × List G)) (gs : List G) : St := ⟨fn.ntmps, gl, enterFr 0 gs, [], 0, 0, false⟩
/-- The results of a call, as one value. -/
def gtup : List G → G
  | [g] => g
  | gs => .tup gs
def Ended (P : Program) (fn : Func) (r : G) (e : Exit) (st : St) : Prop := (e = .normal ∨ e = .ret) ∧ ∃ gs, fn.results.toList.mapM (gres P st) = some gs ∧ Frz P st (gtup gs) r

theorem gres_run {cx : Cx} {st : St} {a : Act} {w : World} {β : Bm} (h : RelB P cx st a w β) : ∀ (rs : List ResultVar) (gs : List G), rs.mapM (gres P st) = some gs →
    ∃ vs, (rs.mapM fun (x : ResultVar) => (match x with | .tmp t => pure (a.tmps.getD t undef) | .cell b t => do loadVar t (← asAddr (a.tmps.getD b undef)) : Sem Value)).run P w = .ok vs w ∧ vs.length = gs.length ∧ ∀ (i : Nat) (g : G) (u : Value), gs[i]? = some g → vs[i]? = some u → RV β (Av cx.S0 β st.σ) w g u
  | [], gs, hm => by simp at hm; subst hm; exact ⟨[], by simp, rfl, by simp⟩
  | r :: rs, gs, hm => by
    simp only [List.mapM_cons, Option.bind_eq_bind, Option.bind_eq_some_iff, Option.pure_def, Option.some.injEq] at hm
    obtain ⟨g, hg, gs', hgs, rfl⟩ := hm
    obtain ⟨vs, hv, hl, hr⟩ := gres_run h rs gs' hgs
    obtain ⟨v, hv1, hr1⟩ : ∃ v, ((match r with | .tmp t => pure (a.tmps.getD t undef) | .cell b t => do loadVar t (← asAddr (a.tmps.getD b undef)) : Sem Value)).run P w = .ok v w ∧ RV β (Av cx.S0 β st.σ) w g v := by
      cases r with
      | tmp t => simp [gres] at hg; subst hg; exact ⟨_, by simp, h.fr t⟩
      | cell b t =>
        simp only [gres] at hg
        obtain ⟨u, hu, hr⟩ := gload_run h (h.fr b) hg
        refine ⟨u, ?_, hr⟩
        simp only [Instr.loadAt, Sem.run_bind] at hu ⊢
        cases hx : a.tmps.getD b undef with
        | pointer p =>
          cases p with
          | none => rw [hx] at hu; simp [Instr.sureAddr, stuck] at hu
          | some p => rw [hx] at hu; simpa [Instr.sureAddr, asAddr] using hu
        | _ => rw [hx] at hu; simp [Instr.sureAddr, stuck] at hu
    refine ⟨v :: vs, ?_, by simp [hl], fun i g' u hg' hu => ?_⟩
    · simp only [List.mapM_cons, Sem.run_bind, hv1, Result.andThen_ok, hv, Sem.run_pure]
    · cases i with
      | zero => simp at hg' hu; subst hg'; subst hu; exact hr1
      | succ i => exact hr i g' u (by simpa using hg') (by simpa using hu)

theorem fn_enter {gl : List (Nat × List G)} {f : FuncId} {fn : Func} {c : Code} {gs : List G} {r : G} (hf : P.funcs[f]? = some fn) (hb : fn.body = some c) (hn : gs.length ≤ fn.ntmps) (h : Tr P c (St.enter fn gl gs) (Ended P fn r)) : Fn' P gl f gs r := by
  intro w S vs hS hG hsz hvs
  refine calls_tr (cx := ⟨w, fun _ => False, S, fun _ => none, Fence.wide, 9⟩) hf hb h rfl rfl ⟨fun _ => none, ?_⟩ ?_
  · have hav : ∀ b, Av S (fun _ => none) [] b → S b := by
      rintro b (hx | ⟨i, ob, C, ho, _⟩)
      · exact hx
      · cases ho
    exact {
      size := by simp [St.enter, hsz]; omega
      defers := .nil rfl
      loose := loose_wide
      rnd := fun _ => rfl
      fr := fun i => by
        show RV _ _ w (fget (enterFr 0 gs) i) _
        rw [fget_enter]
        simp only [Nat.zero_le, if_true, Nat.sub_zero]
        cases hg : gs[i]? with
        | none => exact .junk _
        | some g =>
          have hlt := (List.getElem?_eq_some_iff.1 hg).1
          have hu : vs[i]? = some (vs[i]'(by omega)) := by simp [show i < vs.size by omega]
          refine .imm _ _ (IV.sub (S := S) ?_ (fun b _ => hav b))
          have e : (vs ++ Array.replicate (fn.ntmps - vs.size) undef).getD i undef = vs[i]'(by omega) := by
            rw [Array.getD_eq_getD_getElem?, Array.getElem?_append_left (by omega), hu]; rfl
          rw [e]
          exact hvs i g _ hg hu
      ob := fun i o ho => by cases ho
      inj := fun i j o o' b C D hi => by cases hi
      own := fun i o b C hi => by cases hi
      sep := fun i o b C hi => by cases hi
      fresh := fun _ _ => rfl
      glob := fun g l hl => (hG g l hl).sub (fun b _ => hav b)
      keep := Keeps.refl _ _
      old := hS
      pin := fun i x hx => by cases hx }
  · rintro e st' a' w' ⟨he, gs', hgs, hfrz⟩ ⟨β, hr⟩
    obtain ⟨us, hus, hl, hru⟩ := gres_run hr _ _ hgs
    have hres : (results fn a'.tmps).run P w' = .ok (if h : us.toArray.size = 1 then us.toArray[0] else .tuple us.toArray) w' := by
      unfold results
      rw [Array.mapM_eq_mapM_toList]
      simp only [Sem.run_bind, Sem.run_map]
      erw [hus]
      rfl
    have hv : RV β (Av S β st'.σ) w' (gtup gs') (if h : us.toArray.size = 1 then us.toArray[0] else .tuple us.toArray) := by
      match gs', us, hl, hru with
      | [], [], _, _ => exact .tup _ _ rfl (by simp)
      | [g], [u], _, hru => exact hru 0 g u rfl rfl
      | g :: g' :: gr, u :: u' :: ur, hl, hru => exact .tup _ _ (by simpa using hl) (fun i x y hx hy => hru i x y hx (by simpa using hy))
    exact ⟨he, _, hres, _, rfl, hfrz _ _ _ β hr _ hv, hr.keep⟩

theorem ended {fn : Func} {r : G} {e : Exit} {st : St} {gs : List G} (he : e = .normal ∨ e = .ret) (h : fn.results.toList.mapM (gres P st) = some gs) (hf : Frz P st (gtup gs) r) : Ended P fn r e st := ⟨he, gs, h, hf⟩
theorem ended_r {fn : Func} {r : G} {st : St} {t : Tmp} (h : fn.results = #[.tmp t]) (hf : Frz P st (fget st.fr t) r) : Ended P fn r .ret st := ⟨.inr rfl, [fget st.fr t], by rw [h]; rfl, hf⟩
theorem ended_n {fn : Func} {r : G} {st : St} {t : Tmp} (h : fn.results = #[.tmp t]) (hf : Frz P st (fget st.fr t) r) : Ended P fn r .normal st := ⟨.inl rfl, [fget st.fr t], by rw [h]; rfl, hf⟩
theorem ended_r2 {fn : Func} {r : G} {st : St} {t u : Tmp} (h : fn.results = #[.tmp t, .tmp u]) (hf : Frz P st (.tup [fget st.fr t, fget st.fr u]) r) : Ended P fn r .ret st := ⟨.inr rfl, [fget st.fr t, fget st.fr u], by rw [h]; rfl, hf⟩
attribute [irreducible] Ended

/-- May a function be called by its number? -/
def callable (P : Program) (f : FuncId) : Bool := match P.funcs[f]? with
  | some fn => fn.body.isSome && !(fn.name == "runtime.NumGoroutine")
  | none => false
theorem run_callFunc {f : FuncId} (h : callable P f = true) (args : Array Value) (w : World) : (callFunc f args).run P w = .ok (.enter f args) w := by
  unfold callable at h
  split at h
  · rename_i fn hf
    simp only [Bool.and_eq_true, Bool.not_eq_true'] at h
    obtain ⟨h1, h2⟩ := h
    obtain ⟨c, hc⟩ := Option.isSome_iff_exists.1 h1
    have h3 : ¬ fn.name = "runtime.NumGoroutine" := by simpa using h2
    unfold callFunc
    simp [program, Sem.run, hf, h3, hc]
  · cases h
/-- What a call of a function value hands on. -/
theorem run_call {o : Oper} {st : St} {cx : Cx} {a : Act} {w : World} {β : Bm} (h : RelB P cx st a w β) {f : Operand} {xs : Array Operand} {ats : Array TypeId} {fid : FuncId} {fst cap : List G} (ho : o.op = .call { callee := .value f, args := xs, argTypes := ats }) (hf : gev st f = .clo (.func fid) fst cap) (hc : callable P fid = true) :
    ∃ vs : Array Value, (execOp a.eval o).run P w = .ok (.enter fid vs) w ∧ vs.size = (fst ++ xs.toList.map (gev st) ++ cap).length ∧ ∀ (i : Nat) (g : G) (u : Value), (fst ++ xs.toList.map (gev st) ++ cap)[i]? = some g → vs[i]? = some u → RV β (Av cx.S0 β st.σ) w g u := by
  have hx := h.ev f
  rw [hf] at hx
  obtain ⟨fs, cs, hv, h1, h2, h3, h4⟩ := hx.clo_form
  refine ⟨fs ++ xs.map a.eval ++ cs, ?_, by simp [h1, h2], fun i g u hg hu => ?_⟩
  · unfold execOp
    simp [ho, resolve, hv, Deferred.ofValue, invoke, run_callFunc hc]
  · by_cases c1 : i < fst.length
    · rw [List.append_assoc, List.getElem?_append_left c1] at hg
      rw [Array.append_assoc, Array.getElem?_append_left (by omega)] at hu
      exact h3 i g u hg hu
    · by_cases c2 : i < fst.length + xs.size
      · rw [List.append_assoc, List.getElem?_append_right (by omega), List.getElem?_append_left (by simp; omega), List.getElem?_map] at hg
        rw [Array.append_assoc, Array.getElem?_append_right (by omega), Array.getElem?_append_left (by simp; omega), Array.getElem?_map, h1] at hu
        rw [Array.getElem?_toList] at hg
        cases hxi : xs[i - fst.length]? with
        | none => rw [hxi] at hg; cases hg
        | some x =>
          rw [hxi] at hg hu
          simp at hg hu
          subst hg; subst hu
          exact h.ev x
      · rw [List.getElem?_append_right (by simp; omega)] at hg
        rw [Array.getElem?_append_right (by simp; omega)] at hu
        refine h4 (i - (fst.length + xs.size)) g u ?_ ?_
        · rw [← hg]; congr 1; simp
        · rw [← hu]; congr 1; simp [h1]

/-- A call of a function whose value is known, at values without objects. -/
theorem gs_call {o : Oper} {st : St} {f : Operand} {xs : Array Operand} {ats : Array TypeId} {fid : FuncId} {fst cap : List G} {r : G} (ho : o.op = .call { callee := .value f, args := xs, argTypes := ats }) (hd : ∀ d, o.dst = some d → d < st.n) (hf : gev st f = .clo (.func fid) fst cap) (hc : callable P fid = true)
    (hi : ∀ g ∈ fst ++ xs.toList.map (gev st) ++ cap, ImmG g) (hF : Fn' P st.gl fid (fst ++ xs.toList.map (gev st) ++ cap) r) : GS P o st (st.put o.dst r) := by
  intro cx a w K R ⟨β, h⟩ hK
  obtain ⟨vs, hrun, hsz, hr⟩ := run_call h ho hf hc
  refine h.loose.oper (fun c hc => by rw [ho] at hc; cases hc) ?_
  unfold Oper.wp
  rw [hrun]
  refine (hF w (Av cx.S0 β st.σ) vs (fun b hb => ?_) h.glob hsz (fun i g u hg hu => hi g (List.mem_of_getElem? hg) _ _ _ _ (hr i g u hg hu))).mono ?_
  · rcases hb with hb | ⟨i, ob, C, h1, h2⟩
    · exact h.keep.lt (h.old b hb)
    · exact h.lt h1 h2
  · rintro e w' ⟨v, rfl, hv, hk⟩
    exact hK _ _ ⟨β, (h.world hk).put o.dst hd (.imm _ _ hv)⟩
/-- A value that looks at no memory. -/
def Flat (g : G) : Prop := ∀ S S' w w' v, IV S w g v → IV S' w' g v
theorem flat_lit (v : Value) : Flat (.lit v) := fun S S' w w' u h => by cases h; exact .lit v
theorem flat_agg {l : List G} (hl : ∀ g ∈ l, Flat g) : Flat (.agg l) := fun S S' w w' u h => by
  cases h with
  | agg _ us hl' h1 h => exact .agg _ us hl' h1 fun i g u hg hu => hl g (List.mem_of_getElem? hg) _ _ _ _ _ (h i g u hg hu)
theorem flat_tup {l : List G} (hl : ∀ g ∈ l, Flat g) : Flat (.tup l) := fun S S' w w' u h => by
  cases h with
  | tup _ us hl' h => exact .tup _ us hl' fun i g u hg hu => hl g (List.mem_of_getElem? hg) _ _ _ _ _ (h i g u hg hu)
/-- A call at objects, which are lent: what it tells looks at no memory. -/
theorem gs_lend {o : Oper} {st : St} {f : Operand} {xs : Array Operand} {ats : Array TypeId} {fid : FuncId} {fst cap gs : List G} {r : G} (ho : o.op = .call { callee := .value f, args := xs, argTypes := ats }) (hd : ∀ d, o.dst = some d → d < st.n) (hf : gev st f = .clo (.func fid) fst cap) (hc : callable P fid = true)
    (hl : gs.length = (fst ++ xs.toList.map (gev st) ++ cap).length) (hi : ∀ (i : Nat) (g g' : G), (fst ++ xs.toList.map (gev st) ++ cap)[i]? = some g → gs[i]? = some g' → Frz P st g g') (hF : Fn' P st.gl fid gs r) (hr : Flat r) : GS P o st (st.put o.dst r) := by
  intro cx a w K R ⟨β, h⟩ hK
  obtain ⟨vs, hrun, hsz, hv⟩ := run_call h ho hf hc
  refine h.loose.oper (fun c hc => by rw [ho] at hc; cases hc) ?_
  unfold Oper.wp
  rw [hrun]
  refine (hF w cx.S0 vs (fun b hb => h.keep.lt (h.old b hb)) (fun g l hl => (h.glob g l hl).sub fun _ _ x => .inl x) (by omega) (fun i g u hg hu => ?_)).mono ?_
  · have hlt := (List.getElem?_eq_some_iff.1 hg).1
    have hx : (fst ++ xs.toList.map (gev st) ++ cap)[i]? = some ((fst ++ xs.toList.map (gev st) ++ cap)[i]'(by omega)) := by rw [List.getElem?_eq_getElem]
    exact hi i _ g hx hg cx a w β h u (hv i _ u hx hu)
  · rintro e w' ⟨v, rfl, hv, hk⟩
    exact hK _ _ ⟨β, (h.world hk).put o.dst hd (.imm _ _ (hr _ _ _ _ _ hv))⟩
end
end Go.Proofs.YtfnglmepfjaimaaGreatDoor
