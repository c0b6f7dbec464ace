/- A machine of values over the model, sixth part: an operation that tells a value is one step. -/
import Derived.Test.YtfnglmepfjaimaaGreatDoorGE
namespace Go.Proofs.YtfnglmepfjaimaaGreatDoor
open Go.RowKit
set_option linter.unusedVariables false
section
variable {P : Program}

theorem RV.clo_form {β : Bm} {S : Nat → Prop} {w : World} {fn : Fn} {a b : List G} {v : Value} (h : RV β S w (.clo fn a b) v) : ∃ fs cs : Array Value, v = .func fn fs cs ∧ fs.size = a.length ∧ cs.size = b.length ∧ (∀ (i : Nat) (g : G) (u : Value), a[i]? = some g → fs[i]? = some u → RV β S w g u) ∧ (∀ (i : Nat) (g : G) (u : Value), b[i]? = some g → cs[i]? = some u → RV β S w g u) := by
  cases h with
  | imm _ _ h =>
    cases h with
    | clo _ _ _ fs cs hf hc h h' => exact ⟨fs, cs, rfl, hf, hc, fun i g u a b => .imm _ _ (h i g u a b), fun i g u a b => .imm _ _ (h' i g u a b)⟩
  | clo _ _ _ fs cs hf hc h h' => exact ⟨fs, cs, rfl, hf, hc, h, h'⟩
theorem RV.tup_form {β : Bm} {S : Nat → Prop} {w : World} {l : List G} {v : Value} (h : RV β S w (.tup l) v) : ∃ us : Array Value, v = .tuple us ∧ us.size = l.length ∧ (∀ (i : Nat) (g : G) (u : Value), l[i]? = some g → us[i]? = some u → RV β S w g u) := by
  cases h with
  | imm _ _ h =>
    cases h with
    | tup _ us hl h => exact ⟨us, rfl, hl, fun i g u a b => .imm _ _ (h i g u a b)⟩
  | tup _ us hl h => exact ⟨us, rfl, hl, h⟩
theorem RV.agg_form {β : Bm} {S : Nat → Prop} {w : World} {l : List G} {v : Value} (h : RV β S w (.agg l) v) : ∃ us : Array Value, v = .agg us ∧ us.size = l.length ∧ (∀ (i : Nat) (u : Value), us[i]? = some u → u.oneCell' = true) ∧ (∀ (i : Nat) (g : G) (u : Value), l[i]? = some g → us[i]? = some u → RV β S w g u) := by
  cases h with
  | imm _ _ h =>
    cases h with
    | agg _ us hl h1 h => exact ⟨us, rfl, hl, h1, fun i g u a b => .imm _ _ (h i g u a b)⟩
  | agg _ us hl h1 h => exact ⟨us, rfl, hl, h1, h⟩
theorem glen_run {β : Bm} {S : Nat → Prop} {w : World} {x : G} {v : Value} {n : Int} (hx : RV β S w x v) (hg : glen x = some n) {t e : TypeId} (ht : P.underlying t = some (.slice e)) (ty : TypeId) : (Builtin.len_ #[t] ty #[v]).run P w = .ok (.int .i64 n) w := by
  cases x with
  | sl l m => simp [glen] at hg; subst hg; obtain ⟨a, cap, us, rfl, _⟩ := hx.sl_cells; simp [Builtin.len_, goInt, run_underlying ht]
  | rsl i o m =>
    simp [glen] at hg; subst hg
    rcases hx.rsl_form with ⟨_, rfl, rfl⟩ | ⟨b, C, o', cap, _, rfl, _⟩ <;> simp [Builtin.len_, goInt, run_underlying ht]
  | lit u =>
    cases u with
    | slice a k c => simp [glen] at hg; subst hg; rw [hx.lit_eq]; simp [Builtin.len_, goInt, run_underlying ht]
    | _ => simp [glen] at hg
  | _ => simp [glen] at hg
theorem gbool_eq {x : G} {b : Bool} (h : gbool x = some b) : x = .lit (.bool b) := by
  cases x with
  | lit v =>
    cases v with
    | bool c => simp [gbool] at h; rw [h]
    | _ => simp [gbool] at h
  | _ => simp [gbool] at h

theorem evVal_run {cx : Cx} {st : St} {a : Act} {w : World} {β : Bm} (h : RelB P cx st a w β) {o : Oper} {g : G} (he : evVal P (gev st) st.σ o = some g) : ∃ v, (execOp a.eval o).run P w = .ok (.value v) w ∧ RV β (Av cx.S0 β st.σ) w g v := by
  obtain ⟨dst, op, type, pos, after, guard⟩ := o
  cases op
  case move x => simp only [evVal, Option.some.injEq] at he; subst he; exact ⟨_, by simp [execOp], h.ev x⟩
  case assign x => simp only [evVal, Option.some.injEq] at he; subst he; exact ⟨_, by simp [execOp], h.ev x⟩
  case pick c x y =>
    simp only [evVal, Option.map_eq_some_iff] at he
    obtain ⟨t, ht, rfl⟩ := he
    have hc := h.ev c
    rw [gbool_eq ht] at hc
    refine ⟨if t then a.eval x else a.eval y, by simp [execOp, hc.lit_eq, asBool], ?_⟩
    cases t
    · exact h.ev y
    · exact h.ev x
  case load t x =>
    obtain ⟨u, hu, hr⟩ := gload_run h (h.ev x) he
    exact ⟨u, by simp [execOp, hu], hr⟩
  case nilCheck x =>
    have hx := h.ev x
    simp only [evVal] at he
    split at he
    · rename_i i o hg
      cases he
      rw [hg] at hx
      obtain ⟨b, C, _, hv⟩ := hx.ref_addr
      exact ⟨_, by simp only [execOp, hv]; rfl, by rw [← hv]; exact hx⟩
    · rename_i l o hg
      cases he
      rw [hg] at hx
      obtain ⟨b, off, us, hv, _⟩ := hx.ptr_cells
      exact ⟨_, by simp only [execOp, hv]; rfl, by rw [← hv]; exact hx⟩
    · rename_i f x' y' hg
      cases he
      rw [hg] at hx
      obtain ⟨fs, cs, hv, _⟩ := hx.clo_form
      exact ⟨_, by simp only [execOp, hv]; rfl, by rw [← hv]; exact hx⟩
    · cases he
  case makeFunc fn f c =>
    simp only [evVal, Option.some.injEq] at he
    subst he
    refine ⟨.func fn (f.map a.eval) (c.map a.eval), by simp [execOp, Instr.makeFunc], .clo _ _ _ _ _ (by simp) (by simp) (fun i g u hg hu => ?_) (fun i g u hg hu => ?_)⟩ <;>
      (simp [Array.getElem?_map] at hg hu
       obtain ⟨x, hx, rfl⟩ := hg
       obtain ⟨y, hy, rfl⟩ := hu
       rw [hx] at hy; cases hy
       exact h.ev _)
  case extract x k =>
    have hx := h.ev x
    simp only [evVal] at he
    split at he
    · rename_i l hg
      rw [hg] at hx
      obtain ⟨us, hv, hl, hr⟩ := hx.tup_form
      have hk := (List.getElem?_eq_some_iff.1 he).1
      have hu : us[k]? = some (us[k]'(by omega)) := by simp [show k < us.size by omega]
      exact ⟨us[k]'(by omega), by simp [execOp, hv, Instr.extract, hu], hr _ _ _ he hu⟩
    · cases he
  case makeInterface t x =>
    simp only [evVal, Option.bind_eq_some_iff] at he
    obtain ⟨d, hd, he⟩ := he
    refine ⟨.iface t (a.eval x), ?_, ?_⟩
    · simp only [execOp, Instr.makeInterface, Sem.run_bind, run_underlying hd, Result.andThen_ok]
      cases d <;> simp at he ⊢
    · cases d <;> simp at he <;> (subst he; exact .ifc _ _ _ (h.ev x))
  case fieldAddr t x k =>
    simp only [evVal, Option.bind_eq_some_iff] at he
    obtain ⟨⟨off, ft⟩, hf, n, hn, he⟩ := he
    split at he
    · cases he
    rename_i hn0
    obtain ⟨fs, f, hd, hfk, rfl, rfl⟩ := tfield_spec hf
    obtain ⟨ad, hv, hr⟩ := gaddr_run (h.ev x) he
    refine ⟨_, ?_, hr⟩
    simp [execOp, Instr.fieldAt, run_underlying hd, hfk, hv, Instr.sureAddr, fieldPlace, run_sizeOf hn, hn0]
  case field t x k =>
    have hx := h.ev x
    simp only [evVal] at he
    split at he
    · rename_i l hg
      rw [hg] at hx
      rw [Option.bind_eq_some_iff] at he
      obtain ⟨⟨off, ft⟩, hf, he⟩ := he
      obtain ⟨fs, f, hd, hfk, rfl, rfl⟩ := tfield_spec hf
      obtain ⟨us, hv, hl, h1, hr⟩ := hx.agg_form
      obtain ⟨u, hu, hru⟩ := gpart_part hl h1 hr he
      exact ⟨u, by simp [execOp, Instr.field, run_underlying hd, hfk, hv, asAgg, hu], hru⟩
    · cases he
  case indexAddr t x i =>
    simp only [evVal, Option.bind_eq_some_iff] at he
    obtain ⟨k, hk, he⟩ := he
    obtain ⟨ik, hi⟩ := gint_run (h.ev i) hk
    obtain ⟨u, hu, hr⟩ := gindex_run (k := ik) (h.ev x) he
    exact ⟨u, by simp [execOp, hi, hu], hr⟩
  case index t x i =>
    have hx := h.ev x
    simp only [evVal] at he
    split at he
    · rename_i l hg
      rw [hg] at hx
      simp only [Option.bind_eq_some_iff] at he
      obtain ⟨⟨n, e⟩, ha, k, hk, s, hs, he⟩ := he
      have ht := tarr_spec ha
      split at he
      · rename_i hb
        obtain ⟨us, hv, hl, h1, hr⟩ := hx.agg_form
        obtain ⟨ik, hi⟩ := gint_run (h.ev i) hk
        obtain ⟨u, hu, hru⟩ := gpart_part hl h1 hr he
        exact ⟨u, by simp [execOp, Instr.index, asIntOf, hi, run_underlying ht, hv, hb.1, hb.2, run_sizeOf hs, hu], hru⟩
      · cases he
    · exact gplain_run h (by simp) he
  case slice t x lo hi mx =>
    have hx := h.ev x
    cases mx with
    | some _ => simp [evVal] at he
    | none =>
      simp only [evVal] at he
      split at he
      · exact gplain_run h (by simp) he
      · simp only [Option.bind_eq_some_iff] at he
        obtain ⟨al, hal, bl, hbl, he⟩ := he
        have b1 := optInt_run (β := β) (S := Av cx.S0 β st.σ) (w := w) (x := lo.map (gev st)) (v := lo.map a.eval) (fun g hg => by
          cases lo with
          | none => cases hg
          | some y => simp at hg; subst hg; exact ⟨_, rfl, h.ev y⟩) (fun hn => by cases lo <;> simp_all) hal
        have b2 := optInt_run (β := β) (S := Av cx.S0 β st.σ) (w := w) (x := hi.map (gev st)) (v := hi.map a.eval) (fun g hg => by
          cases hi with
          | none => cases hg
          | some y => simp at hg; subst hg; exact ⟨_, rfl, h.ev y⟩) (fun hn => by cases hi <;> simp_all) hbl
        obtain ⟨u, hu, hr⟩ := gslice_run hx b1 b2 he
        exact ⟨u, by simp [execOp, hu], hr⟩
  case call c =>
    obtain ⟨callee, args, ats⟩ := c
    cases callee with
    | builtin b =>
      cases b
      case len =>
        simp only [evVal] at he
        split at he
        · rename_i x t hx hat
          split at he
          · rename_i hsome
            obtain ⟨e, hte⟩ := Option.isSome_iff_exists.1 hsome
            simp only [Option.map_eq_some_iff] at he
            obtain ⟨n, hn, rfl⟩ := he
            have hargs : args = #[x] := by rw [← Array.toList_inj]; simpa using hx
            have hats : ats = #[t] := by rw [← Array.toList_inj]; simpa using hat
            subst hargs; subst hats
            refine ⟨.int .i64 n, ?_, .imm _ _ (.lit _)⟩
            simp [execOp, resolve, invoke, builtin, glen_run (h.ev x) hn (telem_spec hte)]
          · exact gplain_run h (by simp) he
        · cases he
      case max => exact gplain_run h (by simp) he
      case min => exact gplain_run h (by simp) he
      all_goals simp [evVal] at he
    | _ => simp [evVal] at he
  case binOp => exact gplain_run h (by simp) he
  case unOp => exact gplain_run h (by simp) he
  case convert => exact gplain_run h (by simp) he
  all_goals simp [evVal] at he

theorem gs_val {o : Oper} {st : St} {g : G} (hd : ∀ d, o.dst = some d → d < st.n) (he : evVal P (gev st) st.σ o = some g) : GS P o st (st.put o.dst g) := by
  intro cx a w K R ⟨β, h⟩ hK
  obtain ⟨v, hv, hr⟩ := evVal_run h he
  refine h.loose.oper (fun c hc => by simp [evVal, hc] at he) ?_
  unfold Oper.wp
  rw [hv]
  exact hK _ _ ⟨β, h.put o.dst hd hr⟩
end
end Go.Proofs.YtfnglmepfjaimaaGreatDoor
