/- Running code on known values, first part: calls walked in place, loops round by round. -/
import Derived.Test.YtfnglmepfjaimaaGreatDoorGQ
import Derived.LoopNIn
namespace Go.Proofs.YtfnglmepfjaimaaGreatDoor
open Go.RowKit
set_option linter.unusedVariables false
section
variable {P : Program}

/-- A loop, of so many rounds. -/
def TrN (P : Program) (c : Code) (Q : Exit → St → Prop) : Nat → St → Prop
  | 0, _ => False
  | n + 1, st => Tr P c st (Thn (TrN P c Q n) Q)
theorem tr_loopN {c : Code} {Q : Exit → St → Prop} {st : St} (n : Nat) (h : TrN P c Q n st) : Tr P (.loop c) st Q := fun cx a w R r k => by
  refine wpIn_loop_rounds n ?_
  induction n generalizing st a w with
  | zero => exact h.elim
  | succ n ih =>
    rw [roundsIn_succ]
    refine h cx a w _ r fun e s a' w' q r' => ?_
    cases e with
    | normal => simp only [Thn] at q; exact ih q a' w' r'
    | _ => simp only [Thn] at q; exact k _ s a' w' q r'

/-- A call, walked in place: the callee has the caller's objects. -/
theorem gs_callI {o : Oper} {st : St} {f : Operand} {xs : Array Operand} {ats : Array TypeId} {fid : FuncId} {fst cap gs' : List G} {fn : Func} {body : Code} {σ1 : Sto} {c1 : Nat}
    (ho : o.op = .call { callee := .value f, args := xs, argTypes := ats }) (hd : ∀ d, o.dst = some d → d < st.n) (hf : gev st f = .clo (.func fid) fst cap) (hc : callable P fid = true) (hfn : P.funcs[fid]? = some fn) (hb : fn.body = some body)
    (hn : (fst ++ xs.toList.map (gev st) ++ cap).length ≤ fn.ntmps)
    (hT : Tr P body ⟨fn.ntmps, st.gl, enterFr 0 (fst ++ xs.toList.map (gev st) ++ cap), st.σ, st.c, st.c, false⟩ (fun e s => (e = .normal ∨ e = .ret) ∧ s.σ = σ1 ∧ s.c = c1 ∧ s.gl = st.gl ∧ fn.results.toList.mapM (gres P s) = some gs')) :
    GS P o st ({ st with σ := σ1, c := c1 }.put o.dst (gtup gs')) := by
  intro cx a w K R ⟨β, h⟩ hK
  obtain ⟨vs, hrun, hsz, hv⟩ := run_call h ho hf hc
  refine h.loose.oper (fun c hc => by rw [ho] at hc; cases hc) ?_
  unfold Oper.wp
  rw [hrun]
  have hS : ∀ b, cx.S0 b → b < w.heap.size := fun b hb => h.keep.lt (h.old b hb)
  refine calls_tr (cx := ⟨w, Liv β st.σ, cx.S0, β, Fence.wide, 9⟩) hfn hb hT rfl rfl ⟨β, ?_⟩ ?_
  · exact {
      size := by simp [hsz]; simp at hn; omega
      defers := .nil rfl
      loose := loose_wide
      rnd := fun _ => rfl
      fr := fun i => by
        show RV _ _ w (fget (enterFr 0 _) i) _
        rw [fget_enter]
        simp only [Nat.zero_le, if_true, Nat.sub_zero]
        cases hg : (fst ++ xs.toList.map (gev st) ++ cap)[i]? with
        | none => exact .junk _
        | some g =>
          have hlt := (List.getElem?_eq_some_iff.1 hg).1
          have hu : vs[i]? = some (vs[i]'(by omega)) := by simp [show i < vs.size by omega]
          have e : (vs ++ Array.replicate (fn.ntmps - vs.size) undef).getD i undef = vs[i]'(by omega) := by
            rw [Array.getD_eq_getD_getElem?, Array.getElem?_append_left (by omega), hu]; rfl
          rw [e]
          exact hv i g _ hg hu
      ob := h.ob
      inj := h.inj
      own := fun i o b C ho hb => .inl ⟨i, o, C, ho, hb⟩
      sep := h.sep
      fresh := h.fresh
      glob := h.glob
      keep := Keeps.refl _ _
      old := hS
      pin := fun i x hx => ⟨(by
        rcases Nat.lt_or_ge i st.c with h' | h'
        · exact h'
        · have := h.fresh i h'
          have hx' : β i = some x := hx
          rw [this] at hx'
          cases hx'), hx⟩ }
  · rintro e s a' w' ⟨he, rfl, rfl, hgl, hgs⟩ ⟨β1, hr⟩
    obtain ⟨v, hres, hv'⟩ := results_run hr hgs
    have hext : ∀ k x, β k = some x → β1 k = some x := fun k x hx => (hr.pin k x hx).2
    have hAo : ∀ b, b < w.heap.size → Av cx.S0 β1 s.σ b → Av cx.S0 β st.σ b := by
      rintro b hlt (hb | ⟨i, ob, C, h1, h2⟩)
      · exact .inl hb
      · rcases hr.own i ob b C h1 h2 with hb | hb
        · exact .inr hb
        · exact absurd hlt (by have : w.heap.size ≤ b := hb; omega)
    have hkp : Keeps (Av cx.S0 β st.σ) w w' := hr.keep.mono fun b _ hb => .inr hb
    have hmid : RelB P cx { st with σ := s.σ, c := s.c } a w' β1 := {
      size := h.size
      defers := h.defers.keep hr.keep (fun D hD hx => by
        obtain ⟨j, ob2, E, g3, g4⟩ := hx
        exact h.not_marks g3 g4 hD)
      loose := h.loose
      rnd := h.rnd
      fr := fun i => (h.fr i).step hext hAo hkp
      ob := hr.ob
      inj := hr.inj
      own := fun k o1 b C h1 h3 => by
        rcases hr.own k o1 b C h1 h3 with hb | hb
        · obtain ⟨j, ob2, E, g3, g4⟩ := hb
          exact h.own j ob2 b E g3 g4
        · have := h.keep.size
          have hb' : w.heap.size ≤ b := hb
          right; omega
      sep := hr.sep
      fresh := hr.fresh
      glob := fun g l hl => hr.glob g l (by rw [hgl]; exact hl)
      keep := h.keep.then hr.keep (fun b hb hx => by
        obtain ⟨j, ob2, E, g3, g4⟩ := hx
        rcases h.own j ob2 b E g3 g4 with h1 | h1
        · exact h1
        · omega)
      old := h.old
      pin := fun i x hx => ⟨(h.pin i x hx).1, hext i x (h.pin i x hx).2⟩ }
    have hput : Rel P cx ({ st with σ := s.σ, c := s.c }.put o.dst (gtup gs')) (a.put o.dst v) w' := ⟨β1, hmid.put o.dst hd hv'⟩
    exact ⟨he, v, hres, hK _ _ hput⟩
theorem stepR_scope {b : Frame} {a : Act} {k : List Item} {cs : List Frame} {w : World} {c : Code} : step P (lone (b.atR a (.code (.scope c) :: k)) cs w) = .next (lone (b.atR a (.code c :: .inScope c :: k)) cs w) :=
  step_lone_go (by simp [stepG, stepG.exec, Frame.atR])
theorem stepR_inScope {b : Frame} {a : Act} {k : List Item} {cs : List Frame} {w : World} {c : Code} : step P (lone (b.atR a (.inScope c :: k)) cs w) = .next (lone (b.atR a k) cs w) :=
  step_lone_go (by simp [stepG, stepG.exec, Frame.atR])
def isGoto : Exit → Bool
  | .goto _ => true
  | _ => false
/-- A piece of code with labels, in which nobody jumps. -/
theorem wpIn_scope_calm {F : Fence} {n : Nat} {Q : Exit → Act → World → Prop} {a : Act} {w : World} {c : Code} (h : c.wpIn F n P (fun e a w => isGoto e = false ∧ Q e a w) a w) : (Code.scope c).wpIn F n P Q a w := by
  intro b k cs hro hb hr
  have h0 : (lone (b.atR a (.code (.scope c) :: k)) cs w).fenced P F := fenced_calm hb hr rfl
  obtain ⟨e, a₁, w₁, ⟨hg, hq⟩, harr⟩ := h b (.inScope c :: k) cs hro hb hr
  cases e with
  | normal => exact ⟨.normal, a₁, w₁, hq, .head h0 stepR_scope (StepsIn.trans harr (.one (fenced_calm hb hr rfl) stepR_inScope))⟩
  | exit id' =>
    have hx : exitTo id' (.inScope c :: k) = exitTo id' k := by simp [exitTo]
    exact ⟨.exit id', a₁, w₁, hq, fun k' hk => .head h0 stepR_scope (harr.1 k' (by rw [hx]; exact hk)),
      fun hr' hk => let ⟨k₁, h1, h2⟩ := harr.2 hr' (by rw [hx]; exact hk); ⟨k₁, h1, .head h0 stepR_scope h2⟩⟩
  | goto l => cases hg
  | ret => exact ⟨_, a₁, w₁, hq, .of_steps (.one h0 stepR_scope) harr⟩
  | panic ch => exact ⟨_, a₁, w₁, hq, .of_steps (.one h0 stepR_scope) harr⟩
  | outgrown => exact ⟨_, a₁, w₁, hq, .of_steps (.one h0 stepR_scope) harr⟩
theorem tr_scope {c : Code} {st : St} {Q : Exit → St → Prop} (h : Tr P c st (fun e s => isGoto e = false ∧ Q e s)) : Tr P (.scope c) st Q := fun cx a w R r k =>
  wpIn_scope_calm (h cx a w _ r fun e s a' w' q r' => ⟨q.1, k e s a' w' q.2 r'⟩)
end
end Go.Proofs.YtfnglmepfjaimaaGreatDoor
