/- A machine of values over the model: numbers kept for objects; calls that see some of the objects. -/
import Derived.Test.YtfnglmepfjaimaaGreatDoorGY
import Derived.Test.YtfnglmepfjaimaaGreatDoorGS
import Derived.Test.YtfnglmepfjaimaaGreatDoorGV
namespace Go.Proofs.YtfnglmepfjaimaaGreatDoor
open Go.RowKit
set_option linter.unusedVariables false
section
variable {P : Program}

/-- A number is kept. -/
def resvOb : Ob := ⟨0, [], some .resv⟩
theorem le_resv (st : St) : Le P st { st with σ := (st.c, some resvOb) :: st.σ, c := st.c + 1 } := by
  rintro cx a w ⟨β, h⟩
  exact ⟨_, h.virtX 0 (.inr rfl) (Nat.le_refl _)⟩
def addResv : Nat → St → St
  | 0, s => s
  | n + 1, s => addResv n { s with σ := (s.c, some resvOb) :: s.σ, c := s.c + 1 }
theorem le_addResv : ∀ (n : Nat) (st : St), Le P st (addResv n st)
  | 0, st => Le.refl st
  | n + 1, st => (le_resv st).trans (le_addResv n _)

theorem sget_append_some {a b : Sto} {i : Nat} {o : Ob} (h : sget (a ++ b) i = some o) : sget a i = some o ∨ (i ∉ a.map (·.1) ∧ sget b i = some o) := by
  induction a with
  | nil => exact .inr ⟨by simp, h⟩
  | cons x r ih =>
    obtain ⟨d, ob⟩ := x
    rw [List.cons_append, sget_cons] at h
    rw [sget_cons]
    split at h
    · rename_i e; rw [if_pos e]; exact .inl h
    · rename_i e
      rw [if_neg e]
      rcases ih h with h | ⟨h1, h2⟩
      · exact .inl h
      · exact .inr ⟨by simp only [List.map_cons, List.mem_cons, not_or]; exact ⟨fun x => e x.symm, h1⟩, h2⟩
theorem sget_append_in {a b : Sto} {i : Nat} (h : i ∈ a.map (·.1)) : sget (a ++ b) i = sget a i := by
  induction a with
  | nil => simp at h
  | cons x r ih =>
    obtain ⟨d, ob⟩ := x
    rw [List.cons_append, sget_cons, sget_cons]
    split
    · rfl
    · rename_i e
      simp only [List.map_cons, List.mem_cons] at h
      rcases h with h | h
      · exact absurd h.symm e
      · exact ih h
theorem sget_append_out {a b : Sto} {i : Nat} (h : i ∉ a.map (·.1)) : sget (a ++ b) i = sget b i := by
  induction a with
  | nil => rfl
  | cons x r ih =>
    obtain ⟨d, ob⟩ := x
    simp only [List.map_cons, List.mem_cons, not_or] at h
    rw [List.cons_append, sget_cons, if_neg (fun e => h.1 e.symm)]
    exact ih h.2
theorem sget_not_mem {a : Sto} {i : Nat} (h : i ∉ a.map (·.1)) : sget a i = none := by
  have := sget_append_out (b := []) h
  rw [List.append_nil] at this
  exact this

/-- The blocks of objects that a callee does not see. -/
def Hidden (cx : Cx) (β : Bm) (σ σR : Sto) (b : Nat) : Prop := cx.S0 b ∨ ∃ i ob C, sget σ i = some ob ∧ β i = some (some (b, C)) ∧ sget σR i = none
theorem RelB.frontF {cx : Cx} {st : St} {a : Act} {w : World} {β : Bm} {F : Fence} {n m : Nat} {r : Bool} {fr : Fr} {tmps : Array Value} (h : RelB P cx st a w β) (σR : Sto) (hR : ∀ i o, sget σR i = some o → sget st.σ i = some o) (hL : Loose F) (hr : r = false → F.round = none) (hsz : tmps.size = m) (hf : ∀ i, RV β (Av cx.S0 β st.σ) w (fget fr i) (tmps.getD i undef)) :
    RelB P ⟨w, Liv β σR, Hidden cx β st.σ σR, β, F, n⟩ ⟨m, st.gl, fr, σR, st.c, st.c, r⟩ { tmps := tmps, defers := [] } w β ∧ (∀ b, Av (Hidden cx β st.σ σR) β σR b ↔ Av cx.S0 β st.σ b) := by
  have hav : ∀ b, Av (Hidden cx β st.σ σR) β σR b ↔ Av cx.S0 β st.σ b := fun b => by
    constructor
    · rintro ((hb | ⟨i, ob, C, h1, h2, _⟩) | ⟨i, ob, C, h1, h2⟩)
      · exact .inl hb
      · exact .inr ⟨i, ob, C, h1, h2⟩
      · exact .inr ⟨i, ob, C, hR i ob h1, h2⟩
    · rintro (hb | ⟨i, ob, C, h1, h2⟩)
      · exact .inl (.inl hb)
      · cases hi : sget σR i with
        | none => exact .inl (.inr ⟨i, ob, C, h1, h2, hi⟩)
        | some o => exact .inr ⟨i, o, C, hi, h2⟩
  refine ⟨{
    size := hsz
    defers := .nil rfl
    loose := hL
    rnd := hr
    fr := fun i => (hf i).step (fun _ _ x => x) (fun b _ hb => (hav b).1 hb) (Keeps.refl _ _)
    ob := fun i o ho => (h.ob i o (hR i o ho)).step (fun _ _ x => x) (fun b _ hb => (hav b).1 hb) (Keeps.refl _ _) (fun _ _ _ => rfl)
    inj := fun i j o o' b C D h1 h2 => h.inj i j o o' b C D (hR i o h1) (hR j o' h2)
    own := fun i o b C ho hb => .inl ⟨i, o, C, ho, hb⟩
    sep := fun i o b C ho hb hx => by
      rcases hx with hx | ⟨j, ob, D, h1, h2, h3⟩
      · exact h.sep i o b C (hR i o ho) hb hx
      · have := h.inj i j o ob b C D (hR i o ho) h1 hb h2
        subst this
        rw [ho] at h3; cases h3
    fresh := h.fresh
    glob := fun g l hl => (h.glob g l hl).sub fun b _ hb => (hav b).1 hb
    keep := Keeps.refl _ _
    old := fun b hb => by
      rcases hb with hb | ⟨i, ob, C, h1, h2, _⟩
      · exact h.keep.lt (h.old b hb)
      · exact h.lt h1 h2
    pin := fun i x hx => ⟨(by
      rcases Nat.lt_or_ge i st.c with h' | h'
      · exact h'
      · have := h.fresh i h'
        have hx' : β i = some x := hx
        rw [this] at hx'
        cases hx'), hx⟩ }, hav⟩
theorem RelB.backF {cx : Cx} {st s : St} {a a' : Act} {w w' : World} {β β1 : Bm} {F : Fence} {n : Nat} {σR τ : Sto} (h : RelB P cx st a w β) (hR : ∀ i o, sget σR i = some o → sget st.σ i = some o) (hr : RelB P ⟨w, Liv β σR, Hidden cx β st.σ σR, β, F, n⟩ s a' w' β1) (hgl : s.gl = st.gl)
    (hτ : ∀ i o, sget τ i = some o → sget s.σ i = some o ∨ (sget st.σ i = some o ∧ sget σR i = none)) :
    RelB P cx { st with σ := τ, c := s.c } a w' β1 ∧ ∀ g v, RV β1 (Av (Hidden cx β st.σ σR) β1 s.σ) w' g v → RV β1 (Av cx.S0 β1 τ) w' g v := by
  have hext : ∀ k x, β k = some x → β1 k = some x := fun k x hx => (hr.pin k x hx).2
  have hlive : ∀ i o, sget st.σ i = some o → ∃ x, β i = some x := fun i o ho => by
    rcases (h.ob i o ho).at with h1 | ⟨b, C, _, h1, _⟩
    · exact ⟨_, h1⟩
    · exact ⟨_, h1⟩
  have hblk : ∀ i o b C, sget st.σ i = some o → β1 i = some (some (b, C)) → β i = some (some (b, C)) := fun i o b C ho hb => by
    obtain ⟨x, hx⟩ := hlive i o ho
    rw [hext i x hx] at hb
    rw [hx]; exact hb
  -- what is avoided, behind
  have hav : ∀ b, Av cx.S0 β1 τ b → Av (Hidden cx β st.σ σR) β1 s.σ b := by
    rintro b (hb | ⟨i, ob, C, h1, h2⟩)
    · exact .inl (.inl hb)
    · rcases hτ i ob h1 with h3 | ⟨h3, h4⟩
      · exact .inr ⟨i, ob, C, h3, h2⟩
      · exact .inl (.inr ⟨i, ob, C, h3, hblk i ob b C h3 h2, h4⟩)
  have hAo : ∀ b, b < w.heap.size → Av cx.S0 β1 τ b → Av cx.S0 β st.σ b := by
    intro b hlt hb
    rcases hav b hb with (hb | ⟨i, ob, C, h1, h2, _⟩) | ⟨i, ob, C, h1, h2⟩
    · exact .inl hb
    · exact .inr ⟨i, ob, C, h1, h2⟩
    · rcases hr.own i ob b C h1 h2 with ⟨j, ob2, E, g3, g4⟩ | hb
      · exact .inr ⟨j, ob2, E, hR j ob2 g3, g4⟩
      · exact absurd hlt (by have : w.heap.size ≤ b := hb; omega)
  have hkp : Keeps (Av cx.S0 β st.σ) w w' := hr.keep.mono fun b _ ⟨j, ob2, E, g3, g4⟩ => .inr ⟨j, ob2, E, hR j ob2 g3, g4⟩
  have hframe : ∀ i o b C, sget st.σ i = some o → sget σR i = none → β i = some (some (b, C)) → w'.heap[b]? = w.heap[b]? := fun i o b C ho hn hb => hr.keep.block b (h.lt ho hb) (fun ⟨j, ob2, E, g3, g4⟩ => by
    have := h.inj i j o ob2 b C E ho (hR j ob2 g3) hb g4
    subst this
    rw [hn] at g3; cases g3)
  refine ⟨{
    size := h.size
    defers := h.defers.keep hr.keep (fun D hD ⟨j, ob2, E, g3, g4⟩ => h.not_marks (hR j ob2 g3) g4 hD)
    loose := h.loose
    rnd := h.rnd
    fr := fun i => (h.fr i).step hext hAo hkp
    ob := fun i o ho => by
      rcases hτ i o ho with h1 | ⟨h1, h2⟩
      · exact (hr.ob i o h1).step (fun _ _ x => x) (fun b _ hb => hav b hb) (Keeps.refl _ _) (fun _ _ _ => rfl)
      · exact (h.ob i o h1).step hext hAo hkp (fun b C hb => hframe i o b C h1 h2 hb)
    inj := fun i j o o' b C D hi hj hbi hbj => by
      rcases hτ i o hi with h1 | ⟨h1, h2⟩ <;> rcases hτ j o' hj with h3 | ⟨h3, h4⟩
      · exact hr.inj i j o o' b C D h1 h3 hbi hbj
      · exact absurd (.inr ⟨j, o', D, h3, hblk j o' b D h3 hbj, h4⟩) (hr.sep i o b C h1 hbi)
      · exact absurd (.inr ⟨i, o, C, h1, hblk i o b C h1 hbi, h2⟩) (hr.sep j o' b D h3 hbj)
      · exact h.inj i j o o' b C D h1 h3 (hblk i o b C h1 hbi) (hblk j o' b D h3 hbj)
    own := fun i o b C hi hbi => by
      rcases hτ i o hi with h1 | ⟨h1, h2⟩
      · rcases hr.own i o b C h1 hbi with ⟨j, ob2, E, g3, g4⟩ | hb
        · exact h.own j ob2 b E (hR j ob2 g3) g4
        · have := h.keep.size
          have hb' : w.heap.size ≤ b := hb
          right; omega
      · exact h.own i o b C h1 (hblk i o b C h1 hbi)
    sep := fun i o b C hi hbi hx => by
      rcases hτ i o hi with h1 | ⟨h1, h2⟩
      · exact hr.sep i o b C h1 hbi (.inl hx)
      · exact h.sep i o b C h1 (hblk i o b C h1 hbi) hx
    fresh := hr.fresh
    glob := fun g l hl => (hr.glob g l (by rw [hgl]; exact hl)).sub fun b _ hb => hav b hb
    keep := h.keep.then hr.keep (fun b hb ⟨j, ob2, E, g3, g4⟩ => by
      rcases h.own j ob2 b E (hR j ob2 g3) g4 with h1 | h1
      · exact h1
      · omega)
    old := h.old
    pin := fun i x hx => ⟨(h.pin i x hx).1, hext i x (h.pin i x hx).2⟩ }, fun g v hv => hv.step (fun _ _ x => x) (fun b _ hb => hav b hb) (Keeps.refl _ _)⟩
/-- A call whose callee sees some of the objects. -/
theorem gsn_callF {o : Oper} {st : St} {f : Operand} {xs : Array Operand} {ats : Array TypeId} {fid : FuncId} {fst cap : List G} {fn : Func} {body : Code} {Q : Exit → St → Prop} {T : Exit → St → Sto → Prop} (σR : Sto) (hR : ∀ i o, sget σR i = some o → sget st.σ i = some o)
    (ho : o.op = .call { callee := .value f, args := xs, argTypes := ats }) (hd : ∀ d, o.dst = some d → d < st.n) (hf : gev st f = .clo (.func fid) fst cap) (hc : callable P fid = true) (hfn : P.funcs[fid]? = some fn) (hb : fn.body = some body)
    (hn : (fst ++ xs.toList.map (gev st) ++ cap).length ≤ fn.ntmps) (hT : Tr P body ⟨fn.ntmps, st.gl, enterFr 0 (fst ++ xs.toList.map (gev st) ++ cap), σR, st.c, st.c, false⟩ Q) (hQ : ∀ e s, Q e s → (e = .normal ∨ e = .ret) ∧ s.gl = st.gl ∧ ∃ gs', fn.results.toList.mapM (gres P s) = some gs')
    (hτ : (∀ i o, sget st.σ i = some o → i < st.c) → ∀ e s, Q e s → ∃ τ, T e s τ ∧ ∀ i o, sget τ i = some o → sget s.σ i = some o ∨ (sget st.σ i = some o ∧ sget σR i = none)) :
    GSn P o st (fun s' => ∃ e s gs' τ, Q e s ∧ fn.results.toList.mapM (gres P s) = some gs' ∧ T e s τ ∧ s' = { st with σ := τ, c := s.c }.put o.dst (gtup gs')) := by
  intro cx a w K R ⟨β, h⟩ hK
  obtain ⟨vs, hrun, hsz, hv⟩ := run_call h ho hf hc
  refine h.loose.oper (fun c hc => by rw [ho] at hc; cases hc) ?_
  unfold Oper.wp
  rw [hrun]
  have hbound : ∀ i o, sget st.σ i = some o → i < st.c := fun i ob ho => by
    rcases Nat.lt_or_ge i st.c with hlt | hge
    · exact hlt
    · have hf := h.fresh i hge
      rcases (h.ob i ob ho).at with h1 | ⟨b, C, _, h1, _⟩ <;> rw [hf] at h1 <;> cases h1
  obtain ⟨hfront, _⟩ := h.frontF (F := Fence.wide) (n := 9) (m := fn.ntmps) (r := false) σR hR loose_wide (fun _ => rfl) (by rw [Array.size_append, Array.size_replicate, hsz]; omega) (enter_rv hsz hn hv)
  refine calls_tr (cx := ⟨w, Liv β σR, Hidden cx β st.σ σR, β, Fence.wide, 9⟩) hfn hb hT rfl rfl ⟨β, hfront⟩ ?_
  rintro e s a' w' hq ⟨β1, hr⟩
  obtain ⟨he, hgl, gs', hgs⟩ := hQ e s hq
  obtain ⟨v, hres, hv'⟩ := results_run hr hgs
  obtain ⟨τ, hT1, hT2⟩ := hτ hbound e s hq
  obtain ⟨h1, h2⟩ := h.backF (τ := τ) hR hr hgl hT2
  exact ⟨he, v, hres, hK _ ⟨e, s, gs', τ, hq, hgs, hT1, rfl⟩ _ _ ⟨β1, h1.put o.dst hd (h2 _ _ hv')⟩⟩
end
end Go.Proofs.YtfnglmepfjaimaaGreatDoor
