/- A range over a function whose rounds write what is another's, at any depth: who may turn which blocks ('Party', 'Round'), and the law of the statement. -/
import Derived.Test.YtappaadadkoamaaTSmall
import Derived.RangeFuncNested
import Derived.RangeFuncBound
import Derived.RangeFuncCalls
import Derived.RangeFuncLeaves
import Derived.Shelf.Abstract
import Derived.Shelf.RegionOpen
import Derived.OwnWalkIn
import Derived.TacticsInMore
import Derived.LoopNIn
import Derived.LoopIn
namespace Go.Proofs.Ytappaadadkoamaa
open Go.RowKit Go.Shelf
set_option linter.unusedVariables false

/-- A step that leaves what lies below B, and the others' blocks, as they lay. -/
structure StepOf (Fo : World → Nat → Prop) (B : Nat) (w w' : World) : Prop where
  os : w'.os = w.os
  tape : w'.tape = w.tape
  output : w'.output = w.output
  size : w.heap.size ≤ w'.heap.size
  block : ∀ k, k < w.heap.size → (k < B ∨ Fo w k) → w'.heap[k]? = w.heap[k]?
/-- What a round of the others' leaves: what is not theirs lies as it lay, and does not become theirs. -/
structure Round (Fo : World → Nat → Prop) (w w' : World) : Prop where
  os : w'.os = w.os
  tape : w'.tape = w.tape
  output : w'.output = w.output
  size : w.heap.size ≤ w'.heap.size
  block : ∀ k, k < w.heap.size → ¬ Fo w k → w'.heap[k]? = w.heap[k]? ∧ ¬ Fo w' k
/-- The others: their blocks lie there; their word J abides our steps, which give them no further blocks. -/
structure Party (Fo : World → Nat → Prop) (B : Nat) (J : List Value → World → Prop) : Prop where
  bound : ∀ pre w k, J pre w → Fo w k → k < w.heap.size
  step : ∀ pre w w', J pre w → StepOf Fo B w w' → J pre w' ∧ ∀ k, Fo w' k → Fo w k

theorem Round.refl (Fo : World → Nat → Prop) (w : World) : Round Fo w w := ⟨rfl, rfl, rfl, Nat.le_refl _, fun _ _ h => ⟨rfl, h⟩⟩
theorem Round.trans {Fo : World → Nat → Prop} {a b c : World} (h : Round Fo a b) (k : Round Fo b c) : Round Fo a c :=
  ⟨k.os.trans h.os, k.tape.trans h.tape, k.output.trans h.output, Nat.le_trans h.size k.size, fun i hi hf => by
    obtain ⟨e1, f1⟩ := h.block i hi hf
    obtain ⟨e2, f2⟩ := k.block i (Nat.lt_of_lt_of_le hi h.size) f1
    exact ⟨e2.trans e1, f2⟩⟩
theorem StepOf.below {Fo : World → Nat → Prop} {B : Nat} {w w' : World} (h : Below w.heap.size w w') : StepOf Fo B w w' := ⟨h.os, h.tape, h.output, h.size, fun k hk _ => h.block k hk⟩
theorem Party.later {Fo : World → Nat → Prop} {B : Nat} {J : List Value → World → Prop} (h : Party Fo B J) {pre : List Value} {w w' : World} (hJ : J pre w) (hb : Below w.heap.size w w') : J pre w' ∧ Round Fo w w' := by
  obtain ⟨h1, h2⟩ := h.step pre w w' hJ (StepOf.below hb)
  exact ⟨h1, hb.os, hb.tape, hb.output, hb.size, fun k hk hf => ⟨hb.block k hk, fun x => hf (h2 k x)⟩⟩
/-- A new block is nobody's but ours. -/
theorem Party.fresh {Fo : World → Nat → Prop} {B : Nat} {J : List Value → World → Prop} (h : Party Fo B J) {pre : List Value} {w w' : World} (hJ : J pre w) (hb : Below w.heap.size w w') {b : Nat} (hlt : w.heap.size ≤ b) : ¬ Fo w' b := fun x => by
  have h1 := (h.step pre w w' hJ (StepOf.below hb)).2 b x
  have h2 := h.bound pre w b hJ h1
  omega
theorem Round.keeps {Fo : World → Nat → Prop} {w w' : World} (h : Round Fo w w') : Keeps (Fo w) w w' := ⟨h.os, h.tape, h.output, h.size, fun k hk hf => (h.block k hk hf).1⟩
theorem Round.blk {Fo : World → Nat → Prop} {w w' : World} {b : Nat} {t : TypeId} {xs : List Value} (h : Round Fo w w') (hB : Blk w b t xs) (hf : ¬ Fo w b) : Blk w' b t xs ∧ ¬ Fo w' b :=
  ⟨(h.block b hB.lt hf).1.trans hB, (h.block b hB.lt hf).2⟩
/-- A slice of ints that is ours. -/
def Ours (Fo : World → Nat → Prop) (w : World) (u : Value) : Prop := ∀ b, u.ownBlock = some b → ¬ Fo w b
theorem Round.ints {Fo : World → Nat → Prop} {w w' : World} {lo hi : Nat} {u : Value} {zs : List Int} (h : Round Fo w w') (hI : IntsT w lo hi u zs) (hf : Ours Fo w u) : IntsT w' lo hi u zs ∧ Ours Fo w' u :=
  ⟨hI.keepsOwn h.keeps hf, fun b hb => (h.block b (hI.2 b hb).lt (hf b hb)).2⟩
theorem Round.each {Fo : World → Nat → Prop} {w w' : World} {lo hi : Nat} {us : List Value} {ls : List (List Int)} (h : Round Fo w w') (hI : Each w lo hi us ls) (hf : ∀ u ∈ us, Ours Fo w u) : Each w' lo hi us ls ∧ ∀ u ∈ us, Ours Fo w' u := by
  have key : ∀ i u l, us[i]? = some u → ls[i]? = some l → IntsT w' lo hi u l ∧ Ours Fo w' u := fun i u l a b => h.ints (hI.2 i u l a b) (hf u (List.mem_of_getElem? a))
  refine ⟨⟨hI.1, fun i u l a b => (key i u l a b).1⟩, fun u hu => ?_⟩
  obtain ⟨i, hi⟩ := List.mem_iff_getElem?.1 hu
  have hlt := (List.getElem?_eq_some_iff.1 hi).1
  exact (key i u _ hi (List.getElem?_eq_getElem (by rw [← hI.1]; exact hlt))).2
/-- A block of ours, from B on, turns. -/
theorem Party.put {Fo : World → Nat → Prop} {B : Nat} {J : List Value → World → Prop} (h : Party Fo B J) {pre : List Value} {w : World} (hJ : J pre w) {l : Nat} (hl : B ≤ l) (hf : ¬ Fo w l) (o : Obj) : J pre (w.putObj l o) ∧ (∀ k, Fo (w.putObj l o) k → Fo w k) := by
  refine h.step pre w (w.putObj l o) hJ ⟨rfl, rfl, rfl, by simp, fun k hk hc => ?_⟩
  refine World.putObj_heap_other (fun e => ?_)
  subst e
  rcases hc with hc | hc
  · omega
  · exact hf hc
theorem Round.put {Fo : World → Nat → Prop} {w w' : World} (h : Round Fo w w') {l : Nat} (hl : w.heap.size ≤ l) (o : Obj) (hFo : ∀ k, Fo (w'.putObj l o) k → Fo w' k) : Round Fo w (w'.putObj l o) :=
  ⟨h.os, h.tape, h.output, by simpa using h.size, fun k hk hf => by
    obtain ⟨e, f⟩ := h.block k hk hf
    exact ⟨(World.putObj_heap_other (by omega)).trans e, fun x => f (hFo k x)⟩⟩
theorem keeps_put {w : World} {l : Nat} (o : Obj) : Keeps (fun b => b = l) w (w.putObj l o) := ⟨rfl, rfl, rfl, by simp, fun k _ hk => World.putObj_heap_other hk⟩

def IsSlice (u : Value) : Prop := ∃ a n c, u = .slice a n c
theorem IntsT.isSlice {w : World} {lo hi : Nat} {u : Value} {zs : List Int} (h : IntsT w lo hi u zs) : IsSlice u := by
  obtain ⟨a, c, rfl, _⟩ := h.form
  exact ⟨_, _, _, rfl⟩

theorem room_of_none {F : Fence} (hd : F.depth = none) (k : Nat) : F.room k := fun d h => by rw [hd] at h; cases h
theorem RoundIn.anyDepth {F : Fence} (hd : F.depth = none) {m m' : Nat} {P : Program} {l : Nat} {f : FuncId} {tmps : Array Value} {assign body : Code} {w : World} {R : Ending → World → Prop}
    (h : RoundIn F m P l f tmps assign body w R) : RoundIn F m' P l f tmps assign body w R := ⟨h.1, fun c cs _ => h.2 c cs (room_of_none hd _)⟩

/-- What the value 'func gf, lb captured' gives, in whatever later world: new slices that read as ls. -/
def SeqT (P : Program) (gf : Nat) (lb : Array Value) (cap : Nat → Prop) (ls : List (List Int)) (w0 : World) : Prop :=
  ∀ (lid : Nat) (J : List Value → World → Prop) (Fo : World → Nat → Prop) (pre : List Value) (N : Nat) (W : World), Below w0.heap.size w0 W → Party Fo W.heap.size J → (∀ b, cap b → ¬ Fo W b) → pre.length + ls.length ≤ N →
    (∀ m pre' u W1, J pre' W1 → pre'.length < N → IsSlice u → YieldAt Fence.wide m P lid #[u] W1 fun e W' => e = .returned (.bool true) ∧ J (pre' ++ [u]) W' ∧ Round Fo W1 W') → J pre W →
    Calls P gf (#[.func (.yield lid) #[] #[]] ++ lb) W fun e W' => (∃ v, e = .returned v) ∧ ∃ us, Each W' W.heap.size W'.heap.size us ls ∧ (∀ u ∈ us, Ours Fo W' u) ∧ J (pre ++ us) W' ∧ Round Fo W W'

section
variable {P : Program}
theorem range_all {g : Operand} {ps : Array Tmp} {assign body : Code} {Q : Exit → Act → World → Prop} {a : Act} {w : World} {n : Nat} {gf : Nat} {lb : Array Value} (hg : a.eval g = .func (.func gf) #[] lb) (eg : ∀ args w, (callFunc gf args).run P w = .ok (.enter gf args) w) (hps : ps.size = 1)
    {J : List Value → World → Prop} {Fo : World → Nat → Prop} {B N : Nat} {pre0 : List Value} {ls : List (List Int)} {cap : Nat → Prop} (hP : Party Fo B J) (hB : B ≤ w.heap.size) (hcap : ∀ b, cap b → b < w.heap.size ∧ ¬ Fo w b) (h0 : J pre0 w) (hN : pre0.length + ls.length ≤ N)
    (hseq : SeqT P gf lb cap ls w) (a₁ : Value → Act)
    (hassign : ∀ l u W (K : Act → World → Prop), IsSlice u → K (a₁ u) W → assign.wpIn (Fence.wide.inRound l) (n - 1 - 1) P (Exit.then K (fun _ _ _ => False)) { tmps := (ps.zip #[u]).foldl (fun t (p, v) => t.setIfInBounds p v) a.tmps, defers := [] } W)
    (hbody : ∀ l pre u W, w.heap.size ≤ l → IsSlice u → J pre W → pre.length < N → (∀ k, k < w.heap.size → ¬ Fo w k → W.heap[k]? = w.heap[k]?) →
      body.wpIn (Fence.wide.inRound l) (n - 1 - 1) P (fun e _ W' => e = .normal ∧ J (pre ++ [u]) W' ∧ Round Fo W W') (a₁ u) W)
    (hdone : ∀ D us W', w.heap.size ≤ D → Each W' w.heap.size W'.heap.size us ls → (∀ u ∈ us, Ours Fo W' u) → J (pre0 ++ us) W' → Round Fo w W' → W'.heap[D]? = some (.deferred (some [])) → ¬ Fo W' D → Q .normal { a with defers := { target := .collected D, args := #[] } :: a.defers } W') :
    (Code.rangeFunc g ps assign body).wpIn Fence.wide n P Q a w := by
  refine wpIn_rangeFunc ?_
  intro fn hfn
  rw [show Fence.wide.round = none from rfl]
  obtain ⟨rec, hrec⟩ : ∃ rec : LoopState → Option Code → Loop, rec = fun st pe => { state := st, pending := pe, fn, tmps := a.tmps, params := ps, assign, body, defers := w.heap.size } := ⟨_, rfl⟩
  obtain ⟨W1, hW1⟩ : ∃ W1, (w.alloc (.deferred (some []))).alloc (.loop (rec .ready none)) = W1 := ⟨_, rfl⟩
  have hL1 : W1.heap[w.heap.size + 1]? = some (.loop (rec .ready none)) := by
    rw [← hW1]; have := World.alloc_heap_new (w.alloc (.deferred (some []))) (.loop (rec .ready none)); rwa [World.size_alloc] at this
  have hD1 : W1.heap[w.heap.size]? = some (.deferred (some [])) := by
    rw [← hW1]; exact (Below.heap_alloc _ _ _ (by simp)).trans (World.alloc_heap_new w _)
  have hb1 : Below w.heap.size w W1 := by
    rw [← hW1]; exact ((Below.refl _ w).alloc (Nat.le_refl _) _).alloc (by simp) _
  have hs1 : W1.heap.size = w.heap.size + 2 := by rw [← hW1]; simp
  obtain ⟨hJ1, hR1⟩ := hP.later h0 hb1
  have hnl : ¬ Fo W1 (w.heap.size + 1) := hP.fresh h0 hb1 (by omega)
  have hnd : ¬ Fo W1 w.heap.size := hP.fresh h0 hb1 (Nat.le_refl _)
  refine ⟨w.heap.size + 1, [{ target := .collected w.heap.size, args := #[] }], W1, { target := .fn (.func gf) lb, args := #[.func (.yield (w.heap.size + 1)) #[] #[]] }, W1, gf,
    #[.func (.yield (w.heap.size + 1)) #[] #[]] ++ lb, W1, ?_, ?_, fun _ _ => trivial, ?_, fun h => by simp [Fence.wide] at h, ?_⟩
  · rw [← hW1, hrec]; exact run_enterLoop_outer _ _ _ _ _
  · simp only [resolve, hg]
    simp [go_sem]
  · simp [invoke, go_sem, eg]
  · refine callsIn_wide.2 ?_
    -- the others of the inner party: the outer ones, and this loop's record
    have hP1 : Party (fun W k => k = w.heap.size + 1 ∨ Fo W k) W1.heap.size
        (fun pre W => J pre W ∧ W.heap[w.heap.size + 1]? = some (.loop (rec .ready none)) ∧ ¬ Fo W (w.heap.size + 1) ∧ (∀ k, k < w.heap.size → ¬ Fo w k → W.heap[k]? = w.heap[k]? ∧ ¬ Fo W k)) := by
      refine ⟨fun pre W k ⟨q1, q2, _⟩ hk => ?_, fun pre W W' ⟨q1, q2, q3, q4⟩ hs => ?_⟩
      · rcases hk with rfl | hk
        · exact (Array.getElem?_eq_some_iff.1 q2).1
        · exact hP.bound pre W k q1 hk
      · obtain ⟨r1, r2⟩ := hP.step pre W W' q1 ⟨hs.os, hs.tape, hs.output, hs.size, fun k hk hc => hs.block k hk (by rcases hc with hc | hc; exact .inl (by omega); exact .inr (.inr hc))⟩
        have hlt : w.heap.size + 1 < W.heap.size := (Array.getElem?_eq_some_iff.1 q2).1
        refine ⟨⟨r1, (hs.block _ hlt (.inl (by omega))).trans q2, fun x => q3 (r2 _ x), fun k hk hf => ⟨(hs.block k (by omega) (.inl (by omega))).trans (q4 k hk hf).1, fun x => (q4 k hk hf).2 (r2 _ x)⟩⟩, fun k hk => ?_⟩
        rcases hk with rfl | hk
        · exact .inl rfl
        · exact .inr (r2 k hk)
    refine (hseq (w.heap.size + 1) _ _ pre0 N W1 hb1 hP1 (fun b hb => ?_) hN ?_ ⟨hJ1, hL1, hnl, fun k hk hf => hR1.block k hk hf⟩).mono ?_
    · obtain ⟨c1, c2⟩ := hcap b hb
      rintro (e | e)
      · omega
      · exact (hR1.block b c1 c2).2 e
    · -- a round
      rintro m pre u W ⟨q1, q2, q3, q4⟩ hlen hu
      have hlt : w.heap.size + 1 < W.heap.size := (Array.getElem?_eq_some_iff.1 q2).1
      have hy := run_yield (P := P) (args := #[u]) q2 (by rw [hrec]; simpa using hps.symm)
      rw [hrec] at hy
      refine ⟨fn, _, assign, body, hy, RoundIn.anyDepth rfl (m := n - 1 - 1) (roundIn_of_wpIn hfn (hassign _ u W _ hu ⟨_, run_beginRound q2 (by rw [hrec]), ?_⟩))⟩
      obtain ⟨p1, p2⟩ := hP.put q1 (l := w.heap.size + 1) (by omega) q3 (.loop { rec .ready none with state := .busy })
      have hl2 : (W.putObj (w.heap.size + 1) (.loop { rec .ready none with state := .busy })).heap[w.heap.size + 1]? = some (.loop { rec .ready none with state := .busy }) := World.putObj_heap_same hlt
      refine wpIn_mono (hbody _ pre u _ (by omega) hu p1 hlen (fun k hk hf => (World.putObj_heap_other (by omega)).trans (q4 k hk hf).1)) ?_
      rintro e a3 W3 ⟨rfl, r1, r2⟩
      obtain ⟨s1, s2⟩ := r2.block (w.heap.size + 1) (by simpa using hlt) (fun x => q3 (p2 _ x))
      have hl3 := s1.trans hl2
      have hend := run_endRound (P := P) none hl3
      obtain ⟨t1, t2⟩ := hP.put r1 (l := w.heap.size + 1) (by omega) s2 (.loop (rec .ready none))
      have hlt3 : w.heap.size + 1 < W3.heap.size := (Array.getElem?_eq_some_iff.1 hl3).1
      have hst : ∀ k, k < W.heap.size → k ≠ w.heap.size + 1 → ¬ Fo W k → (W3.putObj (w.heap.size + 1) (.loop (rec .ready none))).heap[k]? = W.heap[k]? ∧ ¬ Fo (W3.putObj (w.heap.size + 1) (.loop (rec .ready none))) k := fun k hk hne hf => by
        obtain ⟨x1, x2⟩ := r2.block k (by simpa using hk) (fun x => hf (p2 _ x))
        exact ⟨(World.putObj_heap_other hne).trans (x1.trans (World.putObj_heap_other hne)), fun x => x2 (t2 _ x)⟩
      refine ⟨_, _, hend, ?_⟩
      have e0 : ({ { rec .ready none with state := .busy } with state := if (none : Option Code).isNone then .ready else .done, pending := none } : Loop) = rec .ready none := by rw [hrec]; rfl
      rw [e0]
      refine ⟨rfl, ⟨t1, World.putObj_heap_same hlt3, fun x => s2 (t2 _ x), fun k hk hf => ?_⟩, r2.os, r2.tape, r2.output, by have := r2.size; simpa using this, fun k hk hf => ?_⟩
      · obtain ⟨x1, x2⟩ := r2.block k (by simp; omega) (fun x => (q4 k hk hf).2 (p2 _ x))
        exact ⟨(World.putObj_heap_other (by omega)).trans (x1.trans ((World.putObj_heap_other (by omega)).trans (q4 k hk hf).1)), fun x => x2 (t2 _ x)⟩
      · obtain ⟨x1, x2⟩ := hst k hk (fun e => hf (.inl e)) (fun e => hf (.inr e))
        exact ⟨x1, fun x => by rcases x with x | x; exact hf (.inl x); exact x2 x⟩
    · -- behind the iterator
      rintro e W2 ⟨⟨v, rfl⟩, us, hE, hO, ⟨q1, q2, q3, q4⟩, hR⟩
      refine ⟨none, _, by have := run_endLoop (P := P) q2 (by rw [hrec]; simp); rw [hrec] at this; exact this, ?_⟩
      obtain ⟨t1, t2⟩ := hP.put q1 (l := w.heap.size + 1) (by omega) q3 (.loop { rec .ready none with state := .exhausted })
      obtain ⟨d1, d2⟩ := hR.block w.heap.size (by omega) (fun x => by rcases x with x | x; omega; exact hnd x)
      have hne : ∀ b, IntRow W2 b → ¬ b = w.heap.size + 1 := fun b ⟨cur, hb⟩ e => by
        subst e
        rw [q2] at hb
        cases hb
      rw [hrec] at t1 t2
      refine hdone w.heap.size us _ (Nat.le_refl _) ((hE.keepsOwn (keeps_put _) hne).mono (by omega) (by simp)) (fun u hu b hb x => hO u hu b hb (.inr (t2 _ x))) t1 ⟨hR.os.trans hb1.os, hR.tape.trans hb1.tape, hR.output.trans hb1.output, by have := hR.size; simp; omega, fun k hk hf => ?_⟩ ((World.putObj_heap_other (by omega)).trans (d1.trans hD1)) (fun x => d2 (.inr (t2 _ x)))
      exact ⟨(World.putObj_heap_other (by omega)).trans (q4 k hk hf).1, fun x => (q4 k hk hf).2 (t2 _ x)⟩
end
end Go.Proofs.Ytappaadadkoamaa
