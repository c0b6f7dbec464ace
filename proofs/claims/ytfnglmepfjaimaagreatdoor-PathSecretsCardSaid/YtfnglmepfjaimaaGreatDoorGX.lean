/- A machine of values over the model: walks through maps; entries written by their stamps. -/
import Derived.Test.YtfnglmepfjaimaaGreatDoorGW
namespace Go.Proofs.YtfnglmepfjaimaaGreatDoor
open Go.RowKit
set_option linter.unusedVariables false
section
variable {P : Program}

/-- An operation that may come to several states. -/
def GSn (P : Program) (o : Oper) (st : St) (S : St → Prop) : Prop := ∀ cx a w K R, Rel P cx st a w → (∀ st', S st' → ∀ a' w', Rel P cx st' a' w' → K a' w') → o.wpIn cx.F cx.nn P a w K R
theorem GSn.gs {o : Oper} {st st' : St} {S : St → Prop} (h : GSn P o st S) (hS : ∀ s, S s → s = st') : GS P o st st' := fun cx a w K R r k => h cx a w K R r fun s hs a' w' r' => k a' w' (hS s hs ▸ r')
theorem GS.gsn {o : Oper} {st st' : St} (h : GS P o st st') : GSn P o st (fun s => s = st') := fun cx a w K R r k => h cx a w K R r fun a' w' r' => k st' rfl a' w' r'

/-! ### an entry written by its stamp -/
def gentryStore (σ : Sto) (gm gs g : G) : Option (Nat × Ob) := match gmap σ gm, gs with
  | some (i, ty, es, clock), .lit (.int _ b) => match es.findIdx? (fun e => (e.2.2 : Int) == b) with
    | some j => match es[j]? with
      | some (k, _, n) => some (i, ⟨ty, [], some (.map (es.set j (k, g, n)) clock)⟩)
      | none => none
    | none => none
  | _, _ => none
theorem findIdx_map {es : List (Value × G × Nat)} {ents : List MapEntry} (h : ents.map (·.born) = es.map (·.2.2)) (b : Int) : ents.findIdx? (fun e => (e.born : Int) == b) = es.findIdx? (fun e => (e.2.2 : Int) == b) := by
  have h1 : (ents.map (·.born)).findIdx? (fun (n : Nat) => (n : Int) == b) = ents.findIdx? (fun e => (e.born : Int) == b) := by rw [List.findIdx?_map]; rfl
  have h2 : (es.map (·.2.2)).findIdx? (fun (n : Nat) => (n : Int) == b) = es.findIdx? (fun e => (e.2.2 : Int) == b) := by rw [List.findIdx?_map]; rfl
  rw [← h1, h, h2]
theorem gs_entryStore {o : Oper} {st : St} {t : TypeId} {x y z : Operand} {i : Nat} {ob : Ob} (ho : o.op = .entryStore t x y z) (hd : ∀ d, o.dst = some d → d < st.n) (hg : gentryStore st.σ (gev st x) (gev st y) (gev st z) = some (i, ob)) : GS P o st ({ st with σ := (i, some ob) :: st.σ }.put o.dst (.lit undef)) := by
  intro cx a w K R ⟨β, h⟩ hK
  refine h.loose.oper (fun c hc => by rw [ho] at hc; cases hc) ?_
  have hrun : ∃ w', (execOp a.eval o).run P w = .ok .skip w' ∧ RelB P cx { st with σ := (i, some ob) :: st.σ } a w' β := by
    unfold gentryStore at hg
    split at hg
    · rename_i i' ty es clock kk b hgm hy
      obtain ⟨ob', bm, ents, hx, hob, rfl, hb, hv, hh, hks, hbs, hsz, hent⟩ := gmap_spec h (h.ev x) hgm
      have vy : a.eval y = .int kk b := by have := h.ev y; rw [hy] at this; exact this.lit_eq
      split at hg
      · rename_i j hj
        split at hg
        · rename_i k g0 n he
          cases hg
          refine ⟨_, ?_, h.writeX hob hb (keeps_put _) (World.putObj_heap_same (Array.getElem?_eq_some_iff.1 hh).1) (XO.map_set hsz hent (i := j) (n := n) (k := k) (g := gev st z) (f := fun e => { e with val := a.eval z }) fun e hx => ?_)⟩
          · unfold execOp
            rw [← findIdx_map hbs] at hj
            have hj' : ents.findIdx? (fun e => (e.born : Int) == b) = some j := by rw [← hj]; exact List.findIdx?_toArray _ ents.toList
            simp only [ho, hv, vy, Instr.entryStore, Sem.run_bind, Result.andThen_ok, run_getObj' hh map_nc, asInt, asIntOf, Sem.run_pure, hj', run_setObj' _ hh map_nc]
          · obtain ⟨h1, h2, _⟩ := hent j e k g0 n hx he
            exact ⟨h1, h2, h.ev z⟩
        · cases hg
      · cases hg
    · cases hg
  obtain ⟨w', hrun, hr⟩ := hrun
  unfold Oper.wp
  rw [hrun]
  exact hK _ _ ⟨β, hr.put o.dst hd (.imm _ _ (.lit _))⟩

/-! ### a walk begins -/
def grange (P : Program) (σ : Sto) (t : TypeId) (gm : G) : Option Xob := match tmap P t with
  | some _ => match gm with
    | .lit (.map none) => some (.iter none 0 [] 0)
    | gm => match gmap σ gm with
      | some (i, _, _, clock) => some (.iter (some i) clock [] clock)
      | none => none
  | none => none
theorem gs_range {o : Oper} {st : St} {t : TypeId} {x : Operand} {ob : Xob} (ho : o.op = .range t x) (hd : ∀ d, o.dst = some d → d < st.n) (hg : grange P st.σ t (gev st x) = some ob) :
    GS P o st ({ st with σ := (st.c, some ⟨t, [], some ob⟩) :: st.σ, c := st.c + 1 }.put o.dst (.ref st.c 0)) := by
  intro cx a w K R ⟨β, h⟩ hK
  refine h.loose.oper (fun c hc => by rw [ho] at hc; cases hc) ?_
  have hrun : ∃ o0, (execOp a.eval o).run P w = .ok (.value (.pointer (some ⟨w.heap.size, 0, none⟩))) (w.alloc o0) ∧ XO β (Av cx.S0 β st.σ) w ob o0 := by
    unfold grange at hg
    split at hg
    · rename_i q ht
      obtain ⟨kt, et⟩ := q
      split at hg
      · rename_i hx
        cases hg
        have hv : a.eval x = .map none := by have := h.ev x; rw [hx] at this; exact this.lit_eq
        refine ⟨_, ?_, ⟨none, rfl, .inl ⟨rfl, rfl⟩⟩⟩
        unfold execOp
        simp only [ho, hv, Sem.run_bind, run_range_nilMap w t kt et (tmap_spec ht), Result.andThen_ok, Sem.run_pure]
      · split at hg
        · rename_i i ty es clock hgm
          cases hg
          obtain ⟨ob', bm, ents, hx, hob, rfl, hb, hv, hh, hks, hbs, hsz, hent⟩ := gmap_spec h (h.ev x) hgm
          refine ⟨_, ?_, ⟨some bm, rfl, .inr ⟨i, bm, 0, rfl, rfl, hb⟩⟩⟩
          unfold execOp
          simp only [ho, hv, Sem.run_bind, run_range_map w t kt et bm ents clock (tmap_spec ht) hh, Result.andThen_ok, Sem.run_pure]
        · cases hg
    · cases hg
  obtain ⟨o0, hrun, hxo⟩ := hrun
  have := h.allocX (w' := w.alloc o0) ((Keeps.refl _ _).alloc _) (b := w.heap.size) (ob := ⟨t, [], some ob⟩) (x := ob) (Nat.le_refl _) (heap_alloc_new w _) rfl rfl hxo (Nat.le_refl st.c)
  unfold Oper.wp
  rw [hrun]
  exact hK _ _ ⟨_, this.put o.dst hd (.ref _ 0 _ 0 (by simp))⟩

/-! ### a walk's step -/
inductive F2 {α β : Type} (R : α → β → Prop) : List α → List β → Prop
  | nil : F2 R [] []
  | cons {a b l m} (h : R a b) (t : F2 R l m) : F2 R (a :: l) (b :: m)
theorem F2.of_get {α β : Type} {R : α → β → Prop} : ∀ {l : List α} {m : List β}, l.length = m.length → (∀ (i : Nat) a b, l[i]? = some a → m[i]? = some b → R a b) → F2 R l m
  | [], [], _, _ => .nil
  | a :: l, b :: m, hl, h => .cons (h 0 a b rfl rfl) (F2.of_get (by simpa using hl) fun i x y hx hy => h (i + 1) x y (by simpa using hx) (by simpa using hy))
  | [], b :: m, hl, _ => by simp at hl
  | a :: l, [], hl, _ => by simp at hl
theorem F2.filter {α β : Type} {R : α → β → Prop} {p : α → Bool} {q : β → Bool} (hpq : ∀ a b, R a b → p a = q b) : ∀ {l : List α} {m : List β}, F2 R l m → F2 R (l.filter p) (m.filter q)
  | _, _, .nil => .nil
  | a :: l, b :: m, .cons h t => by
    rw [List.filter_cons, List.filter_cons, hpq a b h]
    split
    · exact .cons h (F2.filter hpq t)
    · exact F2.filter hpq t
theorem F2.append {α β : Type} {R : α → β → Prop} : ∀ {l l' : List α} {m m' : List β}, F2 R l m → F2 R l' m' → F2 R (l ++ l') (m ++ m')
  | _, _, _, _, .nil, h => h
  | _, _, _, _, .cons h t, h' => .cons h (F2.append t h')
theorem F2.map {α β α' β' : Type} {R : α → β → Prop} {R' : α' → β' → Prop} {f : α → α'} {g : β → β'} (hf : ∀ a b, R a b → R' (f a) (g b)) : ∀ {l : List α} {m : List β}, F2 R l m → F2 R' (l.map f) (m.map g)
  | _, _, .nil => .nil
  | _, _, .cons h t => .cons (hf _ _ h) (F2.map hf t)
theorem F2.length {α β : Type} {R : α → β → Prop} : ∀ {l : List α} {m : List β}, F2 R l m → l.length = m.length
  | _, _, .nil => rfl
  | _, _, .cons _ t => by simp [F2.length t]
theorem F2.get {α β : Type} {R : α → β → Prop} : ∀ {l : List α} {m : List β}, F2 R l m → ∀ {i : Nat} {a : α}, l[i]? = some a → ∃ b, m[i]? = some b ∧ R a b
  | _, _, .nil, i, a, h => by simp at h
  | _, _, .cons h t, 0, a, hi => by simp at hi; subst hi; exact ⟨_, rfl, h⟩
  | _, _, .cons h t, i + 1, a, hi => by
    obtain ⟨b, h1, h2⟩ := F2.get t (by simpa using hi)
    exact ⟨b, by simpa using h1, h2⟩
theorem F2.isEmpty {α β : Type} {R : α → β → Prop} {l : List α} {m : List β} (h : F2 R l m) : l.isEmpty = m.isEmpty := by cases h <;> rfl
theorem F2.all {α β : Type} {R : α → β → Prop} {p : α → Bool} {q : β → Bool} (hpq : ∀ a b, R a b → p a = q b) : ∀ {l : List α} {m : List β}, F2 R l m → l.all p = m.all q
  | _, _, .nil => rfl
  | _, _, .cons h t => by rw [List.all_cons, List.all_cons, hpq _ _ h, F2.all hpq t]

/-- What a walk's next step may be; none: it ends. -/
def gcands (es : List (Value × G × Nat)) (since : Nat) (seen : List Nat) : List (Option (Value × G × Nat)) :=
  let left := es.filter fun e => !seen.contains e.2.2
  let old := left.filter fun e => decide (e.2.2 < since)
  let new := left.filter fun e => decide (e.2.2 ≥ since)
  (if old.isEmpty then [none] else []) ++ (old ++ new).map some
/-- A walk through a map: its number, the map's type, what is asked of a step. -/
def giter (σ : Sto) : G → Option (Nat × TypeId × Option Nat × Nat × List Nat × Nat)
  | .ref i 0 => match sget σ i with
    | some ⟨t, _, some (.iter m since seen last)⟩ => some (i, t, m, since, seen, last)
    | _ => none
  | _ => none
/-- The states behind a step. -/
def NextTo (st : St) (d : Option Tmp) (i : Nat) (t : TypeId) (m since clock : Nat) (seen : List Nat) (cs : List (Option (Value × G × Nat))) (s : St) : Prop :=
  (none ∈ cs ∧ s = st.put d (.tup [.lit (.bool false)])) ∨ ∃ k g n, some (k, g, n) ∈ cs ∧ s = { st with σ := (i, some ⟨t, [], some (.iter (some m) since (seen ++ [n]) clock)⟩) :: st.σ }.put d (.tup [.lit (.bool true), glit k, g])
theorem iter_spec {cx : Cx} {st : St} {a : Act} {w : World} {β : Bm} (h : RelB P cx st a w β) {g : G} {v : Value} {i : Nat} {t : TypeId} {m : Option Nat} {since last : Nat} {seen : List Nat} (hv : RV β (Av cx.S0 β st.σ) w g v) (hg : giter st.σ g = some (i, t, m, since, seen, last)) :
    ∃ ob b mb, sget st.σ i = some ob ∧ ob.t = t ∧ β i = some (some (b, 0)) ∧ v = .pointer (some ⟨b, 0, none⟩) ∧ w.heap[b]? = some (.mapIter mb since seen.toArray last) ∧ ((m = none ∧ mb = none) ∨ ∃ j b' C, m = some j ∧ mb = some b' ∧ β j = some (some (b', C))) := by
  unfold giter at hg
  split at hg
  · rename_i i'
    split at hg
    · rename_i t' l m' since' seen' last' ho
      cases hg
      obtain ⟨b, C, hb, rfl⟩ := hv.ref_addr
      rcases h.ob i _ ho with ⟨_, _, h3⟩ | ⟨b', x, o, h1, h2, h3, h4, h5⟩ | ⟨b', C', cur, h1, _⟩
      · rcases h3 with h3 | h3 <;> cases h3
      · cases h1
        rw [h3] at hb
        cases hb
        obtain ⟨mb, rfl, h6⟩ := h5
        exact ⟨_, _, mb, ho, rfl, h3, rfl, h4, h6⟩
      · cases h1
    · cases hg
  · cases hg
theorem choose_run (n : Nat) (hn : 0 < n) (w : World) : ∃ (j : Nat) (w1 : World), j < n ∧ Keeps (fun _ => False) w w1 ∧ w1.heap = w.heap ∧ (choose (Question.mapNext n)).run P w = .ok j w1 := by
  by_cases hf : n ≤ 1
  · exact ⟨0, w, hn, Keeps.refl _ _, rfl, by simp [choose, Sem.run, Question.forced, hf]⟩
  · exact ⟨_, w.drew, Nat.mod_lt _ hn, ⟨rfl, rfl, rfl, Nat.le_refl _, fun _ _ _ => rfl⟩, rfl, by
      simp only [choose, Sem.run, Question.forced, decide_eq_true_eq, hf, if_false, Question.cut]
      rfl⟩
def gnextOk (es : List (Value × G × Nat)) (seen : List Nat) (last : Nat) : Bool := !(!seen.isEmpty && !es.isEmpty && es.all fun e => decide (e.2.2 ≥ last))
theorem gs_next {o : Oper} {st : St} {x : Operand} {i j clock since last : Nat} {t ty : TypeId} {seen : List Nat} {es : List (Value × G × Nat)} (ho : o.op = .next x false) (hd : ∀ d, o.dst = some d → d < st.n) (hi : giter st.σ (gev st x) = some (i, t, some j, since, seen, last)) (hm : gmap st.σ (.mref j) = some (j, ty, es, clock)) (hok : gnextOk es seen last = true) :
    GSn P o st (NextTo st o.dst i t j since clock seen (gcands es since seen)) := by
  intro cx a w K R ⟨β, h⟩ hK
  refine h.loose.oper (fun c hc => by rw [ho] at hc; cases hc) ?_
  obtain ⟨ob, b, mb, hob, rfl, hb, hv, hh, hmb⟩ := iter_spec h (h.ev x) hi
  obtain ⟨b', rfl, hb'⟩ : ∃ b', mb = some b' ∧ ∃ C, β j = some (some (b', C)) := by
    rcases hmb with ⟨h1, _⟩ | ⟨j', b', C, h1, h2, h3⟩
    · cases h1
    · cases h1; exact ⟨b', h2, C, h3⟩
  obtain ⟨C, hb'⟩ := hb'
  obtain ⟨ob2, bb, ents, _, hob2, rfl, hb2, _, hh2, _, _, hsz, hent⟩ := gmap_spec h (.mref j b' C hb') hm
  obtain rfl : b' = bb := by rw [hb2] at hb'; cases hb'; rfl
  have hF : F2 (fun (e : MapEntry) (q : Value × G × Nat) => e.key = q.1 ∧ e.born = q.2.2 ∧ RV β (Av cx.S0 β st.σ) w q.2.1 e.val) ents.toList es := F2.of_get (by simpa using hsz) fun k e q he hq => by
    obtain ⟨k', g, n⟩ := q
    exact hent k e k' g n (by simpa using he) hq
  have hF1 := hF.filter (p := fun e => !(seen.toArray).contains e.born) (q := fun e => !seen.contains e.2.2) (fun e q ⟨_, h2, _⟩ => by simp [h2])
  have hF2 := hF1.filter (p := fun e => decide (e.born < since)) (q := fun e => decide (e.2.2 < since)) (fun e q ⟨_, h2, _⟩ => by simp [h2])
  have hF3 := hF1.filter (p := fun e => decide (e.born ≥ since)) (q := fun e => decide (e.2.2 ≥ since)) (fun e q ⟨_, h2, _⟩ => by simp [h2])
  have htest : (!(seen.toArray).isEmpty && !ents.isEmpty && ents.all (fun x => decide (x.born ≥ last))) = false := by
    have e1 : (seen.toArray).isEmpty = seen.isEmpty := by simp
    have e2 : ents.isEmpty = es.isEmpty := by rw [← hF.isEmpty]; simp
    have e3 : ents.all (fun x => decide (x.born ≥ last)) = es.all (fun e => decide (e.2.2 ≥ last)) := by
      rw [← hF.all (p := fun x => decide (x.born ≥ last)) (fun e q ⟨_, h2, _⟩ => by simp [h2])]; simp
    rw [e1, e2, e3]
    unfold gnextOk at hok
    simpa only [Bool.not_eq_true'] using hok
  -- the candidates
  obtain ⟨cs, hcs⟩ : ∃ cs : Array (Option MapEntry), cs = (if ((ents.filter fun e => !(seen.toArray).contains e.born).filter fun x => decide (x.born < since)).isEmpty then #[none] else #[]) ++ (((ents.filter fun e => !(seen.toArray).contains e.born).filter fun x => decide (x.born < since)) ++ ((ents.filter fun e => !(seen.toArray).contains e.born).filter fun x => decide (x.born ≥ since))).map some := ⟨_, rfl⟩
  have hFc : F2 (fun (e : Option MapEntry) (q : Option (Value × G × Nat)) => (e = none ∧ q = none) ∨ ∃ e' q', e = some e' ∧ q = some q' ∧ e'.key = q'.1 ∧ e'.born = q'.2.2 ∧ RV β (Av cx.S0 β st.σ) w q'.2.1 e'.val) cs.toList (gcands es since seen) := by
    rw [hcs]
    unfold gcands
    simp only [Array.toList_append, Array.toList_map, Array.toList_filter]
    have e0 : ((ents.filter fun e => !(seen.toArray).contains e.born).filter fun x => decide (x.born < since)).isEmpty = ((es.filter fun e => !seen.contains e.2.2).filter fun e => decide (e.2.2 < since)).isEmpty := by
      rw [← hF2.isEmpty, ← Array.toList_filter, ← Array.toList_filter, Array.isEmpty_toList]
    rw [e0]
    refine F2.append ?_ ((hF2.append hF3).map fun e q hq => .inr ⟨e, q, rfl, rfl, hq⟩)
    split
    · exact .cons (.inl ⟨rfl, rfl⟩) .nil
    · exact .nil
  have hpos : 0 < cs.size := by
    rw [hcs]
    split
    · simp; omega
    · rename_i hne
      generalize ((ents.filter fun e => !(seen.toArray).contains e.born).filter fun x => decide (x.born < since)) = A at hne
      have : 0 < A.size := by
        rcases Nat.eq_zero_or_pos A.size with h0 | h0
        · exact absurd (by simp [Array.isEmpty, h0]) hne
        · exact h0
      simp only [Array.size_append, Array.size_map, List.size_toArray, List.length_nil]
      omega
  obtain ⟨r, w1, hr, hk1, hw1, hch⟩ := choose_run (P := P) cs.size hpos w
  have hrr : cs.toList[r]? = some (cs[r]'hr) := by simp
  obtain ⟨q, hq, hRq⟩ := hFc.get hrr
  have hh1 : w1.heap[b]? = some (.mapIter (some b') since seen.toArray last) := by rw [hw1]; exact hh
  have hcr : cs[r]? = some (cs[r]'hr) := by simp
  have hsync : ∀ {X : Sem Value}, X = X := fun {X} => rfl
  rcases hRq with ⟨h1, rfl⟩ | ⟨e', ⟨k', g', n'⟩, h1, rfl, h2, h3, h4⟩
  · have hrun : (execOp a.eval o).run P w = .ok (.value (.tuple #[.bool false])) w1 := by
      unfold execOp
      simp only [ho, hv, Instr.next, Sem.run_bind, run_getObj' hh iter_nc, Result.andThen_ok, run_getObj' hh2 map_nc, htest, Bool.false_eq_true, if_false, ← hcs, hch, hcr, h1, Sem.run_pure]
    unfold Oper.wp
    rw [hrun]
    refine hK _ (.inl ⟨List.mem_of_getElem? hq, rfl⟩) _ _ ⟨β, (h.world hk1).put o.dst hd (.tup _ _ rfl fun i g u hg hu => ?_)⟩
    match i with
    | 0 => simp at hg hu; subst hg; subst hu; exact .imm _ _ (.lit _)
    | n + 1 => simp at hg
  · have hrun : (execOp a.eval o).run P w = .ok (.value (.tuple #[.bool true, e'.key, e'.val])) (w1.putObj b (.mapIter (some b') since (seen.toArray.push e'.born) clock)) := by
      unfold execOp
      simp only [ho, hv, Instr.next, Sem.run_bind, run_getObj' hh iter_nc, Result.andThen_ok, run_getObj' hh2 map_nc, htest, Bool.false_eq_true, if_false, ← hcs, hch, hcr, h1, run_setObj' _ hh1 iter_nc, Sem.run_pure]
    unfold Oper.wp
    rw [hrun]
    have hW := h.world hk1
    have hX := hW.writeX (x := .iter (some j) since (seen ++ [n']) clock) hob hb (keeps_put (.mapIter (some b') since (seen.toArray.push e'.born) clock)) (World.putObj_heap_same (Array.getElem?_eq_some_iff.1 hh1).1) ⟨some b', by rw [h3]; simp, .inr ⟨j, b', C, rfl, rfl, hb'⟩⟩
    have hkk : Keeps (Av cx.S0 β st.σ) w (w1.putObj b (.mapIter (some b') since (seen.toArray.push e'.born) clock)) := (hk1.mono fun _ _ x => x.elim).trans ((keeps_put _).mono fun b0 _ e => by subst e; exact .inr ⟨i, ob, 0, hob, hb⟩)
    have hAv : ∀ b0, b0 < w.heap.size → Av cx.S0 β ((i, some ⟨ob.t, [], some (.iter (some j) since (seen ++ [n']) clock)⟩) :: st.σ) b0 → Av cx.S0 β st.σ b0 := by
      rintro b0 _ (hx | ⟨k, o', D, h5, h6⟩)
      · exact .inl hx
      · rw [sget_cons] at h5
        split at h5
        · subst_vars; exact .inr ⟨_, ob, D, hob, h6⟩
        · exact .inr ⟨k, o', D, h5, h6⟩
    refine hK _ (.inr ⟨k', g', n', List.mem_of_getElem? hq, rfl⟩) _ _ ⟨β, hX.put o.dst hd (.tup _ _ rfl fun i g u hg hu => ?_)⟩
    match i with
    | 0 => simp at hg hu; subst hg; subst hu; exact .imm _ _ (.lit _)
    | 1 => simp at hg hu; subst hg; subst hu; rw [h2]; exact .imm _ _ (.glit _ _ _)
    | 2 => simp at hg hu; subst hg; subst hu; exact h4.step (fun _ _ x => x) hAv hkk
    | n + 3 => simp at hg
theorem gs_next0 {o : Oper} {st : St} {x : Operand} {i since last : Nat} {t : TypeId} {seen : List Nat} (ho : o.op = .next x false) (hd : ∀ d, o.dst = some d → d < st.n) (hi : giter st.σ (gev st x) = some (i, t, none, since, seen, last)) : GS P o st (st.put o.dst (.tup [.lit (.bool false)])) := by
  intro cx a w K R ⟨β, h⟩ hK
  refine h.loose.oper (fun c hc => by rw [ho] at hc; cases hc) ?_
  obtain ⟨ob, b, mb, hob, rfl, hb, hv, hh, hmb⟩ := iter_spec h (h.ev x) hi
  rcases hmb with ⟨_, rfl⟩ | ⟨_, _, _, h1, _⟩
  · have hrun : (execOp a.eval o).run P w = .ok (.value (.tuple #[.bool false])) w := by
      unfold execOp
      simp only [ho, hv, Instr.next, Sem.run_bind, run_getObj' hh iter_nc, Result.andThen_ok, Sem.run_pure]
    unfold Oper.wp
    rw [hrun]
    refine hK _ _ ⟨β, h.put o.dst hd (.tup _ _ rfl fun i g u hg hu => ?_)⟩
    match i with
    | 0 => simp at hg hu; subst hg; subst hu; exact .imm _ _ (.lit _)
    | n + 1 => simp at hg
  · cases h1

/-- The entry that a walk stepped to. -/
def gentry (σ : Sto) (g : G) : Option G := match giter σ g with
  | some (_, _, some j, _, seen, last) => match gmap σ (.mref j), seen.getLast? with
    | some (_, _, es, clock), some n => bif Nat.beq clock last then
        match es.find? (fun e => Nat.beq e.2.2 n) with
        | some (k, g, _) => some (.tup [glit k, g])
        | none => none
      else none
    | _, _ => none
  | _ => none
theorem nat_beq (a b : Nat) : (a == b) = Nat.beq a b := by
  cases h : Nat.beq a b with
  | true => rw [Nat.eq_of_beq_eq_true h]; simp
  | false => exact beq_eq_false_iff_ne.2 fun e => by rw [e, Nat.beq_refl] at h; cases h
theorem find_F2 {α β : Type} {R : α → β → Prop} {p : α → Bool} {q : β → Bool} (hpq : ∀ a b, R a b → p a = q b) : ∀ {l : List α} {m : List β}, F2 R l m → ∀ {b}, m.find? q = some b → ∃ a, l.find? p = some a ∧ R a b
  | _, _, .nil, b, h => by simp at h
  | _, _, .cons h t, b, hb => by
    rw [List.find?_cons] at hb ⊢
    rw [hpq _ _ h]
    split at hb
    · cases hb; exact ⟨_, rfl, h⟩
    · exact find_F2 hpq t hb
theorem gs_entry {o : Oper} {st : St} {x : Operand} {g : G} (ho : o.op = .entry x) (hd : ∀ d, o.dst = some d → d < st.n) (hg : gentry st.σ (gev st x) = some g) : GS P o st (st.put o.dst g) := by
  intro cx a w K R ⟨β, h⟩ hK
  refine h.loose.oper (fun c hc => by rw [ho] at hc; cases hc) ?_
  have hrun : ∃ v, (execOp a.eval o).run P w = .ok (.value v) w ∧ RV β (Av cx.S0 β st.σ) w g v := by
    unfold gentry at hg
    split at hg
    · rename_i i t j since seen last hi
      split at hg
      · rename_i j' ty es clock n hm hn
        cases hc : Nat.beq clock last with
        | false => rw [hc] at hg; cases hg
        | true =>
          rw [hc] at hg
          simp only [cond_true] at hg
          have := Nat.eq_of_beq_eq_true hc
          subst this
          obtain ⟨ob, b, mb, hob, rfl, hb, hv, hh, hmb⟩ := iter_spec h (h.ev x) hi
          obtain ⟨b', rfl, C, hb'⟩ : ∃ b', mb = some b' ∧ ∃ C, β j = some (some (b', C)) := by
            rcases hmb with ⟨h1, _⟩ | ⟨j', b', C, h1, h2, h3⟩
            · cases h1
            · cases h1; exact ⟨b', h2, C, h3⟩
          obtain ⟨ob2, bb, ents, hjj, hob2, rfl, hb2, _, hh2, _, _, hsz, hent⟩ := gmap_spec h (.mref j b' C hb') hm
          cases hjj
          obtain rfl : b' = bb := by rw [hb2] at hb'; cases hb'; rfl
          have hF : F2 (fun (e : MapEntry) (q : Value × G × Nat) => e.key = q.1 ∧ e.born = q.2.2 ∧ RV β (Av cx.S0 β st.σ) w q.2.1 e.val) ents.toList es := F2.of_get (by simpa using hsz) fun k e q he hq => by
            obtain ⟨k', g, n⟩ := q
            exact hent k e k' g n (by simpa using he) hq
          split at hg
          · rename_i k g' n' hf
            cases hg
            obtain ⟨e, he, h1, h2, h3⟩ := find_F2 (p := fun e => e.born == n) (fun e q ⟨_, h2, _⟩ => by rw [h2]; exact nat_beq _ _) hF hf
            have he' : ents.find? (fun e => e.born == n) = some e := by rw [← he]; simp
            have hbk : (seen.toArray).back? = some n := by simpa using hn
            refine ⟨.tuple #[e.key, e.val], ?_, rv_two (by rw [h1]; exact .imm _ _ (.glit _ _ _)) h3⟩
            unfold execOp
            simp only [ho, hv, Instr.entry, Sem.run_bind, run_getObj' hh iter_nc, Result.andThen_ok, hbk, run_getObj' hh2 map_nc, bne_self_eq_false, Bool.false_eq_true, if_false, he', Sem.run_pure]
          · cases hg
      · cases hg
    · cases hg
  obtain ⟨v, hrun, hr⟩ := hrun
  unfold Oper.wp
  rw [hrun]
  exact hK _ _ ⟨β, h.put o.dst hd hr⟩
end
end Go.Proofs.YtfnglmepfjaimaaGreatDoor
