/- A machine of values over the model: maps as objects of the walk: made, looked up, written, their entries gone through. -/
import Derived.Test.YtfnglmepfjaimaaGreatDoorGQ
import Derived.MapKept
namespace Go.Proofs.YtfnglmepfjaimaaGreatDoor
open Go.RowKit
set_option linter.unusedVariables false
section
variable {P : Program}

/-! ### keys -/
def know (d : TypeDesc) (k : Value) : List Value → Nat → Option (Option Nat)
  | [], _ => some none
  | u :: r, n => match Instr.sameNow d k u with
    | some true => some (some n)
    | some false => know d k r (n + 1)
    | none => none
def kask (P : Program) (kt : TypeId) (k : Value) : List Value → Nat → Option (Option Nat)
  | [], _ => some none
  | u :: r, n => match spure P (Op.equal kt k u) with
    | some true => some (some n)
    | some false => kask P kt k r (n + 1)
    | none => none
theorem know_none {d : TypeDesc} {k : Value} : ∀ {es : List MapEntry} {n : Nat}, know d k (es.map (·.key)) n = none → Instr.findNow d k es n = none
  | [], n, h => by cases h
  | e :: r, n, h => by
    simp only [List.map_cons, know] at h
    unfold Instr.findNow
    split at h
    · cases h
    · rename_i hs; rw [hs]; exact know_none h
    · rename_i hs; rw [hs]
theorem know_some {d : TypeDesc} {k : Value} : ∀ {es : List MapEntry} {n : Nat} {q : Option Nat}, know d k (es.map (·.key)) n = some q →
    ∃ p, Instr.findNow d k es n = some p ∧ ((q = none ∧ p = none) ∨ ∃ i e, q = some (n + i) ∧ es[i]? = some e ∧ p = some (n + i, e.val))
  | [], n, q, h => by simp [know] at h; subst h; exact ⟨none, rfl, .inl ⟨rfl, rfl⟩⟩
  | e :: r, n, q, h => by
    simp only [List.map_cons, know] at h
    unfold Instr.findNow
    split at h
    · rename_i hs
      cases h
      rw [hs]
      exact ⟨_, rfl, .inr ⟨0, e, rfl, rfl, rfl⟩⟩
    · rename_i hs
      rw [hs]
      obtain ⟨p, h1, h2⟩ := know_some h
      refine ⟨p, h1, ?_⟩
      rcases h2 with h2 | ⟨i, e', h3, h4, h5⟩
      · exact .inl h2
      · exact .inr ⟨i + 1, e', by rw [h3]; congr 1; omega, by simpa using h4, by rw [h5]; congr 2; omega⟩
    · cases h
theorem kask_some {kt : TypeId} {k : Value} {w : World} : ∀ {es : List MapEntry} {n : Nat} {q : Option Nat}, kask P kt k (es.map (·.key)) n = some q →
    ∃ p, (Instr.findAsking kt k es n).run P w = .ok p w ∧ ((q = none ∧ p = none) ∨ ∃ i e, q = some (n + i) ∧ es[i]? = some e ∧ p = some (n + i, e.val))
  | [], n, q, h => by simp [kask] at h; subst h; exact ⟨none, by simp [Instr.findAsking], .inl ⟨rfl, rfl⟩⟩
  | e :: r, n, q, h => by
    simp only [List.map_cons, kask] at h
    unfold Instr.findAsking
    split at h
    · rename_i hs
      cases h
      have := spure_run hs w
      exact ⟨_, by simp [this], .inr ⟨0, e, rfl, rfl, rfl⟩⟩
    · rename_i hs
      have := spure_run hs w
      obtain ⟨p, h1, h2⟩ := kask_some (w := w) h
      refine ⟨p, by simp [this, h1], ?_⟩
      rcases h2 with h2 | ⟨i, e', h3, h4, h5⟩
      · exact .inl h2
      · exact .inr ⟨i + 1, e', by rw [h3]; congr 1; omega, by simpa using h4, by rw [h5]; congr 2; omega⟩
    · cases h
/-- Which entry a key has. -/
def gkey (P : Program) (kt : TypeId) (k : Value) (ks : List Value) : Option (Option Nat) := match P.underlying kt with
  | some d => match know d k ks 0 with
    | some r => some r
    | none => kask P kt k ks 0
  | none => none
theorem gkey_run {kt : TypeId} {k : Value} {w : World} {es : List MapEntry} {q : Option Nat} (h : gkey P kt k (es.map (·.key)) = some q) :
    ∃ p, (Instr.findKey kt k es).run P w = .ok p w ∧ ((q = none ∧ p = none) ∨ ∃ i e, q = some i ∧ es[i]? = some e ∧ p = some (i, e.val)) := by
  unfold gkey at h
  split at h
  · rename_i d hd
    unfold Instr.findKey
    simp only [Sem.run_bind, run_underlying hd, Result.andThen_ok]
    split at h
    · rename_i r hr
      cases h
      obtain ⟨p, h1, h2⟩ := know_some hr
      rw [h1]
      refine ⟨p, by simp, ?_⟩
      simpa using h2
    · rename_i hr
      rw [know_none hr]
      obtain ⟨p, h1, h2⟩ := kask_some (w := w) h
      exact ⟨p, h1, by simpa using h2⟩
  · cases h
def gchk (P : Program) (b : Bool) (kt : TypeId) (k : Value) : Bool := (spure P (Instr.checkKey b 10000 kt k)).isSome
theorem gchk_run {b : Bool} {kt : TypeId} {k : Value} (h : gchk P b kt k = true) (w : World) : (Instr.checkKey b 10000 kt k).run P w = .ok () w := by
  unfold gchk at h
  obtain ⟨u, hu⟩ := Option.isSome_iff_exists.1 h
  exact spure_run hu w
def tmap (P : Program) (t : TypeId) : Option (TypeId × TypeId) := match P.underlying t with
  | some (.map k e) => some (k, e)
  | _ => none
theorem tmap_spec {t k e : TypeId} (h : tmap P t = some (k, e)) : P.underlying t = some (.map k e) := by
  unfold tmap at h
  split at h
  · cases h; assumption
  · cases h

/-! ### objects -/
theorem run_getObj' {w : World} {r : Nat} {o : Obj} (h : w.heap[r]? = some o) (hn : ∀ c e f, o ≠ .cells c e f) : (getObj r).run P w = .ok o w := by
  cases o with
  | cells c e f => exact absurd rfl (hn c e f)
  | _ => simp [getObj, Sem.run, h]
theorem run_setObj' {w : World} {r : Nat} {o : Obj} (o' : Obj) (h : w.heap[r]? = some o) (hn : ∀ c e f, o ≠ .cells c e f) : (setObj r o').run P w = .ok () (w.putObj r o') := by
  cases o with
  | cells c e f => exact absurd rfl (hn c e f)
  | _ => simp [setObj, Sem.run, h, World.putObj]
theorem map_nc {es : Array MapEntry} {c : Nat} : ∀ a e f, (Obj.map es c) ≠ .cells a e f := fun _ _ _ h => by cases h
theorem iter_nc {m : Option Nat} {s : Nat} {q : Array Nat} {c : Nat} : ∀ a e f, (Obj.mapIter m s q c) ≠ .cells a e f := fun _ _ _ h => by cases h
theorem run_newObj' {w : World} {o : Obj} : (newObj o).run P w = .ok w.heap.size (w.alloc o) := rfl
theorem keeps_put {w : World} {l : Nat} (o : Obj) : Keeps (fun b => b = l) w (w.putObj l o) := ⟨rfl, rfl, rfl, by simp, fun k _ hk => World.putObj_heap_other hk⟩
/-- The map that a value names. -/
def gmap (σ : Sto) : G → Option (Nat × TypeId × List (Value × G × Nat) × Nat)
  | .mref i => match sget σ i with
    | some ⟨t, _, some (.map es clock)⟩ => some (i, t, es, clock)
    | _ => none
  | _ => none
theorem gmap_spec {cx : Cx} {st : St} {a : Act} {w : World} {β : Bm} (h : RelB P cx st a w β) {g : G} {v : Value} {i : Nat} {t : TypeId} {es : List (Value × G × Nat)} {clock : Nat} (hv : RV β (Av cx.S0 β st.σ) w g v) (hg : gmap st.σ g = some (i, t, es, clock)) :
    ∃ ob b ents, g = .mref i ∧ sget st.σ i = some ob ∧ ob.t = t ∧ β i = some (some (b, 0)) ∧ v = .map (some b) ∧ w.heap[b]? = some (.map ents clock) ∧ ents.toList.map (·.key) = es.map (·.1) ∧ ents.toList.map (·.born) = es.map (·.2.2) ∧ ents.size = es.length ∧
      ∀ (j : Nat) (e : MapEntry) (k : Value) (g : G) (n : Nat), ents[j]? = some e → es[j]? = some (k, g, n) → e.key = k ∧ e.born = n ∧ RV β (Av cx.S0 β st.σ) w g e.val := by
  unfold gmap at hg
  split at hg
  · rename_i i'
    split at hg
    · rename_i t' l es' clock' ho
      cases hg
      obtain ⟨b, C, hb, rfl⟩ := hv.mref_form
      rcases h.ob i _ ho with ⟨_, _, h3⟩ | ⟨b', x, o, h1, h2, h3, h4, h5⟩ | ⟨b', C', cur, h1, _⟩
      · rcases h3 with h3 | h3 <;> cases h3
      · cases h1
        rw [h3] at hb
        cases hb
        obtain ⟨ents, rfl, e2, e3⟩ := h5
        have key : ∀ (j : Nat) (e : MapEntry) (k : Value) (g : G) (n : Nat), ents[j]? = some e → es[j]? = some (k, g, n) → e.key = k ∧ e.born = n ∧ RV β (Av cx.S0 β st.σ) w g e.val := fun j e k g n he hj => by
          obtain ⟨e', h6, h7, h8, h9⟩ := e3 j k g n hj
          rw [he] at h6; cases h6
          exact ⟨h7, h8, h9⟩
        refine ⟨_, _, ents, rfl, ho, rfl, h3, rfl, h4, ?_, ?_, e2, key⟩
        · apply List.ext_getElem?
          intro j
          rw [List.getElem?_map, List.getElem?_map, Array.getElem?_toList]
          cases hj : es[j]? with
          | none =>
            have : es.length ≤ j := List.getElem?_eq_none_iff.1 hj
            simp [show ents.size ≤ j by omega]
          | some q =>
            obtain ⟨k, g, n⟩ := q
            obtain ⟨e', h6, h7, _⟩ := e3 j k g n hj
            rw [h6]; simp [h7]
        · apply List.ext_getElem?
          intro j
          rw [List.getElem?_map, List.getElem?_map, Array.getElem?_toList]
          cases hj : es[j]? with
          | none =>
            have : es.length ≤ j := List.getElem?_eq_none_iff.1 hj
            simp [show ents.size ≤ j by omega]
          | some q =>
            obtain ⟨k, g, n⟩ := q
            obtain ⟨e', h6, h7, h8, _⟩ := e3 j k g n hj
            rw [h6]; simp [h8]
      · cases h1
    · cases hg
  · cases hg

/-! ### made -/
def gmakeMap (P : Program) (t : TypeId) (r : Option G) : Bool := match r with
  | none => true
  | some (.lit (.int _ _)) => (tmap P t).isSome
  | _ => false
theorem gs_makeMap {o : Oper} {st : St} {t : TypeId} {r : Option Operand} (ho : o.op = .makeMap t r) (hd : ∀ d, o.dst = some d → d < st.n) (hg : gmakeMap P t (r.map (gev st)) = true) :
    GS P o st ({ st with σ := (st.c, some ⟨t, [], some (.map [] 0)⟩) :: st.σ, c := st.c + 1 }.put o.dst (.mref st.c)) := by
  intro cx a w K R ⟨β, h⟩ hK
  have hrun : (execOp a.eval o).run P w = .ok (.value (.map (some w.heap.size))) (w.alloc (.map #[] 0)) := by
    unfold execOp
    simp only [ho]
    cases r with
    | none => simp only [Option.map_none, Instr.makeMap, Sem.run_bind, run_newObj', Result.andThen_ok, Sem.run_pure]
    | some x =>
      simp only [Option.map_some] at hg
      unfold gmakeMap at hg
      split at hg
      · rename_i hh; cases hh
      · rename_i k n hx
        obtain ⟨⟨kt, et⟩, ht⟩ := Option.isSome_iff_exists.1 hg
        have hv : a.eval x = .int k n := by
          have := h.ev x
          simp only [Option.some.injEq] at hx
          rw [hx] at this
          exact this.lit_eq
        simp only [Option.map_some, Instr.makeMap, hv, Sem.run_bind, run_underlying (tmap_spec ht), Result.andThen_ok, run_newObj', Sem.run_pure, asInt, asIntOf]
      · cases hg
  have := h.allocX (w' := w.alloc (.map #[] 0)) ((Keeps.refl _ _).alloc _) (b := w.heap.size) (ob := ⟨t, [], some (.map [] 0)⟩) (x := .map [] 0) (Nat.le_refl _) (heap_alloc_new w _) rfl rfl ⟨#[], rfl, rfl, by simp⟩ (Nat.le_refl st.c)
  refine h.loose.oper (fun c hc => by rw [ho] at hc; cases hc) ?_
  unfold Oper.wp
  rw [hrun]
  exact hK _ _ ⟨_, this.put o.dst hd (.mref _ _ 0 (by simp))⟩

/-! ### looked up -/
def glookup (P : Program) (σ : Sto) (t : TypeId) (ok : Bool) (gm gk : G) : Option G := match tmap P t, gval gk with
  | some (kt, et), some k =>
    match gm with
    | .lit (.map none) => bif gchk P true kt k && (P.underlying kt).isSome then ((P.info? et).bind (·.zero)).map fun z => bif ok then .tup [glit z, .lit (.bool false)] else glit z else none
    | gm => match gmap σ gm with
      | some (i, _, es, _) => bif gchk P es.isEmpty kt k then
          match gkey P kt k (es.map (·.1)) with
          | some none => ((P.info? et).bind (·.zero)).map fun z => bif ok then .tup [glit z, .lit (.bool false)] else glit z
          | some (some j) => (es[j]?).map fun e => bif ok then .tup [e.2.1, .lit (.bool true)] else e.2.1
          | none => none
        else none
      | none => none
  | _, _ => none
theorem run_zeroOf {et : TypeId} {z : Value} {w : World} (h : (P.info? et).bind (·.zero) = some z) : (zeroValue et).run P w = .ok z w := by
  rw [Option.bind_eq_some_iff] at h
  obtain ⟨i, hi, hz⟩ := h
  simp [zeroValue, typeInfo, hi, hz]
theorem rv_ok {β : Bm} {S : Nat → Prop} {w : World} {g : G} {v : Value} {t : Bool} (ok : Bool) (h : RV β S w g v) : RV β S w (bif ok then .tup [g, .lit (.bool t)] else g) (if ok then .tuple #[v, .bool t] else v) := by
  cases ok with
  | false => exact h
  | true =>
    refine .tup _ _ rfl fun i g' u hg hu => ?_
    match i with
    | 0 => simp at hg hu; subst hg; subst hu; exact h
    | 1 => simp at hg hu; subst hg; subst hu; exact .imm _ _ (.lit _)
    | n + 2 => simp at hg
theorem glookup_run {cx : Cx} {st : St} {a : Act} {w : World} {β : Bm} (h : RelB P cx st a w β) {t : TypeId} {ok : Bool} {gm gk g : G} {vm vk : Value} (hm : RV β (Av cx.S0 β st.σ) w gm vm) (hk : RV β (Av cx.S0 β st.σ) w gk vk) (hg : glookup P st.σ t ok gm gk = some g) :
    ∃ v, (Instr.lookup t vm vk ok).run P w = .ok v w ∧ RV β (Av cx.S0 β st.σ) w g v := by
  unfold glookup at hg
  split at hg
  · rename_i kt et k ht hgk
    have hvk := hk.val hgk
    subst hvk
    split at hg
    · have hv := hm.lit_eq
      subst hv
      cases hc0 : (gchk P true kt vk && (P.underlying kt).isSome) with
      | false => rw [hc0] at hg; cases hg
      | true =>
        rw [hc0] at hg
        simp only [Bool.and_eq_true] at hc0
        obtain ⟨hc, hd⟩ := hc0
        simp only [cond_true, Option.map_eq_some_iff] at hg
        obtain ⟨z, hz, rfl⟩ := hg
        have hf : (Instr.findKey kt vk ([] : List MapEntry)).run P w = .ok none w := by
          obtain ⟨d, hd⟩ := Option.isSome_iff_exists.1 hd
          simp [Instr.findKey, run_underlying hd, Instr.findNow]
        refine ⟨_, ?_, rv_ok ok (.imm _ _ (.glit _ _ z))⟩
        have hc' := gchk_run hc w
        simp only [Instr.lookup, Sem.run_bind, run_underlying (tmap_spec ht), Result.andThen_ok, Sem.run_pure, Array.isEmpty_empty, hc', hf, run_zeroOf hz]
    · split at hg
      · rename_i i t' es clock hgm
        obtain ⟨ob, b, ents, rfl, ho, _, hb, rfl, hh, hks, _, hsz, hent⟩ := gmap_spec h hm hgm
        have hemp : ents.isEmpty = es.isEmpty := by
          cases es with
          | nil => simpa [Array.isEmpty] using hsz
          | cons x r => simp [Array.isEmpty, hsz]
        cases hc : gchk P es.isEmpty kt vk with
        | false => rw [hc] at hg; cases hg
        | true =>
          rw [hc] at hg
          simp only [cond_true] at hg
          have hc' := gchk_run hc w
          rw [← hks] at hg
          split at hg
          · rename_i hkey
            simp only [Option.map_eq_some_iff] at hg
            obtain ⟨z, hz, rfl⟩ := hg
            obtain ⟨p, hp, hq⟩ := gkey_run (w := w) hkey
            rcases hq with ⟨_, rfl⟩ | ⟨_, _, hq, _⟩
            · refine ⟨_, ?_, rv_ok ok (.imm _ _ (.glit _ _ z))⟩
              simp only [Instr.lookup, Sem.run_bind, run_underlying (tmap_spec ht), Result.andThen_ok, run_getObj' hh map_nc, Sem.run_pure, hemp, hc', hp, run_zeroOf hz]
            · cases hq
          · rename_i j hkey
            simp only [Option.map_eq_some_iff] at hg
            obtain ⟨⟨k', g', n'⟩, he, rfl⟩ := hg
            obtain ⟨p, hp, hq⟩ := gkey_run (w := w) hkey
            rcases hq with ⟨hq, _⟩ | ⟨j', e', hq, he', rfl⟩
            · cases hq
            · cases hq
              obtain ⟨_, _, hr⟩ := hent j e' k' g' n' (by rw [← Array.getElem?_toList]; exact he') he
              refine ⟨_, ?_, rv_ok ok hr⟩
              simp only [Instr.lookup, Sem.run_bind, run_underlying (tmap_spec ht), Result.andThen_ok, run_getObj' hh map_nc, Sem.run_pure, hemp, hc', hp]
          · cases hg
      · cases hg
  · cases hg
theorem gs_lookup {o : Oper} {st : St} {t : TypeId} {x y : Operand} {ok : Bool} {g : G} (ho : o.op = .lookup t x y ok) (hd : ∀ d, o.dst = some d → d < st.n) (hg : glookup P st.σ t ok (gev st x) (gev st y) = some g) : GS P o st (st.put o.dst g) := by
  intro cx a w K R ⟨β, h⟩ hK
  obtain ⟨v, hv, hr⟩ := glookup_run h (h.ev x) (h.ev y) hg
  refine h.loose.oper (fun c hc => by rw [ho] at hc; cases hc) ?_
  have hrun : (execOp a.eval o).run P w = .ok (.value v) w := by
    unfold execOp
    simp only [ho, Sem.run_bind, hv, Result.andThen_ok, Sem.run_pure]
  unfold Oper.wp
  rw [hrun]
  exact hK _ _ ⟨β, h.put o.dst hd hr⟩

/-! ### written -/
theorem XO.map_push {β : Bm} {S : Nat → Prop} {w : World} {es : List (Value × G × Nat)} {ents : Array MapEntry} {clock clock' : Nat} (hsz : ents.size = es.length) (h : ∀ (j : Nat) (e : MapEntry) (k : Value) (g : G) (n : Nat), ents[j]? = some e → es[j]? = some (k, g, n) → e.key = k ∧ e.born = n ∧ RV β S w g e.val) {k : Value} {g : G} {v : Value} (hv : RV β S w g v) :
    XO β S w (.map (es ++ [(k, g, clock)]) clock') (.map (ents.push { key := k, val := v, born := clock }) clock') := by
  refine ⟨_, rfl, by simp [hsz], fun j k' g' n hj => ?_⟩
  rcases Nat.lt_or_ge j es.length with hlt | hge
  · rw [List.getElem?_append_left hlt] at hj
    have he : ents[j]? = some (ents[j]'(by omega)) := by simp [show j < ents.size by omega]
    refine ⟨_, by rw [Array.getElem?_push_lt (by omega)], h j _ k' g' n he hj⟩
  · rw [List.getElem?_append_right hge] at hj
    have h0 : j = es.length := by
      have := (List.getElem?_eq_some_iff.1 hj).1
      simp at this; omega
    subst h0
    simp at hj
    obtain ⟨rfl, rfl, rfl⟩ := hj
    exact ⟨{ key := k, val := v, born := clock }, by rw [← hsz]; simp, rfl, rfl, hv⟩
theorem XO.map_set {β : Bm} {S : Nat → Prop} {w : World} {es : List (Value × G × Nat)} {ents : Array MapEntry} {clock : Nat} (hsz : ents.size = es.length) (h : ∀ (j : Nat) (e : MapEntry) (k : Value) (g : G) (n : Nat), ents[j]? = some e → es[j]? = some (k, g, n) → e.key = k ∧ e.born = n ∧ RV β S w g e.val) {i n : Nat} {k : Value} {g : G} {f : MapEntry → MapEntry} (hf : ∀ e, ents[i]? = some e → (f e).key = k ∧ (f e).born = n ∧ RV β S w g (f e).val) :
    XO β S w (.map (es.set i (k, g, n)) clock) (.map (ents.modify i f) clock) := by
  refine ⟨_, rfl, by simp [hsz], fun j k' g' n' hj => ?_⟩
  have hlt : j < es.length := by have := (List.getElem?_eq_some_iff.1 hj).1; simpa using this
  have he : ents[j]? = some (ents[j]'(by omega)) := by simp [show j < ents.size by omega]
  rw [List.getElem?_set] at hj
  rw [Array.getElem?_modify]
  split at hj
  · subst_vars
    rw [if_pos hlt] at hj
    cases hj
    rw [if_pos rfl, he]
    exact ⟨_, rfl, hf _ he⟩
  · rename_i hne
    rw [if_neg hne]
    exact ⟨_, he, h j _ k' g' n' he hj⟩
/-- What a map holds behind 'm[k] = x': its number, the object. -/
def gmapPut (P : Program) (σ : Sto) (t : TypeId) (gm gk g : G) : Option (Nat × Ob) := match tmap P t, gval gk, gmap σ gm with
  | some (kt, _), some k, some (i, ty, es, clock) => bif gchk P false kt k then
      match gkey P kt k (es.map (·.1)) with
      | some none => some (i, ⟨ty, [], some (.map (es ++ [(k, g, clock)]) (clock + 1))⟩)
      | some (some j) => match es[j]? with
        | some (k', _, n) => bif Instr.sameBits 10000 k' k then some (i, ⟨ty, [], some (.map (es.set j (k, g, n)) clock)⟩) else none
        | none => none
      | none => none
    else none
  | _, _, _ => none
theorem run_stays {old new : Value} (h : Instr.sameBits 10000 old new = true) (w : World) : (Instr.keyThatStays old new).run P w = .ok new w := by
  unfold Instr.keyThatStays
  rw [if_pos h]; rfl
theorem gmapPut_run {cx : Cx} {st : St} {a : Act} {w : World} {β : Bm} (h : RelB P cx st a w β) {t : TypeId} {gm gk g : G} {vm vk v : Value} {i : Nat} {ob : Ob} (hm : RV β (Av cx.S0 β st.σ) w gm vm) (hk : RV β (Av cx.S0 β st.σ) w gk vk) (hv : RV β (Av cx.S0 β st.σ) w g v) (hg : gmapPut P st.σ t gm gk g = some (i, ob)) :
    ∃ w', (Instr.mapUpdate t vm vk v).run P w = .ok () w' ∧ RelB P cx { st with σ := (i, some ob) :: st.σ } a w' β := by
  unfold gmapPut at hg
  split at hg
  · rename_i kt et k i' ty es clock ht hgk hgm
    have hvk := hk.val hgk
    subst hvk
    obtain ⟨ob', b, ents, rfl, ho, rfl, hb, rfl, hh, hks, _, hsz, hent⟩ := gmap_spec h hm hgm
    cases hc : gchk P false kt vk with
    | false => rw [hc] at hg; cases hg
    | true =>
      rw [hc] at hg
      simp only [cond_true] at hg
      have hc' := gchk_run hc w
      rw [← hks] at hg
      split at hg
      · rename_i hkey
        cases hg
        obtain ⟨p, hp, hq⟩ := gkey_run (w := w) hkey
        rcases hq with ⟨_, rfl⟩ | ⟨_, _, hq, _⟩
        · refine ⟨_, ?_, h.writeX ho hb (keeps_put _) (World.putObj_heap_same (Array.getElem?_eq_some_iff.1 hh).1) (XO.map_push hsz hent hv)⟩
          simp only [Instr.mapUpdate, Sem.run_bind, run_underlying (tmap_spec ht), Result.andThen_ok, run_getObj' hh map_nc, hc', hp, run_setObj' _ hh map_nc]
        · cases hq
      · rename_i j hkey
        split at hg
        · rename_i k' g' n he
          cases hs : Instr.sameBits 10000 k' vk with
          | false => rw [hs] at hg; cases hg
          | true =>
            rw [hs] at hg
            cases hg
            obtain ⟨p, hp, hq⟩ := gkey_run (w := w) hkey
            rcases hq with ⟨hq, _⟩ | ⟨j', e', hq, he', rfl⟩
            · cases hq
            · cases hq
              rw [Array.getElem?_toList] at he'
              obtain ⟨rfl, rfl, _⟩ := hent j e' k' g' n he' he
              refine ⟨_, ?_, h.writeX ho hb (keeps_put _) (World.putObj_heap_same (Array.getElem?_eq_some_iff.1 hh).1) (XO.map_set hsz hent (i := j) (n := e'.born) (k := vk) (g := g) (f := fun e => { e with key := vk, val := v }) fun e hx => ?_)⟩
              · simp only [Instr.mapUpdate, Sem.run_bind, run_underlying (tmap_spec ht), Result.andThen_ok, run_getObj' hh map_nc, hc', hp, he', Option.map_some, Option.getD_some, run_stays hs, run_setObj' _ hh map_nc]
              · rw [he'] at hx; cases hx
                exact ⟨rfl, rfl, hv⟩
        · cases hg
      · cases hg
  · cases hg
theorem gs_mapUpdate {o : Oper} {st : St} {t : TypeId} {x y z : Operand} {i : Nat} {ob : Ob} (ho : o.op = .mapUpdate t x y z ∨ o.op = .insert t x y z) (hd : ∀ d, o.dst = some d → d < st.n) (hg : gmapPut P st.σ t (gev st x) (gev st y) (gev st z) = some (i, ob)) : GS P o st ({ st with σ := (i, some ob) :: st.σ }.put o.dst (.lit undef)) := by
  intro cx a w K R ⟨β, h⟩ hK
  obtain ⟨w', hv, hr⟩ := gmapPut_run h (h.ev x) (h.ev y) (h.ev z) hg
  refine h.loose.oper (fun c hc => by rcases ho with ho | ho <;> rw [ho] at hc <;> cases hc) ?_
  have hrun : (execOp a.eval o).run P w = .ok .skip w' := by
    unfold execOp
    rcases ho with ho | ho <;> simp only [ho, Sem.run_bind, hv, Result.andThen_ok, Sem.run_pure]
  unfold Oper.wp
  rw [hrun]
  exact hK _ _ ⟨β, hr.put o.dst hd (.imm _ _ (.lit _))⟩

/-! ### how many -/
def gmlen (P : Program) (σ : Sto) (t : TypeId) (g : G) : Option G := match tmap P t with
  | some _ => match g with
    | .lit (.map none) => some (.lit (.int .i64 0))
    | g => match gmap σ g with
      | some (_, _, es, _) => some (.lit (.int .i64 es.length))
      | none => none
  | none => none
theorem gs_mlen {o : Oper} {st : St} {t : TypeId} {x : Operand} {g : G} (ho : o.op = .call { callee := .builtin .len, args := #[x], argTypes := #[t] }) (hd : ∀ d, o.dst = some d → d < st.n) (hg : gmlen P st.σ t (gev st x) = some g) : GS P o st (st.put o.dst g) := by
  intro cx a w K R ⟨β, h⟩ hK
  refine h.loose.oper (fun c hc => by rw [ho] at hc; cases hc) ?_
  have hrun : ∃ v, (execOp a.eval o).run P w = .ok (.value v) w ∧ RV β (Av cx.S0 β st.σ) w g v := by
    unfold gmlen at hg
    split at hg
    · rename_i q ht
      obtain ⟨kt, et⟩ := q
      split at hg
      · rename_i hx
        cases hg
        have hv : a.eval x = .map none := by have := h.ev x; rw [hx] at this; exact this.lit_eq
        refine ⟨.int .i64 0, ?_, .imm _ _ (.lit _)⟩
        unfold execOp
        simp [ho, resolve, invoke, builtin, Builtin.len_, hv, goInt, run_underlying (tmap_spec ht)]
      · split at hg
        · rename_i i ty es clock hgm
          cases hg
          obtain ⟨ob, b, ents, hx, hob, rfl, hb, hv, hh, hks, _, hsz, hent⟩ := gmap_spec h (h.ev x) hgm
          refine ⟨.int .i64 es.length, ?_, .imm _ _ (.lit _)⟩
          unfold execOp
          simp [ho, resolve, invoke, builtin, Builtin.len_, hv, goInt, run_getObj' hh map_nc, hsz, run_underlying (tmap_spec ht)]
        · cases hg
    · cases hg
  obtain ⟨v, hrun, hr⟩ := hrun
  unfold Oper.wp
  rw [hrun]
  exact hK _ _ ⟨β, h.put o.dst hd hr⟩

/-! ### taken away -/
theorem XO.map_erase {β : Bm} {S : Nat → Prop} {w : World} {es : List (Value × G × Nat)} {ents : Array MapEntry} {clock : Nat} (hsz : ents.size = es.length) (h : ∀ (j : Nat) (e : MapEntry) (k : Value) (g : G) (n : Nat), ents[j]? = some e → es[j]? = some (k, g, n) → e.key = k ∧ e.born = n ∧ RV β S w g e.val) (i : Nat) :
    XO β S w (.map (es.eraseIdx i) clock) (.map (ents.eraseIdxIfInBounds i) clock) := by
  have ht : (ents.eraseIdxIfInBounds i).toList = ents.toList.eraseIdx i := by
    unfold Array.eraseIdxIfInBounds
    split
    · simp
    · rename_i hn
      rw [List.eraseIdx_of_length_le (by simpa using hn)]
  refine ⟨_, rfl, ?_, fun j k' g' n hj => ?_⟩
  · rw [← Array.length_toList, ht, List.length_eraseIdx, List.length_eraseIdx, Array.length_toList, hsz]
  · rw [← Array.getElem?_toList, ht]
    rw [List.getElem?_eraseIdx] at hj ⊢
    split at hj
    · rename_i hlt
      have hl := (List.getElem?_eq_some_iff.1 hj).1
      have he : ents[j]? = some (ents[j]'(by omega)) := by simp [show j < ents.size by omega]
      rw [if_pos hlt, Array.getElem?_toList]
      exact ⟨_, he, h j _ k' g' n he hj⟩
    · rename_i hlt
      have hl := (List.getElem?_eq_some_iff.1 hj).1
      have he : ents[j + 1]? = some (ents[j + 1]'(by omega)) := by simp [show j + 1 < ents.size by omega]
      rw [if_neg hlt, Array.getElem?_toList]
      exact ⟨_, he, h (j + 1) _ k' g' n he hj⟩
def gmapDel (P : Program) (σ : Sto) (t : TypeId) (gm gk : G) : Option (Nat × Ob) := match tmap P t, gval gk, gmap σ gm with
  | some (kt, _), some k, some (i, ty, es, clock) => bif gchk P es.isEmpty kt k then
      match gkey P kt k (es.map (·.1)) with
      | some none => some (i, ⟨ty, [], some (.map es clock)⟩)
      | some (some j) => some (i, ⟨ty, [], some (.map (es.eraseIdx j) clock)⟩)
      | none => none
    else none
  | _, _, _ => none
theorem gs_mapDel {o : Oper} {st : St} {t t' : TypeId} {x y : Operand} {i : Nat} {ob : Ob} (ho : o.op = .call { callee := .builtin .delete, args := #[x, y], argTypes := #[t, t'] }) (hd : ∀ d, o.dst = some d → d < st.n) (hg : gmapDel P st.σ t (gev st x) (gev st y) = some (i, ob)) : GS P o st ({ st with σ := (i, some ob) :: st.σ }.put o.dst (.tup [])) := by
  intro cx a w K R ⟨β, h⟩ hK
  refine h.loose.oper (fun c hc => by rw [ho] at hc; cases hc) ?_
  have hrun : ∃ w', (execOp a.eval o).run P w = .ok (.value (.tuple #[])) w' ∧ RelB P cx { st with σ := (i, some ob) :: st.σ } a w' β := by
    unfold gmapDel at hg
    split at hg
    · rename_i kt et k i' ty es clock ht hgk hgm
      have hvk := (h.ev y).val hgk
      subst hvk
      obtain ⟨ob', b, ents, hx, hob, rfl, hb, hv, hh, hks, _, hsz, hent⟩ := gmap_spec h (h.ev x) hgm
      have hemp : ents.isEmpty = es.isEmpty := by
        cases es with
        | nil => simpa [Array.isEmpty] using hsz
        | cons x r => simp [Array.isEmpty, hsz]
      cases hc : gchk P es.isEmpty kt (a.eval y) with
      | false => rw [hc] at hg; cases hg
      | true =>
        rw [hc] at hg
        simp only [cond_true] at hg
        have hc' := gchk_run hc w
        rw [← hks] at hg
        split at hg
        · rename_i hkey
          cases hg
          obtain ⟨p, hp, hq⟩ := gkey_run (w := w) hkey
          rcases hq with ⟨_, rfl⟩ | ⟨_, _, hq, _⟩
          · refine ⟨_, ?_, h.writeX hob hb (keeps_put _) (World.putObj_heap_same (Array.getElem?_eq_some_iff.1 hh).1) (o0 := .map ents clock) ⟨ents, rfl, hsz, fun j k' g' n hj => ?_⟩⟩
            · unfold execOp
              simp only [ho, resolve, invoke, builtin, Sem.run_bind, Sem.run_pure, Result.andThen_ok, List.map_toArray, List.map_cons, List.map_nil, Builtin.delete_, hv]
              simp only [List.getElem?_toArray, List.getElem?_cons_zero, List.getElem?_cons_succ, Sem.run_bind, run_underlying (tmap_spec ht), Result.andThen_ok, run_getObj' hh map_nc, hemp, hc', hp, run_setObj' _ hh map_nc, Sem.run_pure]
            · have hl := (List.getElem?_eq_some_iff.1 hj).1
              have he : ents[j]? = some (ents[j]'(by omega)) := by simp [show j < ents.size by omega]
              exact ⟨_, he, hent j _ k' g' n he hj⟩
          · cases hq
        · rename_i j hkey
          cases hg
          obtain ⟨p, hp, hq⟩ := gkey_run (w := w) hkey
          rcases hq with ⟨hq, _⟩ | ⟨j', e', hq, he', rfl⟩
          · cases hq
          · cases hq
            refine ⟨_, ?_, h.writeX hob hb (keeps_put _) (World.putObj_heap_same (Array.getElem?_eq_some_iff.1 hh).1) (XO.map_erase hsz hent j)⟩
            unfold execOp
            simp only [ho, resolve, invoke, builtin, Sem.run_bind, Sem.run_pure, Result.andThen_ok, List.map_toArray, List.map_cons, List.map_nil, Builtin.delete_, hv]
            simp only [List.getElem?_toArray, List.getElem?_cons_zero, List.getElem?_cons_succ, Sem.run_bind, run_underlying (tmap_spec ht), Result.andThen_ok, run_getObj' hh map_nc, hemp, hc', hp, run_setObj' _ hh map_nc, Sem.run_pure]
        · cases hg
    · cases hg
  obtain ⟨w', hrun, hr⟩ := hrun
  unfold Oper.wp
  rw [hrun]
  exact hK _ _ ⟨β, hr.put o.dst hd (.tup _ _ rfl (by simp))⟩

/-! ### 'm[k] op= x' -/
def gmapEntry (P : Program) (σ : Sto) (t : TypeId) (gm gk : G) : Option (Nat × Ob × G) := match tmap P t, gval gk, gmap σ gm with
  | some (kt, et), some k, some (i, ty, es, clock) => bif gchk P false kt k then
      match gkey P kt k (es.map (·.1)) with
      | some none => ((P.info? et).bind (·.zero)).map fun z => (i, ⟨ty, [], some (.map (es ++ [(k, glit z, clock)]) (clock + 1))⟩, .tup [glit z, .lit (.int .i64 clock)])
      | some (some j) => match es[j]? with
        | some (k', g, n) => bif Instr.sameBits 10000 k' k then some (i, ⟨ty, [], some (.map (es.set j (k, g, n)) clock)⟩, .tup [g, .lit (.int .i64 n)]) else none
        | none => none
      | none => none
    else none
  | _, _, _ => none
theorem rv_two {β : Bm} {S : Nat → Prop} {w : World} {g g' : G} {v v' : Value} (h : RV β S w g v) (h' : RV β S w g' v') : RV β S w (.tup [g, g']) (.tuple #[v, v']) := by
  refine .tup _ _ rfl fun i x u hg hu => ?_
  match i with
  | 0 => simp at hg hu; subst hg; subst hu; exact h
  | 1 => simp at hg hu; subst hg; subst hu; exact h'
  | n + 2 => simp at hg
theorem gs_mapEntry {o : Oper} {st : St} {t : TypeId} {x y : Operand} {i : Nat} {ob : Ob} {g : G} (ho : o.op = .mapEntry t x y) (hd : ∀ d, o.dst = some d → d < st.n) (hg : gmapEntry P st.σ t (gev st x) (gev st y) = some (i, ob, g)) : GS P o st ({ st with σ := (i, some ob) :: st.σ }.put o.dst g) := by
  intro cx a w K R ⟨β, h⟩ hK
  refine h.loose.oper (fun c hc => by rw [ho] at hc; cases hc) ?_
  have hrun : ∃ v w', (execOp a.eval o).run P w = .ok (.value v) w' ∧ RV β (Av cx.S0 β st.σ) w g v ∧ (∃ o', sget st.σ i = some o') ∧ Keeps (fun b => ∃ C, β i = some (some (b, C))) w w' ∧ RelB P cx { st with σ := (i, some ob) :: st.σ } a w' β := by
    unfold gmapEntry at hg
    split at hg
    · rename_i kt et k i' ty es clock ht hgk hgm
      have hvk := (h.ev y).val hgk
      subst hvk
      obtain ⟨ob', b, ents, hx, hob, rfl, hb, hv, hh, hks, _, hsz, hent⟩ := gmap_spec h (h.ev x) hgm
      cases hc : gchk P false kt (a.eval y) with
      | false => rw [hc] at hg; cases hg
      | true =>
        rw [hc] at hg
        simp only [cond_true] at hg
        have hc' := gchk_run hc w
        rw [← hks] at hg
        split at hg
        · rename_i hkey
          simp only [Option.map_eq_some_iff] at hg
          obtain ⟨z, hz, hg⟩ := hg
          cases hg
          obtain ⟨p, hp, hq⟩ := gkey_run (w := w) hkey
          rcases hq with ⟨_, rfl⟩ | ⟨_, _, hq, _⟩
          · refine ⟨_, _, ?_, rv_two (.imm _ _ (.glit _ _ z)) (.imm _ _ (.lit (.int .i64 clock))), ⟨_, hob⟩, (keeps_put _).mono (fun k _ e => ⟨0, by subst e; exact hb⟩), h.writeX hob hb (keeps_put _) (World.putObj_heap_same (Array.getElem?_eq_some_iff.1 hh).1) (XO.map_push hsz hent (.imm _ _ (.glit _ _ z)))⟩
            unfold execOp
            simp only [ho, hv, Instr.mapEntry, Sem.run_bind, run_underlying (tmap_spec ht), Result.andThen_ok, run_getObj' hh map_nc, hc', hp, run_zeroOf hz, run_setObj' _ hh map_nc, Sem.run_pure, goInt]
          · cases hq
        · rename_i j hkey
          split at hg
          · rename_i k' g' n he
            cases hs : Instr.sameBits 10000 k' (a.eval y) with
            | false => rw [hs] at hg; cases hg
            | true =>
              rw [hs] at hg
              cases hg
              obtain ⟨p, hp, hq⟩ := gkey_run (w := w) hkey
              rcases hq with ⟨hq, _⟩ | ⟨j', e', hq, he', rfl⟩
              · cases hq
              · cases hq
                rw [Array.getElem?_toList] at he'
                obtain ⟨rfl, rfl, hr⟩ := hent j e' k' g' n he' he
                refine ⟨_, _, ?_, rv_two hr (.imm _ _ (.lit (.int .i64 e'.born))), ⟨_, hob⟩, (keeps_put _).mono (fun k _ e => ⟨0, by subst e; exact hb⟩), h.writeX hob hb (keeps_put _) (World.putObj_heap_same (Array.getElem?_eq_some_iff.1 hh).1) (XO.map_set hsz hent (i := j) (n := e'.born) (k := a.eval y) (g := g') (f := fun e => { e with key := a.eval y }) fun e hx => ?_)⟩
                · unfold execOp
                  simp only [ho, hv, Instr.mapEntry, Sem.run_bind, run_underlying (tmap_spec ht), Result.andThen_ok, run_getObj' hh map_nc, hc', hp, he', Option.map_some, Option.getD_some, run_stays hs, run_setObj' _ hh map_nc, Sem.run_pure, goInt]
                · rw [he'] at hx; cases hx
                  exact ⟨rfl, rfl, hr⟩
          · cases hg
        · cases hg
    · cases hg
  obtain ⟨v, w', hrun, hr, ⟨ob', hob⟩, hk, hrel⟩ := hrun
  have hk' : Keeps (Av cx.S0 β st.σ) w w' := hk.mono fun b _ ⟨C, h1⟩ => .inr ⟨i, ob', C, hob, h1⟩
  unfold Oper.wp
  rw [hrun]
  refine hK _ _ ⟨β, hrel.put o.dst hd (hr.step (fun _ _ x => x) (fun b _ hb => ?_) hk')⟩
  rcases hb with hb | ⟨j, o', C, h1, h2⟩
  · exact .inl hb
  · have h1' : sget ((i, some ob) :: st.σ) j = some o' := h1
    rw [sget_cons] at h1'
    split at h1'
    · subst_vars
      exact .inr ⟨_, ob', C, hob, h2⟩
    · exact .inr ⟨j, o', C, h1', h2⟩
end
end Go.Proofs.YtfnglmepfjaimaaGreatDoor
