/- A machine of values over the model, eleventh part: states that say less: numbers of objects changed, objects forgotten, slots dropped. -/
import Derived.Test.YtfnglmepfjaimaaGreatDoorGJ
namespace Go.Proofs.YtfnglmepfjaimaaGreatDoor
open Go.RowKit
set_option linter.unusedVariables false
section
variable {P : Program}

/-- The new numbers of objects, and the elder ones. -/
def rho (ρ : List (Nat × Nat)) (i : Nat) : Option Nat := ρ.lookup i
/-- A ghost value says no less than another one, in which objects have other numbers. -/
def Wk (P : Program) (st : St) (ρ : List (Nat × Nat)) (g g' : G) : Prop := ∀ cx a w β, RelB P cx st a w β → ∀ v, RV β (Av cx.S0 β st.σ) w g v →
  RV (fun i => (rho ρ i).bind β) (fun b => cx.S0 b ∨ ∃ i j ob C, rho ρ i = some j ∧ sget st.σ j = some ob ∧ β j = some (some (b, C))) w g' v

theorem wk_junk {st : St} {ρ : List (Nat × Nat)} {g : G} : Wk P st ρ g .junk := fun _ _ _ _ _ v _ => .junk v
theorem wk_imm {st : St} {ρ : List (Nat × Nat)} {g : G} (h : ImmG g) : Wk P st ρ g g := fun cx a w β r v hv => .imm _ _ ((h _ _ _ _ hv).sub fun b _ hb => by
  rcases hb with hb | ⟨i, j, ob, C, _, h1, h2⟩
  · exact .inl hb
  · exact .inr ⟨j, ob, C, h1, h2⟩)
theorem wk_ref {st : St} {ρ : List (Nat × Nat)} {i j o : Nat} (h : rho ρ i = some j) : Wk P st ρ (.ref j o) (.ref i o) := fun cx a w β r v hv => by
  obtain ⟨b, C, hb, rfl⟩ := hv.ref_addr
  exact .ref i o b C (by simp [h, hb])
theorem wk_mref {st : St} {ρ : List (Nat × Nat)} {i j : Nat} (h : rho ρ i = some j) : Wk P st ρ (.mref j) (.mref i) := fun cx a w β r v hv => by
  obtain ⟨b, C, hb, rfl⟩ := hv.mref_form
  exact .mref i b C (by simp [h, hb])
theorem wk_yld {st : St} {ρ : List (Nat × Nat)} {i j : Nat} (h : rho ρ i = some j) : Wk P st ρ (.yld j) (.yld i) := fun cx a w β r v hv => by
  obtain ⟨b, C, hb, rfl⟩ := hv.yld_form
  exact .yld i b C (by simp [h, hb])
theorem wk_rsl {st : St} {ρ : List (Nat × Nat)} {i j o n : Nat} (h : rho ρ i = some j) : Wk P st ρ (.rsl j o n) (.rsl i o n) := fun cx a w β r v hv => by
  rcases hv.rsl_form with ⟨hb, rfl, rfl⟩ | ⟨b, C, o', cap, hb, rfl, hn, hm, ho', hC⟩
  · exact .rsl0 i o (by simp [h, hb])
  · exact .rsl i o n b C o' cap (by simp [h, hb]) hn hm ho' hC
theorem wk_agg {st : St} {ρ : List (Nat × Nat)} {l l' : List G} (hl : l'.length = l.length) (h : ∀ (i : Nat) (g g' : G), l[i]? = some g → l'[i]? = some g' → Wk P st ρ g g') : Wk P st ρ (.agg l) (.agg l') := fun cx a w β r v hv => by
  obtain ⟨us, rfl, h2, h1, hr⟩ := hv.agg_form
  refine .agg _ _ (by omega) h1 fun i g u hg hu => ?_
  have hlt := (List.getElem?_eq_some_iff.1 hg).1
  have hx : l[i]? = some (l[i]'(by omega)) := by simp [show i < l.length by omega]
  exact h i _ g hx hg cx a w β r u (hr i _ u hx hu)
theorem wk_tup {st : St} {ρ : List (Nat × Nat)} {l l' : List G} (hl : l'.length = l.length) (h : ∀ (i : Nat) (g g' : G), l[i]? = some g → l'[i]? = some g' → Wk P st ρ g g') : Wk P st ρ (.tup l) (.tup l') := fun cx a w β r v hv => by
  obtain ⟨us, rfl, h2, hr⟩ := hv.tup_form
  refine .tup _ _ (by omega) fun i g u hg hu => ?_
  have hlt := (List.getElem?_eq_some_iff.1 hg).1
  have hx : l[i]? = some (l[i]'(by omega)) := by simp [show i < l.length by omega]
  exact h i _ g hx hg cx a w β r u (hr i _ u hx hu)
theorem wk_clo {st : St} {ρ : List (Nat × Nat)} {fn : Fn} {l l' m m' : List G} (hl : l'.length = l.length) (hm : m'.length = m.length) (h : ∀ (i : Nat) (g g' : G), l[i]? = some g → l'[i]? = some g' → Wk P st ρ g g') (h' : ∀ (i : Nat) (g g' : G), m[i]? = some g → m'[i]? = some g' → Wk P st ρ g g') : Wk P st ρ (.clo fn l m) (.clo fn l' m') := fun cx a w β r v hv => by
  obtain ⟨fs, cs, rfl, h1, h2, h3, h4⟩ := hv.clo_form
  refine .clo _ _ _ _ _ (by omega) (by omega) (fun i g u hg hu => ?_) (fun i g u hg hu => ?_)
  · have hlt := (List.getElem?_eq_some_iff.1 hg).1
    have hx : l[i]? = some (l[i]'(by omega)) := by simp [show i < l.length by omega]
    exact h i _ g hx hg cx a w β r u (h3 i _ u hx hu)
  · have hlt := (List.getElem?_eq_some_iff.1 hg).1
    have hx : m[i]? = some (m[i]'(by omega)) := by simp [show i < m.length by omega]
    exact h' i _ g hx hg cx a w β r u (h4 i _ u hx hu)
/-- A slice of an object that is kept no more. -/
theorem wk_rsl_frz {st : St} {ρ : List (Nat × Nat)} {i o n s : Nat} {ob : Ob} (hk : ∀ p ∈ ρ, p.2 ≠ i) (ho : sget st.σ i = some ob) (hs : tsize P ob.t = some s) (hle : o + n * s ≤ ob.l.length) (h : ∀ g ∈ ob.l, ImmG g) : Wk P st ρ (.rsl i o n) (.sl ((ob.l.drop o).take (n * s)) n) := fun cx a w β r v hv => by
  have hav : ∀ b C, β i = some (some (b, C)) → ¬ (cx.S0 b ∨ ∃ k j ob' D, rho ρ k = some j ∧ sget st.σ j = some ob' ∧ β j = some (some (b, D))) := by
    rintro b C hb (hx | ⟨k, j, ob', D, h1, h2, h3⟩)
    · exact r.sep i ob b C ho hb hx
    · have := r.inj i j ob ob' b C D ho h2 hb h3
      subst this
      unfold rho at h1
      rw [List.lookup_eq_some_iff] at h1
      obtain ⟨l1, l2, rfl, _⟩ := h1
      exact hk (k, i) (by simp) rfl
  rcases hv.rsl_form with ⟨hb, rfl, rfl⟩ | ⟨b, C, o', cap, hb, rfl, hn, hm, ho', hC⟩
  · have : (ob.l.drop o).take (0 * s) = [] := by simp
    rw [this]
    exact .imm _ _ (.sl [] 0 none 0 (fun _ => undef) (Nat.le_refl _) (Nat.zero_le _) (by simp) (by simp) (by simp))
  · obtain ⟨us, hc⟩ := (r.ob i ob ho).cells hb
    have hl : ((ob.l.drop o).take (n * s)).length = n * s := by simp; omega
    refine .imm _ _ (.sl _ n _ cap (fun j => us (o + j)) hn hm (fun j hj => ?_) (fun j hj => hc.2.1 _ (by omega)) (fun j g' hg' => ?_))
    · have hpos : 0 < n := by
        rcases Nat.eq_zero_or_pos n with h0 | h0
        · rw [hl, h0, Nat.zero_mul] at hj; omega
        · exact h0
      have e := ho' (by omega)
      subst e
      have := hc.1 (o' + j) (by omega)
      rw [Nat.zero_add] at this
      exact ⟨b, o', rfl, hav b C hb, r.lt ho hb, this⟩
    · have hlt := (List.getElem?_eq_some_iff.1 hg').1
      rw [List.getElem?_take, if_pos (by omega), List.getElem?_drop] at hg'
      have := (h g' (List.mem_of_getElem? hg') _ _ _ _ (hc.2.2 _ _ hg'))
      exact this.sub fun b' _ hb' => by
        rcases hb' with hb' | ⟨k, j', ob', D, _, h1, h2⟩
        · exact .inl hb'
        · exact .inr ⟨j', ob', D, h1, h2⟩

def WkFr (P : Program) (st : St) (ρ : List (Nat × Nat)) (fr : Fr) : Prop := ∀ d, Wk P st ρ (fget st.fr d) (fget fr d)
theorem wkfr_nil {st : St} {ρ : List (Nat × Nat)} : WkFr P st ρ [] := fun d => wk_junk
theorem wkfr_cons {st : St} {ρ : List (Nat × Nat)} {d : Nat} {g : G} {fr : Fr} (h : Wk P st ρ (fget st.fr d) g) (hr : WkFr P st ρ fr) : WkFr P st ρ ((d, g) :: fr) := fun i => by
  rw [fget_cons]
  split
  · subst_vars; exact h
  · exact hr i
/-- What is no row of cells, said no less. -/
def WkX (P : Program) (st : St) (ρ : List (Nat × Nat)) (x x' : Xob) : Prop := ∀ cx a w β, RelB P cx st a w β → ∀ o, XO β (Av cx.S0 β st.σ) w x o →
  XO (fun i => (rho ρ i).bind β) (fun b => cx.S0 b ∨ ∃ i j ob C, rho ρ i = some j ∧ sget st.σ j = some ob ∧ β j = some (some (b, C))) w x' o
def WkOx (P : Program) (st : St) (ρ : List (Nat × Nat)) : Option Xob → Option Xob → Prop
  | none, none => True
  | some x, some x' => WkX P st ρ x x' ∧ (x = .resv → x' = .resv)
  | _, _ => False
theorem wkx_map {st : St} {ρ : List (Nat × Nat)} {es es' : List (Value × G × Nat)} {clock : Nat} (hl : es'.length = es.length) (h : ∀ (j : Nat) (k k' : Value) (g g' : G) (n n' : Nat), es[j]? = some (k, g, n) → es'[j]? = some (k', g', n') → k' = k ∧ n' = n ∧ Wk P st ρ g g') : WkX P st ρ (.map es clock) (.map es' clock) := fun cx a w β r o ho => by
  obtain ⟨ents, h1, h2, h3⟩ := ho
  refine ⟨ents, h1, by omega, fun j k g n hj => ?_⟩
  have hlt := (List.getElem?_eq_some_iff.1 hj).1
  obtain ⟨⟨k0, g0, n0⟩, hx⟩ : ∃ q, es[j]? = some q := ⟨_, List.getElem?_eq_getElem (by omega)⟩
  obtain ⟨e, e1, e2, e3, e4⟩ := h3 j k0 g0 n0 hx
  obtain ⟨rfl, rfl, hw⟩ := h j k0 k g0 g n0 n hx hj
  exact ⟨e, e1, e2, e3, hw cx a w β r _ e4⟩
theorem wkx_iter0 {st : St} {ρ : List (Nat × Nat)} {since last : Nat} {seen : List Nat} : WkX P st ρ (.iter none since seen last) (.iter none since seen last) := fun cx a w β r o ho => by
  obtain ⟨mb, h1, h2⟩ := ho
  rcases h2 with h2 | ⟨i, b, C, h3, _⟩
  · exact ⟨mb, h1, .inl h2⟩
  · cases h3
theorem wkx_iter {st : St} {ρ : List (Nat × Nat)} {i j since last : Nat} {seen : List Nat} (h : rho ρ i = some j) : WkX P st ρ (.iter (some j) since seen last) (.iter (some i) since seen last) := fun cx a w β r o ho => by
  obtain ⟨mb, h1, h2⟩ := ho
  rcases h2 with ⟨h2, _⟩ | ⟨j', b, C, h3, h4, h5⟩
  · cases h2
  · cases h3
    exact ⟨mb, h1, .inr ⟨i, b, C, rfl, h4, by simp [h, h5]⟩⟩
theorem wkx_loop {st : St} {ρ : List (Nat × Nat)} {s : LoopState} {pe : Option Code} {n : Nat} {fr fr' : Fr} {ps : Array Tmp} {as bd : Code} (h : ∀ d, Wk P st ρ (fget fr d) (fget fr' d)) : WkX P st ρ (.loop s pe n fr ps as bd) (.loop s pe n fr' ps as bd) := fun cx a w β r o ho => by
  obtain ⟨fn, tmps, D, h1, h2, h3⟩ := ho
  exact ⟨fn, tmps, D, h1, h2, fun j => h j cx a w β r _ (h3 j)⟩
/-- The objects that are kept. -/
def WkSt (P : Program) (st : St) (ρ : List (Nat × Nat)) (σ : Sto) : Prop := ∀ i ob', sget σ i = some ob' → ∃ j ob, rho ρ i = some j ∧ sget st.σ j = some ob ∧ ob'.t = ob.t ∧ ob'.l.length ≤ ob.l.length ∧ (ob.l = [] → ob'.l = []) ∧ (∀ (k : Nat) (g g' : G), ob.l[k]? = some g → ob'.l[k]? = some g' → Wk P st ρ g g') ∧ WkOx P st ρ ob.x ob'.x
theorem wkst_nil {st : St} {ρ : List (Nat × Nat)} : WkSt P st ρ [] := fun i ob h => by cases h
theorem wkst_cons {st : St} {ρ : List (Nat × Nat)} {i j : Nat} {ob : Ob} {t : TypeId} {l : List G} {σ : Sto} (h1 : rho ρ i = some j) (h2 : sget st.σ j = some ob) (hx : ob.x = none) (ht : t = ob.t) (hl : l.length ≤ ob.l.length) (h : ∀ (k : Nat) (g g' : G), ob.l[k]? = some g → l[k]? = some g' → Wk P st ρ g g') (hr : WkSt P st ρ σ) : WkSt P st ρ ((i, some ⟨t, l, none⟩) :: σ) := fun k ob' hk => by
  rw [sget_cons] at hk
  split at hk
  · cases hk
    subst_vars
    exact ⟨j, ob, h1, h2, rfl, hl, fun e => List.eq_nil_of_length_eq_zero (by simp [e] at hl; simpa using hl), h, by rw [hx]; trivial⟩
  · exact hr k ob' hk
theorem wkst_consX {st : St} {ρ : List (Nat × Nat)} {i j : Nat} {ob : Ob} {t : TypeId} {x x' : Xob} {σ : Sto} (h1 : rho ρ i = some j) (h2 : sget st.σ j = some ob) (hx : ob.x = some x) (ht : t = ob.t) (h : WkX P st ρ x x') (hv : x ≠ .resv) (hr : WkSt P st ρ σ) : WkSt P st ρ ((i, some ⟨t, [], some x'⟩) :: σ) := fun k ob' hk => by
  rw [sget_cons] at hk
  split at hk
  · cases hk
    subst_vars
    exact ⟨j, ob, h1, h2, rfl, by simp, fun _ => rfl, by simp, by rw [hx]; exact ⟨h, fun e => absurd e hv⟩⟩
  · exact hr k ob' hk
theorem wk_all {st : St} {ρ : List (Nat × Nat)} {l : List G} (h : ∀ g ∈ l, ImmG g) : ∀ (k : Nat) (g g' : G), l[k]? = some g → l[k]? = some g' → Wk P st ρ g g' := fun k g g' h1 h2 => by
  rw [h1] at h2; cases h2; exact wk_imm (h g (List.mem_of_getElem? h1))

theorem RelB.weaken {st st' : St} (ρ : List (Nat × Nat)) (hn : st'.n = st.n) (hgl : st'.gl = st.gl) (hp : st'.p = st.p) (hpin : ∀ i, i < st.p → rho ρ i = some i) (hinj : ∀ i i' j, rho ρ i = some j → rho ρ i' = some j → i = i') (hc : ∀ p ∈ ρ, p.1 < st'.c) (hfr : WkFr P st ρ st'.fr) (hst : WkSt P st ρ st'.σ) (hrr : st'.r = st.r) {cx : Cx} {a : Act} {w : World} {β : Bm} (h : RelB P cx st a w β) : RelB P cx st' a w (fun i => (rho ρ i).bind β) := by
  have hav : ∀ b, Av cx.S0 (fun i => (rho ρ i).bind β) st'.σ b → (cx.S0 b ∨ ∃ i j ob C, rho ρ i = some j ∧ sget st.σ j = some ob ∧ β j = some (some (b, C))) := by
    rintro b (hb | ⟨i, ob', C, h1, h2⟩)
    · exact .inl hb
    · obtain ⟨j, ob, h3, h4, _⟩ := hst i ob' h1
      simp only [h3, Option.bind_some] at h2
      exact .inr ⟨i, j, ob, C, h3, h4, h2⟩
  have hbind : ∀ i b C, ((rho ρ i).bind β) = some (some (b, C)) → ∃ j, rho ρ i = some j ∧ β j = some (some (b, C)) := by
    intro i b C hb
    rw [Option.bind_eq_some_iff] at hb
    exact hb
  have same : ∀ i ob', sget st'.σ i = some ob' → ∀ b C, ((rho ρ i).bind β) = some (some (b, C)) → ∃ j ob, rho ρ i = some j ∧ sget st.σ j = some ob ∧ β j = some (some (b, C)) := by
    intro i ob' hi b C hb
    obtain ⟨j, ob, h3, h4, _⟩ := hst i ob' hi
    rw [h3] at hb
    exact ⟨j, ob, h3, h4, hb⟩
  exact {
    size := h.size.trans hn.symm
    defers := h.defers
    loose := h.loose
    rnd := by rw [hrr]; exact h.rnd
    fr := fun i => (hfr i cx a w β h _ (h.fr i)).step (fun _ _ x => x) (fun b _ hb => hav b hb) (Keeps.refl _ _)
    ob := fun i ob' hi => by
      obtain ⟨j, ob, h3, h4, h5, h6, h7, h8, h9⟩ := hst i ob' hi
      rcases h.ob j ob h4 with ⟨e1, e2, e0⟩ | ⟨b, x, o, e0, e1, e2, e3, e4⟩ | ⟨b, C, cur, e0, e1, e2, e3, e4, e5, e6⟩
      · refine .inl ⟨by simp [h3, e1], h7 e2, ?_⟩
        rcases e0 with e0 | e0
        · rw [e0] at h9
          cases hx : ob'.x with
          | none => exact .inl rfl
          | some x => rw [hx] at h9; exact h9.elim
        · rw [e0] at h9
          cases hx : ob'.x with
          | none => rw [hx] at h9; exact h9.elim
          | some x => rw [hx] at h9; exact .inr (by rw [h9.2 rfl])
      · rw [e0] at h9
        cases hx : ob'.x with
        | none => rw [hx] at h9; exact h9.elim
        | some x' =>
          rw [hx] at h9
          exact .inr (.inl ⟨b, x', o, hx, h7 e1, by simp [h3, e2], e3, (h9.1 cx a w β h o e4).step (fun _ _ x => x) (fun b _ hb => hav b hb) (Keeps.refl _ _)⟩)
      · have e0' : ob'.x = none := by
          rw [e0] at h9
          cases hx : ob'.x with
          | none => rfl
          | some x => rw [hx] at h9; exact h9.elim
        refine .inr (.inr ⟨b, C, cur, e0', by simp [h3, e1], by rw [h5]; exact e2, by rw [h5]; exact e3, e4, by omega, fun k g' hg' => ?_⟩)
        have hlt := (List.getElem?_eq_some_iff.1 hg').1
        have hx : ob.l[k]? = some (ob.l[k]'(by omega)) := by simp [show k < ob.l.length by omega]
        obtain ⟨u, hu, h1', hr⟩ := e6 k _ hx
        exact ⟨u, hu, h1', (h8 k _ g' hx hg' cx a w β h u hr).step (fun _ _ x => x) (fun b _ hb => hav b hb) (Keeps.refl _ _)⟩
    inj := fun i i' o o' b C D hi hi' hb hb' => by
      obtain ⟨j, ob, h1, h2, h3⟩ := same i o hi b C hb
      obtain ⟨j', ob', h4, h5, h6⟩ := same i' o' hi' b D hb'
      have := h.inj j j' ob ob' b C D h2 h5 h3 h6
      subst this
      exact hinj i i' j h1 h4
    own := fun i o b C hi hb => by
      obtain ⟨j, ob, h1, h2, h3⟩ := same i o hi b C hb
      exact h.own j ob b C h2 h3
    sep := fun i o b C hi hb => by
      obtain ⟨j, ob, h1, h2, h3⟩ := same i o hi b C hb
      exact h.sep j ob b C h2 h3
    fresh := fun i hi => by
      cases hr : rho ρ i with
      | none => rfl
      | some j =>
        unfold rho at hr
        rw [List.lookup_eq_some_iff] at hr
        obtain ⟨l1, l2, rfl, _⟩ := hr
        have := hc (i, j) (by simp)
        simp at this
        omega
    glob := fun g l hl => by
      rw [hgl] at hl
      exact (h.glob g l hl).sub fun b _ hb => by
        rcases hav b hb with hb | ⟨i, j, ob, C, _, h1, h2⟩
        · exact .inl hb
        · exact .inr ⟨j, ob, C, h1, h2⟩
    keep := h.keep
    old := h.old
    pin := fun i x hx => by
      obtain ⟨h1, h2⟩ := h.pin i x hx
      exact ⟨by rw [hp]; exact h1, by simp only [hpin i h1, Option.bind_some]; exact h2⟩ }

theorem le_weaken {st st' : St} (ρ : List (Nat × Nat)) (hn : st'.n = st.n) (hgl : st'.gl = st.gl) (hp : st'.p = st.p) (hpin : ∀ i, i < st.p → rho ρ i = some i) (hinj : ∀ i i' j, rho ρ i = some j → rho ρ i' = some j → i = i') (hc : ∀ p ∈ ρ, p.1 < st'.c) (hfr : WkFr P st ρ st'.fr) (hst : WkSt P st ρ st'.σ) (hrr : st'.r = st.r := by rfl) : Le P st st' := by
  rintro cx a w ⟨β, h⟩
  exact ⟨_, h.weaken ρ hn hgl hp hpin hinj hc hfr hst hrr⟩

/-- A row that has no block yet, in the place of nil. -/
theorem le_virt {st : St} (t : TypeId) {d : Nat} (hd : d < st.n) (hv : fget st.fr d = .lit (.slice none 0 0)) : Le P st { st with fr := (d, .rsl st.c 0 0) :: st.fr, σ := (st.c, some ⟨t, [], none⟩) :: st.σ, c := st.c + 1 } := by
  rintro cx a w ⟨β, h⟩
  have hx := h.fr d
  rw [hv] at hx
  have he := hx.lit_eq
  have h2 := h.virt t (k := st.c) (Nat.le_refl _)
  refine ⟨_, { h2 with fr := fun i => ?_ }⟩
  show RV _ _ w (fget ((d, .rsl st.c 0 0) :: st.fr) i) _
  rw [fget_cons]
  split
  · subst_vars
    rw [he]
    exact .rsl0 _ _ (by simp)
  · exact h2.fr i
end
end Go.Proofs.YtfnglmepfjaimaaGreatDoor
