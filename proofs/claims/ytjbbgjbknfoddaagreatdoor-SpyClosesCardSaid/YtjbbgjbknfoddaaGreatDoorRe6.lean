/- slices.SortFunc in the machine of values, out of the library's contract: what a call of it leaves of a row, for a comparison that parts all that is not one. -/
import Derived.Test.YtjbbgjbknfoddaaGreatDoorGQ
import Derived.Shelf.SlSortCmp.InsertionK
import Derived.Shelf.GgSortFunc.RowK
import Derived.Sort.Statements
import Derived.Test.YtjbbgjbknfoddaaGreatDoorHG
import Derived.Test.YtjbbgjbknfoddaaGreatDoorHMr
import Derived.Test.YtjbbgjbknfoddaaGreatDoorFN
import Derived.Shelf.SlSortCmp.NoneTotal
namespace Go.Proofs.YtjbbgjbknfoddaaGreatDoor
section
open Go.RowKit Go.Sort
set_option linter.unusedVariables false
set_option linter.unusedSimpArgs false
set_option linter.unusedSectionVars false

/-- Behind what writes nothing that was there the world is the old one, with more blocks, draws ahead. -/
theorem keeps_grow {w w' : World} (h : Keeps (fun _ => False) w w') : ∃ q os, w' = grow (w.drewN q) os := by
  refine ⟨w'.drawn - w.drawn, w'.heap.extract w.heap.size w'.heap.size, ?_⟩
  have h1 := h.os; have h2 := h.tape; have h3 := h.output; have h4 := h.size; have h5 := h.drawn
  have h6 := fun k hk => h.block k hk (fun x => x)
  obtain ⟨hp, tp, dr, os, out⟩ := w
  obtain ⟨hp', tp', dr', os', out'⟩ := w'
  simp only [grow, World.drewN] at *
  subst h1; subst h2; subst h3
  have e1 : dr + (dr' - dr) = dr' := by omega
  have e2 : hp ++ hp'.extract hp.size hp'.size = hp' := by
    apply Array.ext_getElem?
    intro k
    by_cases hk : k < hp.size
    · rw [Array.getElem?_append_left hk, h6 k hk]
    · rw [Array.getElem?_append_right (by omega), Array.getElem?_extract]
      by_cases hk2 : k < hp'.size
      · rw [if_pos (by omega), show hp.size + (k - hp.size) = k by omega]
      · rw [if_neg (by omega)]
        simp [show hp'.size ≤ k by omega]
  rw [e1, e2]

section
variable {P : Program} {α : Type} [Inhabited α]
def litsOf (enc : α → List Value) (d : List α) : List G := (d.flatMap enc).map .lit

theorem cmp_lays {g : FuncId} {enc : α → List Value} {k : Nat} {cf : α → α → Int} (h1 : ∀ x, ∀ v ∈ enc x, v.oneCell' = true) (h : ∀ x y, Fn' P [] g [.agg ((enc x).map .lit), .agg ((enc y).map .lit)] (.lit (.int .i64 (cf x y)))) (blk off size : Nat) (w : World) : CmpLays P g #[] enc k cf blk off size w := by
  intro m os dk hs x y
  have hagg : ∀ (x : α) (W : World), IV (fun _ => False) W (.agg ((enc x).map .lit)) (.agg (enc x).toArray) := fun x W => by
    refine .agg _ _ (by simp) (fun i u hu => ?_) (fun i g u hg hu => ?_)
    · rw [List.getElem?_toArray] at hu
      exact h1 x u (List.mem_of_getElem? hu)
    · rw [List.getElem?_toArray] at hu
      rw [List.getElem?_map, hu] at hg
      cases hg
      exact .lit u
  refine (h x y _ (fun _ => False) #[.agg (enc x).toArray, .agg (enc y).toArray] (fun _ h => h.elim) (fun _ _ h => by cases h) rfl ?_).mono ?_
  · intro i g u hg hu
    match i, hg, hu with
    | 0, hg, hu => cases hg; cases hu; exact hagg x _
    | 1, hg, hu => cases hg; cases hu; exact hagg y _
    | n + 2, hg, hu => simp at hg
  · rintro e w' ⟨v, rfl, hv, hk⟩
    cases hv
    exact ⟨rfl, keeps_grow hk⟩

theorem flat_get {enc : α → List Value} {k : Nat} (hk : ∀ x, (enc x).length = k) : ∀ (d : List α) (j : Nat), j < d.length * k → (d.flatMap enc)[j]? = some (flatK enc k d.toArray)[j]! := by
  intro d
  have key : ∀ (d : List α) (j : Nat), j < d.length * k → (d.flatMap enc)[j]? = some ((enc (d[j / k]!))[j % k]!) := by
    intro d
    induction d with
    | nil => intro j hj; simp at hj
    | cons x r ih =>
      intro j hj
      have hk0 : 0 < k := by
        rcases Nat.eq_zero_or_pos k with h | h
        · subst h; simp at hj
        · exact h
      rw [List.flatMap_cons]
      by_cases hjk : j < k
      · have hlx := hk x
        rw [List.getElem?_append_left (by omega), Nat.div_eq_of_lt hjk, Nat.mod_eq_of_lt hjk]
        simp [show j < (enc x).length by omega]
      · rw [List.getElem?_append_right (by rw [hk]; omega), hk]
        have e1 : j / k = (j - k) / k + 1 := Nat.div_eq_sub_div hk0 (by omega)
        have e2 : j % k = (j - k) % k := (Nat.mod_eq_sub_mod (by omega))
        rw [ih (j - k) (by simp [Nat.add_mul] at hj; omega), e1, e2]
        simp
  intro j hj
  rw [key d j hj, get_flatK _ _ _ _ (by simpa using hj)]
  simp
theorem litsOf_len {enc : α → List Value} {k : Nat} (hk : ∀ x, (enc x).length = k) (d : List α) : (litsOf enc d).length = d.length * k := by
  unfold litsOf
  rw [List.length_map]
  induction d with
  | nil => simp
  | cons x r ih => rw [List.flatMap_cons, List.length_append, ih, hk, List.length_cons, Nat.add_mul]; omega

/-- What the library's contract says of a function that sorts. -/
structure SortsK (P : Program) (f : FuncId) (enc : α → List Value) (k : Nat) (cf : α → α → Int) (g : FuncId) : Prop where
  nil : ∀ (p : Option Addr) (cap : Nat) (fv : Value) (w : World), Calls P f #[.slice p 0 cap, fv] w fun e w' => e = .returned (.tuple #[]) ∧ w' = w
  row : ∀ (blk off cap : Nat) (d : Array α) (w : World), CmpLays P g #[] enc k cf blk off d.size w → HoldsK enc k w blk off d → blk < w.heap.size → d.size < 4611686018427387904 →
    Calls P f #[.slice (some ⟨blk, off, none⟩) d.size cap, .func (.func g) #[] #[]] w fun e w' => e = .returned (.tuple #[]) ∧ ∃ n os, w' = sortWorldK enc k w blk off n (d.toList.mergeSort fun x y => !(ltOf cf) y x).toArray os

theorem sort_fnM {f g : FuncId} {enc : α → List Value} {k : Nat} {cf : α → α → Int} (hS : SortsK P f enc k cf g) (hk : ∀ x, (enc x).length = k) (h1 : ∀ x, ∀ v ∈ enc x, v.oneCell' = true) (hcmp : ∀ x y, Fn' P [] g [.agg ((enc x).map .lit), .agg ((enc y).map .lit)] (.lit (.int .i64 (cf x y))))
    {t : TypeId} (ht : tsize P t = some k) (gl : List (Nat × List G)) (d : List α) (hd : d.length < 4611686018427387904) :
    FnM P gl f [.rsl 0 0 d.length, .clo (.func g) [] []] [(0, some ⟨t, litsOf enc d, Option.none⟩)] 1 1 (.tup []) [(0, some ⟨t, litsOf enc (d.mergeSort fun x y => !(ltOf cf) y x), Option.none⟩)] := by
  intro w β S vs hSl hβ hG hR hsz hvs
  obtain ⟨v0, v1, rfl⟩ : ∃ v0 v1, vs = #[v0, v1] := by
    obtain ⟨l⟩ := vs
    match l, hsz with
    | [a, b], _ => exact ⟨a, b, rfl⟩
  have r0 := hvs 0 _ v0 rfl rfl
  have r1 := hvs 1 _ v1 rfl rfl
  obtain ⟨fs, cs, rfl, hf0, hc0, _, _⟩ := r1.clo_form
  obtain rfl : fs = #[] := Array.eq_empty_of_size_eq_zero hf0
  obtain rfl : cs = #[] := Array.eq_empty_of_size_eq_zero hc0
  have hlen : (d.mergeSort fun x y => !(ltOf cf) y x).length = d.length := List.length_mergeSort d
  have hone : ∀ (b : List G) (i : Nat) (o : Ob), sget [(0, some ⟨t, b, Option.none⟩)] i = some o → i = 0 ∧ o = ⟨t, b, Option.none⟩ := by
    intro b i o ho
    rw [sget_cons] at ho
    split at ho
    · cases ho; exact ⟨by omega, rfl⟩
    · cases ho
  rcases r0.rsl_form with ⟨hb, rfl, hn⟩ | ⟨b, C, o', cap, hb, rfl, hn, hm, ho', hC⟩
  · have hd0 : d = [] := List.eq_nil_of_length_eq_zero hn
    subst hd0
    refine (hS.nil Option.none 0 _ w).mono ?_
    rintro e w' ⟨rfl, rfl⟩
    refine ⟨_, β, rfl, ?_⟩
    simp only [List.mergeSort_nil]
    exact ⟨fun _ _ => rfl, hR, fun b hb => .inl hb, .tup _ _ rfl (fun i g u hg => by simp at hg), Keeps.refl _ _⟩
  · obtain ⟨rfl, rfl⟩ := hC rfl
    have hob := hR.ob 0 _ rfl
    rcases hob with ⟨h2, _⟩ | ⟨b', x', o2, h2, _⟩ | ⟨b', C', cur, _, h2, h3, h4, h5, h6, h7⟩
    · rw [hb] at h2; cases h2
    · cases h2
    · rw [hb] at h2; cases h2
      dsimp only at h3 h4 h6 h7
      rw [tsz_of ht] at h4
      rw [litsOf_len hk] at h6
      have hcur : ∀ j, j < d.length * k → cur[j]? = some (flatK enc k d.toArray)[j]! := by
        intro j hj
        have hfl := flat_get hk d j hj
        obtain ⟨u, hu, _, hru⟩ := h7 j (.lit (flatK enc k d.toArray)[j]!) (by unfold litsOf; rw [List.getElem?_map, hfl]; rfl)
        rw [hu, hru.lit_eq]
      have hH : HoldsK enc k w b 0 d.toArray := by
        intro j hj
        rw [size_flatK] at hj
        refine ⟨?_, ?_⟩
        · rw [cell_of_row w b _ _ _ _ h3, Nat.zero_add, hcur j (by simpa using hj)]
          rfl
        · exact frozen_of_row w b _ _ _ h3
      have hlt : b < w.heap.size := (Array.getElem?_eq_some_iff.1 h3).1
      have hcall := hS.row b 0 cap d.toArray w (cmp_lays h1 hcmp b 0 _ w) hH hlt (by simpa using hd)
      rw [List.size_toArray] at hcall
      refine hcall.mono ?_
      rintro e w' ⟨rfl, n', os, rfl⟩
      refine ⟨_, β, rfl, ?_⟩
      try simp only [List.toList_toArray] at *
      generalize hD : (d.mergeSort fun x y => !(ltOf cf) y x) = D at *
      have hfin : (sortWorldK enc k w b 0 n' D.toArray os).heap[b]? = some (.cells (putCells id 0 (flatK enc k D.toArray) cur) t (0, 0)) := by
        unfold sortWorldK putRowK
        rw [heap_grow_old _ _ (by simpa [putRow, mapBlock, ahead] using hlt)]
        simp only [putRow, mapBlock]
        rw [Array.getElem?_modify, if_pos rfl, show (Sort.ahead w n').heap[b]? = w.heap[b]? from rfl, h3]
        rfl
      have hkeep : Keeps (Liv β [(0, some ⟨t, litsOf enc d, Option.none⟩)]) w (sortWorldK enc k w b 0 n' D.toArray os) := by
        refine ⟨rfl, rfl, rfl, ?_, fun j hj hn => ?_, ?_⟩
        · simp [sortWorldK, putRowK, putRow, mapBlock, ahead]
        · have hjb : j ≠ b := fun e => hn ⟨0, _, cap, rfl, by rw [e]; exact hb⟩
          unfold sortWorldK putRowK
          rw [heap_grow_old _ _ (by simpa [putRow, mapBlock, ahead] using hj)]
          simp [putRow, mapBlock, ahead, Array.getElem?_modify, Ne.symm hjb]
        · simp [sortWorldK, putRowK, putRow, mapBlock, ahead, grow]
      have hsize : (putCells id 0 (flatK enc k D.toArray) cur).size = cur.size := by simp [putCells]
      refine ⟨fun _ _ => rfl, ⟨fun i o ho => ?_, fun i j o o2 b2 C2 D2 hi hj _ _ => ?_, fun i o b2 C2 hi hb2 => ?_⟩, fun b2 hb2 => ?_, .tup _ _ rfl (fun i g u hg => by simp at hg), hkeep⟩
      · obtain ⟨rfl, rfl⟩ := hone _ i o ho
        refine .inr (.inr ⟨b, cap, _, rfl, hb, hfin, by rw [hsize, tsz_of ht]; exact h4, h5, by rw [hsize]; show (litsOf enc D).length ≤ _; rw [litsOf_len hk, hlen]; exact h6, fun j g hg => ?_⟩)
        have hg' : (litsOf enc D)[j]? = some g := hg
        have hj : j < D.length * k := by
          have := (List.getElem?_eq_some_iff.1 hg').1
          rwa [litsOf_len hk] at this
        have hfl := flat_get hk D j hj
        unfold litsOf at hg'
        rw [List.getElem?_map, hfl] at hg'
        cases hg'
        have hj2 : j < cur.size := by rw [hlen] at hj; omega
        refine ⟨_, ?_, h1 D.toArray[j / k]! _ ?_, .imm _ _ (.lit _)⟩
        · unfold putCells
          rw [Array.getElem?_mapIdx, Array.getElem?_eq_getElem hj2]
          simp [hj]
        · rw [get_flatK _ _ _ _ (by simpa using hj)]
          have hk0 : 0 < k := by
            rcases Nat.eq_zero_or_pos k with h | h
            · subst h; simp at hj
            · exact h
          have hm : j % k < (enc D.toArray[j / k]!).length := by rw [hk]; exact Nat.mod_lt _ hk0
          rw [List.getElem!_eq_getElem?_getD, List.getElem?_eq_getElem hm]
          exact List.getElem_mem hm
      · exact (hone _ i o hi).1.trans (hone _ j o2 hj).1.symm
      · obtain ⟨rfl, _⟩ := hone _ i o hi
        exact hR.sep 0 _ b2 C2 rfl hb2
      · obtain ⟨i, o, C2, hi, hb2⟩ := hb2
        obtain ⟨rfl, _⟩ := hone _ i o hi
        exact .inl ⟨0, _, C2, rfl, hb2⟩
end
end
section
set_option linter.unusedVariables false
set_option linter.unusedSectionVars false
section
variable {α : Type} [DecidableEq α]
def insA (ks : List α) (m : α) : List α := if m ∈ ks then ks else ks ++ [m]
def canA (ks : List α) (e : List α × α) : Bool := !decide (e.2 ∈ ks) && e.1.all (fun x => decide (x ∈ ks))
def stepA (ks : List α) (e : List α × α) : List α := if canA ks e = true then ks ++ [e.2] else ks
def passA (l : List (List α × α)) (ks : List α) : List α := l.foldl stepA ks
def iterA (l : List (List α × α)) : Nat → List α → List α
  | 0, ks => ks
  | n + 1, ks => iterA l n (passA l ks)
def missA (l : List (List α × α)) (ks : List α) : Nat := (l.filter fun e => !decide (e.2 ∈ ks)).length
def finA (l : List (List α × α)) (ks : List α) : List α := iterA l (missA l ks) ks

theorem step_pre (ks : List α) (e : List α × α) : ∃ s, stepA ks e = ks ++ s ∧ ∀ x ∈ s, x = e.2 ∧ e.2 ∉ ks ∧ ∀ y ∈ e.1, y ∈ ks := by
  unfold stepA canA
  split
  · rename_i h
    simp at h
    exact ⟨[e.2], rfl, fun x hx => ⟨by simpa using hx, h.1, h.2⟩⟩
  · exact ⟨[], by simp, by simp⟩
theorem pass_pre : ∀ (l : List (List α × α)) (ks : List α), ∃ s, passA l ks = ks ++ s ∧ ∀ x ∈ s, ∃ e ∈ l, x = e.2 ∧ e.2 ∉ ks
  | [], ks => ⟨[], by simp [passA], by simp⟩
  | e :: r, ks => by
    obtain ⟨s, hs, hs'⟩ := step_pre ks e
    obtain ⟨s2, h2, h2'⟩ := pass_pre r (stepA ks e)
    refine ⟨s ++ s2, ?_, ?_⟩
    · show passA r (stepA ks e) = _
      rw [h2, hs, List.append_assoc]
    · intro x hx
      rcases List.mem_append.1 hx with hx | hx
      · obtain ⟨h3, h4, _⟩ := hs' x hx
        exact ⟨e, by simp, h3, h4⟩
      · obtain ⟨e', he', h3, h4⟩ := h2' x hx
        exact ⟨e', by simp [he'], h3, fun h => h4 (by rw [hs]; simp [h])⟩
theorem pass_sub (l : List (List α × α)) (ks : List α) {x : α} (h : x ∈ ks) : x ∈ passA l ks := by
  obtain ⟨s, hs, _⟩ := pass_pre l ks
  rw [hs]; simp [h]
theorem pass_same_iff (l : List (List α × α)) (ks : List α) : passA l ks = ks ↔ (passA l ks).length = ks.length := by
  obtain ⟨s, hs, _⟩ := pass_pre l ks
  constructor
  · intro h; rw [h]
  · intro h
    rw [hs, List.length_append] at h
    have : s = [] := List.eq_nil_of_length_eq_zero (by omega)
    rw [hs, this, List.append_nil]
theorem miss_lt {l : List (List α × α)} {ks ks' : List α} (hsub : ∀ x ∈ ks, x ∈ ks') {e : List α × α} (he : e ∈ l) (h1 : e.2 ∉ ks) (h2 : e.2 ∈ ks') : missA l ks' < missA l ks := by
  unfold missA
  have mono : ∀ (l : List (List α × α)), (l.filter fun e => !decide (e.2 ∈ ks')).length ≤ (l.filter fun e => !decide (e.2 ∈ ks)).length := by
    intro l
    induction l with
    | nil => simp
    | cons x r ih =>
      rw [List.filter_cons, List.filter_cons]
      by_cases h : x.2 ∈ ks
      · simp [h, hsub _ h]; exact ih
      · by_cases h' : x.2 ∈ ks'
        · simp [h, h']; omega
        · simp [h, h']; exact ih
  induction l with
  | nil => cases he
  | cons x r ih =>
    rw [List.filter_cons, List.filter_cons]
    rcases List.mem_cons.1 he with rfl | he
    · have := mono r
      simp [h1, h2]; omega
    · have := ih he
      by_cases h : x.2 ∈ ks
      · simp [h, hsub _ h]; exact this
      · by_cases h' : x.2 ∈ ks'
        · simp [h, h']; omega
        · simp [h, h']; exact this
theorem pass_less {l : List (List α × α)} {ks : List α} (h : passA l ks ≠ ks) : missA l (passA l ks) < missA l ks := by
  obtain ⟨s, hs, hs'⟩ := pass_pre l ks
  cases s with
  | nil => exact absurd (by simpa using hs) h
  | cons x r =>
    obtain ⟨e, he, h1, h2⟩ := hs' x (by simp)
    exact miss_lt (fun y hy => pass_sub l ks hy) he h2 (by rw [hs, ← h1]; simp)
theorem pass_none {l : List (List α × α)} {ks : List α} (h : missA l ks = 0) : passA l ks = ks := by
  obtain ⟨s, hs, hs'⟩ := pass_pre l ks
  cases s with
  | nil => simpa using hs
  | cons x r =>
    obtain ⟨e, he, h1, h2⟩ := hs' x (by simp)
    exfalso
    unfold missA at h
    have : e ∈ l.filter fun e => !decide (e.2 ∈ ks) := by simp [he, h2]
    rw [List.eq_nil_of_length_eq_zero h] at this
    cases this
theorem iter_fix {l : List (List α × α)} {ks : List α} (h : passA l ks = ks) : ∀ n, iterA l n ks = ks
  | 0 => rfl
  | n + 1 => by unfold iterA; rw [h]; exact iter_fix h n
theorem iter_stable {l : List (List α × α)} : ∀ (n : Nat) (ks : List α), missA l ks ≤ n → iterA l n ks = finA l ks ∧ passA l (iterA l n ks) = iterA l n ks := by
  have key : ∀ (n m : Nat) (ks : List α), missA l ks ≤ n → missA l ks ≤ m → iterA l n ks = iterA l m ks ∧ passA l (iterA l n ks) = iterA l n ks := by
    intro n
    induction n with
    | zero =>
      intro m ks h hm
      have h0 := pass_none (l := l) (ks := ks) (by omega)
      exact ⟨(iter_fix h0 m).symm, h0⟩
    | succ n ih =>
      intro m ks h hm
      by_cases hp : passA l ks = ks
      · rw [iter_fix hp, iter_fix hp]; exact ⟨rfl, hp⟩
      · have h1 := pass_less hp
        cases m with
        | zero => omega
        | succ m => exact ih m (passA l ks) (by omega) (by omega)
  exact fun n ks h => key n _ ks h (Nat.le_refl _)
theorem fin_pass (l : List (List α × α)) (ks : List α) : finA l (passA l ks) = finA l ks := by
  by_cases hp : passA l ks = ks
  · rw [hp]
  · have h1 := pass_less hp
    obtain ⟨m, hm⟩ : ∃ m, missA l ks = m + 1 := ⟨missA l ks - 1, by omega⟩
    have h2 := (iter_stable (l := l) m (passA l ks) (by omega)).1
    rw [← h2]
    unfold finA
    rw [hm]
    rfl
theorem fin_fix {l : List (List α × α)} {ks : List α} (h : passA l ks = ks) : finA l ks = ks := iter_fix h _
theorem fin_stable (l : List (List α × α)) (ks : List α) : passA l (finA l ks) = finA l ks := (iter_stable _ ks (Nat.le_refl _)).2
theorem miss_le (l : List (List α × α)) (ks : List α) : missA l ks ≤ l.length := List.length_filter_le _ _
theorem fin_iter (l : List (List α × α)) : ∀ (n : Nat) (ks : List α), finA l (iterA l n ks) = finA l ks
  | 0, ks => rfl
  | n + 1, ks => by unfold iterA; rw [fin_iter l n, fin_pass]
theorem iter_add (l : List (List α × α)) : ∀ (n : Nat) (ks : List α), iterA l (n + 1) ks = passA l (iterA l n ks)
  | 0, ks => rfl
  | n + 1, ks => by
    show iterA l (n + 1) (passA l ks) = _
    rw [iter_add l n (passA l ks)]
    rfl
theorem fin_end (l : List (List α × α)) (ks : List α) : iterA l (l.length + 1) ks = finA l ks := (iter_stable _ ks (by have := miss_le l ks; omega)).1

/-- What can be made. -/
inductive DerA (l : List (List α × α)) (ks : List α) : α → Prop
  | base {x : α} (h : x ∈ ks) : DerA l ks x
  | step {e : List α × α} (he : e ∈ l) (h : ∀ y ∈ e.1, DerA l ks y) : DerA l ks e.2
theorem DerA.mono {l l' : List (List α × α)} {ks ks' : List α} (hl : ∀ e ∈ l, e ∈ l') (hk : ∀ x ∈ ks, DerA l' ks' x) {x : α} (h : DerA l ks x) : DerA l' ks' x := by
  induction h with
  | base h => exact hk _ h
  | step he _ ih => exact .step (hl _ he) ih
theorem der_step {l : List (List α × α)} {ks k : List α} {e : List α × α} (he : e ∈ l) (h : ∀ x ∈ k, DerA l ks x) : ∀ x ∈ stepA k e, DerA l ks x := by
  obtain ⟨s, hs, hs'⟩ := step_pre k e
  rw [hs]
  intro x hx
  rcases List.mem_append.1 hx with hx | hx
  · exact h x hx
  · obtain ⟨rfl, _, h3⟩ := hs' x hx
    exact .step he fun y hy => h y (h3 y hy)
theorem der_pass {l : List (List α × α)} {ks : List α} : ∀ (r : List (List α × α)) (k : List α), (∀ e ∈ r, e ∈ l) → (∀ x ∈ k, DerA l ks x) → ∀ x ∈ passA r k, DerA l ks x
  | [], k, _, h => h
  | e :: r, k, hr, h => der_pass r (stepA k e) (fun e' he' => hr e' (by simp [he'])) (der_step (hr e (by simp)) h)
theorem der_iter {l : List (List α × α)} {ks : List α} : ∀ (n : Nat) (k : List α), (∀ x ∈ k, DerA l ks x) → ∀ x ∈ iterA l n k, DerA l ks x
  | 0, k, h => h
  | n + 1, k, h => der_iter n (passA l k) (der_pass l k (fun _ h => h) h)
theorem iter_sub (l : List (List α × α)) : ∀ (n : Nat) (ks : List α) {x : α}, x ∈ ks → x ∈ iterA l n ks
  | 0, ks, x, h => h
  | n + 1, ks, x, h => iter_sub l n (passA l ks) (pass_sub l ks h)
theorem pass_fix_step : ∀ (l : List (List α × α)) (k : List α), passA l k = k → ∀ e ∈ l, stepA k e = k
  | [], k, _, e, he => by cases he
  | e' :: r, k, h, e, he => by
    have h1 : passA r (stepA k e') = k := h
    obtain ⟨s, hs, _⟩ := step_pre k e'
    obtain ⟨s2, hs2, _⟩ := pass_pre r (stepA k e')
    have h2 : stepA k e' = k := by
      rw [hs2, hs, List.append_assoc] at h1
      have h1 : k ++ (s ++ s2) = k ++ [] := by rw [h1, List.append_nil]
      have := List.append_cancel_left h1
      have : s = [] := by
        cases s with
        | nil => rfl
        | cons _ _ => cases this
      rw [hs, this, List.append_nil]
    rcases List.mem_cons.1 he with rfl | he
    · exact h2
    · rw [h2] at h1
      exact pass_fix_step r k h1 e he
theorem fin_der (l : List (List α × α)) (ks : List α) (x : α) : x ∈ finA l ks ↔ DerA l ks x := by
  constructor
  · exact der_iter _ ks (fun x h => .base h) x
  · intro h
    induction h with
    | base h => exact iter_sub l _ ks h
    | @step e he _ ih =>
      have h1 := pass_fix_step l _ (fin_stable l ks) e he
      unfold stepA canA at h1
      by_cases h2 : e.2 ∈ finA l ks
      · exact h2
      · rw [if_pos (by simp only [h2, decide_false, Bool.not_false, Bool.true_and, List.all_eq_true, decide_eq_true_eq]; exact ih)] at h1
        have := congrArg List.length h1
        simp at this
theorem step_nodup {ks : List α} (h : ks.Nodup) (e : List α × α) : (stepA ks e).Nodup := by
  unfold stepA canA
  split
  · rename_i h2
    simp at h2
    rw [List.nodup_append]
    refine ⟨h, by simp, ?_⟩
    intro a ha b hb
    have : b = e.2 := by simpa using hb
    subst this
    exact fun x => h2.1 (x ▸ ha)
  · exact h
theorem pass_nodup : ∀ (l : List (List α × α)) {ks : List α}, ks.Nodup → (passA l ks).Nodup
  | [], ks, h => h
  | e :: r, ks, h => pass_nodup r (step_nodup h e)
theorem iter_nodup (l : List (List α × α)) : ∀ (n : Nat) {ks : List α}, ks.Nodup → (iterA l n ks).Nodup
  | 0, ks, h => h
  | n + 1, ks, h => iter_nodup l n (pass_nodup l h)
def startA (t : List α) : List α := t.foldl insA []
theorem ins_mem {ks : List α} {m x : α} : x ∈ insA ks m ↔ x ∈ ks ∨ x = m := by
  unfold insA
  split
  · rename_i h
    constructor
    · exact .inl
    · rintro (h' | rfl)
      · exact h'
      · exact h
  · simp
theorem ins_nodup {ks : List α} (h : ks.Nodup) (m : α) : (insA ks m).Nodup := by
  unfold insA
  split
  · exact h
  · rename_i h2
    rw [List.nodup_append]
    refine ⟨h, by simp, ?_⟩
    intro a ha b hb
    have : b = m := by simpa using hb
    subst this
    exact fun x => h2 (x ▸ ha)
theorem foldl_ins : ∀ (t ks : List α), ks.Nodup → (t.foldl insA ks).Nodup ∧ ∀ x, x ∈ t.foldl insA ks ↔ x ∈ ks ∨ x ∈ t
  | [], ks, h => ⟨h, by simp⟩
  | m :: r, ks, h => by
    obtain ⟨h1, h2⟩ := foldl_ins r (insA ks m) (ins_nodup h m)
    refine ⟨h1, fun x => ?_⟩
    rw [List.foldl_cons, h2, ins_mem]
    simp [or_assoc]
theorem start_nodup (t : List α) : (startA t).Nodup := (foldl_ins t [] .nil).1
theorem start_mem (t : List α) (x : α) : x ∈ startA t ↔ x ∈ t := by rw [startA, (foldl_ins t [] .nil).2]; simp

/-! ### sorted -/
variable (lt : α → α → Bool)
structure TotA : Prop where
  irrefl : ∀ x, lt x x = false
  trans : ∀ x y z, lt x y = true → lt y z = true → lt x z = true
  tot : ∀ x y, lt x y = false → lt y x = false → x = y
def insS (out : List α) (x : α) : List α := out.takeWhile (fun y => lt y x) ++ x :: out.dropWhile (fun y => lt y x)
def sortS (l : List α) : List α := l.foldl (insS lt) []
variable {lt}
theorem TotA.asym (h : TotA lt) {x y : α} (h1 : lt x y = true) : lt y x = false := by
  cases h2 : lt y x with
  | false => rfl
  | true => have := h.trans _ _ _ h1 h2; rw [h.irrefl] at this; cases this
theorem insS_perm (out : List α) (x : α) : (insS lt out x).Perm (x :: out) := by
  unfold insS
  refine List.perm_middle.trans ?_
  rw [List.takeWhile_append_dropWhile]
theorem insS_sorted (h : TotA lt) : ∀ {out : List α} {x : α}, out.Pairwise (fun a b => lt b a = false) → (insS lt out x).Pairwise (fun a b => lt b a = false)
  | [], x, _ => by simp [insS]
  | a :: r, x, hp => by
    rw [List.pairwise_cons] at hp
    unfold insS
    rw [List.takeWhile_cons, List.dropWhile_cons]
    by_cases hax : lt a x = true
    · rw [if_pos hax, if_pos hax]
      have ih := insS_sorted h (x := x) hp.2
      unfold insS at ih
      rw [List.cons_append, List.pairwise_cons]
      refine ⟨fun b hb => ?_, ih⟩
      have hb' : b ∈ x :: r := (insS_perm r x).mem_iff.1 (by unfold insS; exact hb)
      rcases List.mem_cons.1 hb' with rfl | hb'
      · exact h.asym hax
      · exact hp.1 b hb'
    · have hax : lt a x = false := by simpa using hax
      rw [if_neg (by simp [hax]), if_neg (by simp [hax])]
      rw [List.nil_append, List.pairwise_cons]
      refine ⟨fun b hb => ?_, List.pairwise_cons.2 hp⟩
      rcases List.mem_cons.1 hb with rfl | hb
      · exact hax
      · -- a ≤ b, x ≤ a
        cases hbx : lt b x with
        | false => rfl
        | true =>
          have h1 := hp.1 b hb
          cases hab : lt a b with
          | true => have := h.trans _ _ _ hab hbx; rw [hax] at this; cases this
          | false => have := h.tot _ _ hab h1; subst this; rw [hax] at hbx; cases hbx
theorem foldl_insS (h : TotA lt) : ∀ (l out : List α), out.Pairwise (fun a b => lt b a = false) → (l.foldl (insS lt) out).Pairwise (fun a b => lt b a = false) ∧ (l.foldl (insS lt) out).Perm (out ++ l)
  | [], out, hp => ⟨hp, by simp⟩
  | x :: r, out, hp => by
    obtain ⟨h1, h2⟩ := foldl_insS h r (insS lt out x) (insS_sorted h hp)
    refine ⟨h1, h2.trans ?_⟩
    refine ((insS_perm out x).append_right r).trans ?_
    simp only [List.cons_append]
    exact (List.perm_middle (l₁ := out) (l₂ := r) (a := x)).symm
theorem sortS_sorted (h : TotA lt) (l : List α) : (sortS lt l).Pairwise (fun a b => lt b a = false) := (foldl_insS h l [] .nil).1
theorem sortS_perm (h : TotA lt) (l : List α) : (sortS lt l).Perm l := by
  have h1 := (foldl_insS h l [] .nil).2
  rwa [List.nil_append] at h1
theorem sorted_eq (h : TotA lt) {a b : List α} (ha : a.Pairwise (fun a b => lt b a = false)) (hb : b.Pairwise (fun a b => lt b a = false)) (hp : a.Perm b) : a = b :=
  List.Perm.eq_of_pairwise (fun x y _ _ h1 h2 => h.tot _ _ h2 h1) ha hb hp
theorem mergeSort_eq (h : TotA lt) {a b : List α} (hp : a.Perm b) : (a.mergeSort fun x y => !lt y x) = sortS lt b := by
  refine sorted_eq h ?_ (sortS_sorted h b) ((List.mergeSort_perm a _).trans (hp.trans (sortS_perm h b).symm))
  have h1 := List.pairwise_mergeSort (le := fun x y => !lt y x) (fun a b c h1 h2 => by
    simp only [Bool.not_eq_true'] at h1 h2 ⊢
    cases h3 : lt c a with
    | false => rfl
    | true =>
      cases h4 : lt c b with
      | true => rw [h4] at h2; cases h2
      | false =>
        cases h5 : lt b c with
        | true => have := h.trans _ _ _ h5 h3; rw [h1] at this; cases this
        | false => have := h.tot _ _ h4 h5; subst this; rw [h1] at h3; cases h3) (fun a b => by
    cases h3 : lt a b with
    | false => simp
    | true => simp [h.asym h3]) a
  exact h1.imp (fun h => by simpa using h)
theorem sortS_nodup (h : TotA lt) {l : List α} (hn : l.Nodup) : (sortS lt l).Nodup := (sortS_perm h l).nodup_iff.2 hn
theorem sortS_strict (h : TotA lt) {l : List α} (hn : l.Nodup) : (sortS lt l).Pairwise (fun a b => lt a b = true) := by
  have h1 := (sortS_sorted h l).and (sortS_nodup h hn)
  refine h1.imp ?_
  rintro a b ⟨h2, h3⟩
  cases h4 : lt a b with
  | true => rfl
  | false => exact absurd (h.tot _ _ h4 h2) h3
theorem sortS_mem (h : TotA lt) (l : List α) (x : α) : x ∈ sortS lt l ↔ x ∈ l := (sortS_perm h l).mem_iff
theorem sortS_congr (h : TotA lt) {a b : List α} (ha : a.Nodup) (hb : b.Nodup) (hab : ∀ x, x ∈ a ↔ x ∈ b) : sortS lt a = sortS lt b :=
  sorted_eq h (sortS_sorted h a) (sortS_sorted h b) ((sortS_perm h a).trans (((List.perm_ext_iff_of_nodup ha hb).2 hab).trans (sortS_perm h b).symm))
/-- All that can be made, in its row. -/
def reachA (lt : α → α → Bool) (l : List (List α × α)) (t : List α) : List α := sortS lt (finA l (startA t))
theorem fin_nodup (l : List (List α × α)) (t : List α) : (finA l (startA t)).Nodup := iter_nodup l _ (start_nodup t)
theorem reach_mem (h : TotA lt) (l : List (List α × α)) (t : List α) (x : α) : x ∈ reachA lt l t ↔ DerA l t x := by
  unfold reachA
  rw [sortS_mem h, fin_der]
  exact ⟨fun d => d.mono (fun _ h => h) (fun y hy => .base ((start_mem t y).1 hy)), fun d => d.mono (fun _ h => h) (fun y hy => .base ((start_mem t y).2 hy))⟩
theorem reach_has (h : TotA lt) (l : List (List α × α)) (t : List α) {x : α} (hx : x ∈ t) : x ∈ reachA lt l t := (reach_mem h l t x).2 (.base hx)
theorem reach_mono (h : TotA lt) {l l' : List (List α × α)} {t t' : List α} (hl : ∀ e ∈ l, e ∈ l') (ht : ∀ x ∈ t, x ∈ t') {x : α} (hx : x ∈ reachA lt l t) : x ∈ reachA lt l' t' := (reach_mem h l' t' x).2 (((reach_mem h l t x).1 hx).mono hl fun y hy => .base (ht y hy))
theorem reach_strict (h : TotA lt) (l : List (List α × α)) (t : List α) : (reachA lt l t).Pairwise (fun a b => lt a b = true) := sortS_strict h (fin_nodup l t)
theorem reach_again (h : TotA lt) (l : List (List α × α)) (t : List α) : reachA lt l (reachA lt l t) = reachA lt l t := by
  refine sortS_congr h (fin_nodup _ _) (fin_nodup _ _) fun x => ?_
  rw [← sortS_mem h, ← sortS_mem h (finA l (startA t))]
  show x ∈ reachA lt l (reachA lt l t) ↔ x ∈ reachA lt l t
  constructor
  · intro hx
    exact (reach_mem h l t x).2 (((reach_mem h l _ x).1 hx).mono (fun _ h => h) fun y hy => (reach_mem h l t y).1 hy)
  · exact fun hx => reach_has h l _ hx
end
end
section
open Go.RowKit
set_option linter.unusedVariables false
set_option linter.unusedSimpArgs false

/-! ### rows of things of k cells each -/
section
variable {α : Type} {f : α → List G} {k : Nat}
theorem rows_len (hk : ∀ x, (f x).length = k) (l : List α) : (l.flatMap f).length = l.length * k := by
  induction l with
  | nil => simp
  | cons x r ih => rw [List.flatMap_cons, List.length_append, ih, hk, List.length_cons, Nat.add_mul]; omega
theorem rows_drop (hk : ∀ x, (f x).length = k) : ∀ (l : List α) (i : Nat), (l.flatMap f).drop (i * k) = (l.drop i).flatMap f
  | l, 0 => by simp
  | [], i + 1 => by simp
  | x :: r, i + 1 => by
    rw [List.flatMap_cons, Nat.add_mul, Nat.one_mul, List.drop_append, hk, Nat.add_sub_cancel, rows_drop hk r i, List.drop_of_length_le (by rw [hk]; omega)]
    rfl
theorem rows_take (hk : ∀ x, (f x).length = k) : ∀ (l : List α) (i : Nat), (l.flatMap f).take (i * k) = (l.take i).flatMap f
  | l, 0 => by simp
  | [], i + 1 => by simp
  | x :: r, i + 1 => by
    rw [List.flatMap_cons, Nat.add_mul, Nat.one_mul, Nat.add_comm, List.take_append, hk, Nat.add_sub_cancel_left, rows_take hk r i, List.take_of_length_le (by rw [hk]; omega)]
    rfl
theorem rows_one (hk : ∀ x, (f x).length = k) {l : List α} {i : Nat} {x : α} (h : l[i]? = some x) : ((l.flatMap f).drop (i * k)).take k = f x := by
  rw [rows_drop hk]
  have hi := (List.getElem?_eq_some_iff.1 h).1
  have hx := (List.getElem?_eq_some_iff.1 h).2
  rw [List.drop_eq_getElem_cons hi, List.flatMap_cons, List.take_append_of_le_length (by rw [hk]; exact Nat.le_refl _), List.take_of_length_le (by rw [hk]; exact Nat.le_refl _), hx]
theorem rows_at (hk : ∀ x, (f x).length = k) {l : List α} {i j : Nat} {x : α} (h : l[i]? = some x) (hj : j < k) : (l.flatMap f)[i * k + j]? = (f x)[j]? := by
  rw [← rows_one hk h, List.getElem?_take_of_lt hj, List.getElem?_drop]
theorem rows_bound {l : List α} {i : Nat} {x : α} (h : l[i]? = some x) : i * k + k ≤ l.length * k := by
  have hi := (List.getElem?_eq_some_iff.1 h).1
  have := Nat.mul_le_mul_right k (Nat.succ_le_of_lt hi)
  rwa [Nat.succ_mul] at this
theorem rows_imm (hi : ∀ x, ∀ g ∈ f x, ImmG g) (l : List α) : ∀ g ∈ l.flatMap f, ImmG g := fun g hg => by
  obtain ⟨x, _, hx⟩ := List.mem_flatMap.1 hg
  exact hi x g hx
end
def encT (m : Tm) : List Value := [.int .i64 m.e, .int .i64 m.a, .int .i64 m.b, .int .u64 m.c, .int .i64 m.s, .int .i64 m.t]
theorem len_cT (m : Tm) : (cT m).length = 6 := rfl
theorem gT_c (m : Tm) : gT m = .agg (cT m) := rfl
abbrev cellsT (l : List Tm) : List G := l.flatMap cT
theorem cellsT_lits (l : List Tm) : litsOf encT l = cellsT l := by
  unfold litsOf cellsT
  rw [List.map_flatMap]
  rfl
theorem cT_imm (m : Tm) : ∀ g ∈ cT m, ImmG g := fun g hg => by
  simp only [cT, List.mem_cons, List.not_mem_nil, or_false] at hg
  rcases hg with rfl | rfl | rfl | rfl | rfl | rfl <;> exact imm_lit _
theorem len_cells (l : List Tm) : (cellsT l).length = l.length * 6 := rows_len len_cT l
theorem cellsT_imm (l : List Tm) : ∀ g ∈ cellsT l, ImmG g := rows_imm cT_imm l
/-- A rule: from these, that. -/
abbrev Ed := List Tm × Tm
def cE (e : Ed) : List G := .sl (cellsT e.1) e.1.length :: cT e.2
theorem len_cE (e : Ed) : (cE e).length = 7 := rfl
abbrev cellsE (l : List Ed) : List G := l.flatMap cE
theorem cE_imm (e : Ed) : ∀ g ∈ cE e, ImmG g := fun g hg => by
  rcases List.mem_cons.1 hg with rfl | hg
  · exact imm_sl _ _
  · exact cT_imm _ g hg
theorem len_cellsE (l : List Ed) : (cellsE l).length = l.length * 7 := rows_len len_cE l
theorem cellsE_imm (l : List Ed) : ∀ g ∈ cellsE l, ImmG g := rows_imm cE_imm l
abbrev rowT (l : List Tm) : G := .sl (cellsT l) l.length
abbrev rowE (l : List Ed) : G := .sl (cellsE l) l.length

theorem ixT {l : List Tm} {i : Nat} {m : Tm} (h : l[i]? = some m) : gindex Tryz.prog 25 (rowT l) (i : Int) = some (.ptr (cellsT l) (i * 6)) := by
  have hi := (List.getElem?_eq_some_iff.1 h).1
  have hb := rows_bound (k := 6) h
  have hl := len_cells l
  simp only [gindex]
  rw [show telem Tryz.prog 25 = some 38 by kernel_rfl]
  simp only []
  rw [show tsize Tryz.prog 38 = some 6 by kernel_rfl]
  simp only [Option.bind_some]
  rw [if_pos (by refine ⟨by omega, by omega, ?_⟩; rw [hl]; simp; omega)]
  simp
theorem ixTr {l : List Tm} {i q : Nat} {m : Tm} (h : l[i]? = some m) : gindex Tryz.prog 25 (.rsl q 0 l.length) (i : Int) = some (.ref q (i * 6)) := by
  have hi := (List.getElem?_eq_some_iff.1 h).1
  simp only [gindex]
  rw [show telem Tryz.prog 25 = some 38 by kernel_rfl]
  simp only []
  rw [show tsize Tryz.prog 38 = some 6 by kernel_rfl]
  simp only [Option.bind_some]
  rw [if_pos (by omega)]
  simp
theorem partT {l : List Tm} {i : Nat} {m : Tm} (h : l[i]? = some m) : gpart Tryz.prog 38 (cellsT l) (i * 6) = some (gT m) := by
  have hb := rows_bound (k := 6) h
  unfold gpart
  rw [show tagg Tryz.prog 38 = some true by kernel_rfl, show tsize Tryz.prog 38 = some 6 by kernel_rfl]
  simp only []
  rw [if_pos (by rw [len_cells]; exact hb), rows_one len_cT h]
  rfl
theorem ldT {l : List Tm} {i : Nat} {m : Tm} {σ : Sto} (h : l[i]? = some m) : gload Tryz.prog σ 38 (.ptr (cellsT l) (i * 6)) = some (gT m) := by
  simp only [gload]
  exact partT h
theorem ldTr {l : List Tm} {i q : Nat} {m : Tm} {σ : Sto} {o : Ob} (ho : sget σ q = some o) (hc : o.l = cellsT l) (h : l[i]? = some m) : gload Tryz.prog σ 38 (.ref q (i * 6)) = some (gT m) := by
  show (sget σ q).bind _ = _
  rw [ho, Option.bind_some, hc]
  exact partT h
theorem eq_tm (m n : Tm) : decide (m.e = n.e ∧ (m.a = n.a ∧ m.b = n.b ∧ m.c = n.c) ∧ m.s = n.s ∧ m.t = n.t) = decide (m = n) := by
  apply decide_eq_decide.2
  obtain ⟨a, b, c, d, e, f⟩ := m
  obtain ⟨a', b', c', d', e', f'⟩ := n
  simp only [Tm.mk.injEq]
  constructor
  · rintro ⟨rfl, ⟨rfl, rfl, rfl⟩, rfl, rfl⟩; simp
  · rintro ⟨rfl, rfl, rfl, rfl, rfl, rfl⟩; simp
theorem neqT {p q : Operand} (m n : Tm) : gbin Tryz.prog .neq 38 p q (gT m) (gT n) = some (.lit (.bool (!decide (m = n)))) := by
  rw [← eq_tm]
  exact neq_spy ..
theorem gb_eql_agg {P : Program} {t : TypeId} {p q : Operand} {l m : List G} {us vs : List Value} {r : Bool} (hl : glits l = some us) (hm : glits m = some vs) (hg : spure P (eqGuard .eql t p q (.agg us.toArray) (.agg vs.toArray)) = some ()) (he : spure P (Op.equalIn 10000 t (.agg us.toArray) (.agg vs.toArray)) = some r) : gbin P .eql t p q (.agg l) (.agg m) = some (.lit (.bool r)) := by
  unfold gbin
  simp only [gval, hl, hm, Option.map_some]
  rw [sp_bind hg]
  have e : spure P (binOp .eql t (.agg us.toArray) (.agg vs.toArray)) = some (.bool r) := by
    show spure P (Op.equalIn 10000 t (.agg us.toArray) (.agg vs.toArray) >>= fun b => pure (Value.bool b)) = _
    rw [sp_bind he]
    rfl
  rw [e]
  rfl
theorem eqlT {p q : Operand} (m n : Tm) : gbin Tryz.prog .eql 38 p q (gT m) (gT n) = some (.lit (.bool (decide (m = n)))) := by
  rw [← eq_tm]
  exact gb_eql_agg (us := [.int .i64 m.e, .int .i64 m.a, .int .i64 m.b, .int .u64 m.c, .int .i64 m.s, .int .i64 m.t]) (vs := [.int .i64 n.e, .int .i64 n.a, .int .i64 n.b, .int .u64 n.c, .int .i64 n.s, .int .i64 n.t]) (by kernel_rfl) (by kernel_rfl) (by kernel_rfl) (eq_spy 9997 ..)
attribute [local irreducible] gT
attribute [local irreducible] Tr Run RunD GS TG Le Wk Frz Fn' ImmG Flat WkFr WkSt EndM
set_option maxHeartbeats 1000000 in
theorem has_fn (gl : List (Nat × List G)) (l : List Tm) (m : Tm) (hl : l.length < 4611686018427387904) : Fn' Tryz.prog gl 15 [rowT l, gT m] (.lit (.bool (decide (m ∈ l)))) := by
  refine fn_enter Tryz.func15 rfl (by simp [Tryz.ntmps15]) ?_
  simp only [St.enter, enterFr, Tryz.ntmps15]
  refine tr_seq ?_
  refine tr_region ?_
  refine run_box (l := cT m) (by rw [gT_c]; kernel_rfl) (by decide) ?_
  repeat' (first | apply tr_seq | apply tr_region | apply run_nil | apply thn_n | apply thn_e | apply thn_r | apply blk_e | apply blk_n | apply blk_r | (refine blk_ne ?_ ?_; decide) | apply tr_block | apply tr_skip | apply tr_label | apply tr_exit | apply tr_ret | (refine tr_region_draw (bars := []) mixed (by kernel_rfl) ?_) | apply rund_nil | ((first | apply run_v | apply rund_v); simp (disch := omega) [if_pos]; (first | rfl | exact ⟨rfl, rfl⟩); decide) | ((first | apply run_bs | apply run_app | apply run_build | apply run_box | apply run_alloc | apply rund_build); simp (disch := omega) [if_pos]; (first | rfl | exact ⟨rfl, rfl⟩ | exact ⟨rfl, rfl, rfl, rfl⟩); decide) | (apply run_sto; simp (disch := omega) [if_pos]; rfl))
  refine tr_loop (fun q : {q : Nat // q ≤ l.length ∧ m ∉ l.take q} => ⟨18, gl, [(0, rowT l), (3, .ref 0 0), (5, gInt (q.1 : Int))], [(0, some ⟨38, cT m, none⟩)], 1, 0, false⟩) (fun q => l.length - q.1) ⟨0, by simp⟩ ?_ ?_
  · (refine le_to [(0, 0)] (by decide) (by simp) (by simp) ?_ ?_; (repeat' (first | exact wkfr_nil | refine wkfr_cons ?_ ?_)); (all_goals (try (first | exact wk_junk | exact wk_imm (imm_lit _) | exact wk_imm (imm_sl _ _) | exact wk_imm (imm_ptr _ _) | exact wk_rsl rfl | exact wk_rslE rfl (by simp) | exact wk_ref rfl | exact wkst_nil | exact wk_int (by omega) | refine wkst_eq rfl rfl ?_ ?_ wkst_nil))))
    all_goals (first | rfl | exact cT_imm _)
  · rintro ⟨i, hi, hm⟩
    dsimp only
    repeat' (first | apply tr_seq | apply tr_region | apply run_nil | apply thn_n | apply thn_e | apply thn_r | apply blk_e | apply blk_n | apply blk_r | (refine blk_ne ?_ ?_; decide) | apply tr_block | apply tr_skip | apply tr_label | apply tr_exit | apply tr_ret | (refine tr_region_draw (bars := []) mixed (by kernel_rfl) ?_) | apply rund_nil | ((first | apply run_v | apply rund_v); simp (disch := omega) [if_pos]; (first | rfl | exact ⟨rfl, rfl⟩); decide) | ((first | apply run_bs | apply run_app | apply run_build | apply run_box | apply run_alloc | apply rund_build); simp (disch := omega) [if_pos]; (first | rfl | exact ⟨rfl, rfl⟩ | exact ⟨rfl, rfl, rfl, rfl⟩); decide) | (apply run_sto; simp (disch := omega) [if_pos]; rfl))
    refine tr_condP (p := i < l.length) ?_ (fun h => ?_) (fun h => ?_)
    · simp
    · obtain ⟨x, hx⟩ : ∃ x, l[i]? = some x := ⟨l[i], List.getElem?_eq_getElem h⟩
      have h1 := ixT hx
      have h2 : ∀ σ, gload Tryz.prog σ 38 (.ptr (cellsT l) (i * 6)) = some (gT x) := fun σ => ldT hx
      have h3 : gload Tryz.prog [(0, some ⟨38, cT m, none⟩)] 38 (.ref 0 0) = some (gT m) := by rw [gT_c]; kernel_rfl
      repeat' (first | apply tr_seq | apply tr_region | apply run_nil | apply thn_n | apply thn_e | apply thn_r | apply blk_e | apply blk_n | apply blk_r | (refine blk_ne ?_ ?_; decide) | apply tr_block | apply tr_skip | apply tr_label | apply tr_exit | apply tr_ret | (refine tr_region_draw (bars := []) mixed (by kernel_rfl) ?_) | apply rund_nil | ((first | apply run_v | apply rund_v); simp (disch := omega) [if_pos, -gindex, -gload, h1, h2, h3, eqlT]; (first | rfl | exact ⟨rfl, rfl⟩); decide) | ((first | apply run_bs | apply run_app | apply run_build | apply run_box | apply run_alloc | apply rund_build); simp (disch := omega) [if_pos, -gindex, -gload, h1, h2, h3, eqlT]; (first | rfl | exact ⟨rfl, rfl⟩ | exact ⟨rfl, rfl, rfl, rfl⟩); decide) | (apply run_sto; simp (disch := omega) [if_pos, -gindex, -gload, h1, h2, h3, eqlT]; rfl))
      refine tr_condP (p := x = m) ?_ (fun h4 => ?_) (fun h4 => ?_)
      · simp
      · repeat' (first | apply tr_seq | apply tr_region | apply run_nil | apply thn_n | apply thn_e | apply thn_r | apply blk_e | apply blk_n | apply blk_r | (refine blk_ne ?_ ?_; decide) | apply tr_block | apply tr_skip | apply tr_label | apply tr_exit | apply tr_ret | (refine tr_region_draw (bars := []) mixed (by kernel_rfl) ?_) | apply rund_nil | ((first | apply run_v | apply rund_v); simp (disch := omega) [if_pos]; (first | rfl | exact ⟨rfl, rfl⟩); decide) | ((first | apply run_bs | apply run_app | apply run_build | apply run_box | apply run_alloc | apply rund_build); simp (disch := omega) [if_pos]; (first | rfl | exact ⟨rfl, rfl⟩ | exact ⟨rfl, rfl, rfl, rfl⟩); decide) | (apply run_sto; simp (disch := omega) [if_pos]; rfl))
        refine ended_r rfl (frz_bool ?_)
        subst h4
        exact (decide_eq_true (List.mem_of_getElem? hx)).symm
      · repeat' (first | apply tr_seq | apply tr_region | apply run_nil | apply thn_n | apply thn_e | apply thn_r | apply blk_e | apply blk_n | apply blk_r | (refine blk_ne ?_ ?_; decide) | apply tr_block | apply tr_skip | apply tr_label | apply tr_exit | apply tr_ret | (refine tr_region_draw (bars := []) mixed (by kernel_rfl) ?_) | apply rund_nil | ((first | apply run_v | apply rund_v); simp (disch := omega) [if_pos]; (first | rfl | exact ⟨rfl, rfl⟩); decide) | ((first | apply run_bs | apply run_app | apply run_build | apply run_box | apply run_alloc | apply rund_build); simp (disch := omega) [if_pos]; (first | rfl | exact ⟨rfl, rfl⟩ | exact ⟨rfl, rfl, rfl, rfl⟩); decide) | (apply run_sto; simp (disch := omega) [if_pos]; rfl))
        refine ⟨⟨i + 1, by omega, ?_⟩, ?_, by show l.length - (i + 1) < l.length - i; omega⟩
        · rw [List.take_add_one, hx]
          simp only [Option.toList_some, List.mem_append, List.mem_singleton, not_or]
          exact ⟨hm, fun e => h4 e.symm⟩
        · (refine le_to [(0, 0)] (by decide) (by simp) (by simp) ?_ ?_; (repeat' (first | exact wkfr_nil | refine wkfr_cons ?_ ?_)); (all_goals (try (first | exact wk_junk | exact wk_imm (imm_lit _) | exact wk_imm (imm_sl _ _) | exact wk_imm (imm_ptr _ _) | exact wk_rsl rfl | exact wk_rslE rfl (by simp) | exact wk_ref rfl | exact wkst_nil | exact wk_int (by omega) | refine wkst_eq rfl rfl ?_ ?_ wkst_nil))))
          all_goals (first | rfl | exact cT_imm _)
    · repeat' (first | apply tr_seq | apply tr_region | apply run_nil | apply thn_n | apply thn_e | apply thn_r | apply blk_e | apply blk_n | apply blk_r | (refine blk_ne ?_ ?_; decide) | apply tr_block | apply tr_skip | apply tr_label | apply tr_exit | apply tr_ret | (refine tr_region_draw (bars := []) mixed (by kernel_rfl) ?_) | apply rund_nil | ((first | apply run_v | apply rund_v); simp (disch := omega) [if_pos]; (first | rfl | exact ⟨rfl, rfl⟩); decide) | ((first | apply run_bs | apply run_app | apply run_build | apply run_box | apply run_alloc | apply rund_build); simp (disch := omega) [if_pos]; (first | rfl | exact ⟨rfl, rfl⟩ | exact ⟨rfl, rfl, rfl, rfl⟩); decide) | (apply run_sto; simp (disch := omega) [if_pos]; rfl))
      refine ended_r rfl (frz_bool ?_)
      rw [List.take_of_length_le (by omega)] at hm
      exact (decide_eq_false hm).symm
end
section
open Go.RowKit
set_option linter.unusedVariables false
set_option linter.unusedSimpArgs false
section
variable {P : Program} {ops : Array Oper} {K : St → Prop} {rest : List Oper}
theorem tr_as {c c' : Code} {st : St} {Q : Exit → St → Prop} (h : c' = c) (t : Tr P c' st Q) : Tr P c st Q := h ▸ t
theorem rn_e {o : Oper} {st st1 : St} (hg : o.guard = none) (hs : GS P o st st1) (h : RunN P ops K rest st1) : RunN P ops K (o :: rest) st := .inl ⟨by simp [gwant, hg], hs.gsn.eqv fun s hs' => ⟨s, by rw [hs']; exact h, Eqv.refl _⟩⟩
theorem rn_v {o : Oper} {st : St} {d : Tmp} {g : G} (hg : o.guard = none) (ho : o.dst = some d) (hd : d < st.n) (he : evVal P (gev st) st.σ o = some g) (h : RunN P ops K rest (st.put (some d) g)) : RunN P ops K (o :: rest) st := rn_e hg (gs_val (fun x e => by rw [ho] at e; cases e; exact hd) he) (by rw [ho]; exact h)
theorem rn_n {o : Oper} {st : St} {S : St → Prop} (hg : o.guard = none) (hs : GSn P o st S) (h : ∀ s, S s → RunN P ops K rest s) : RunN P ops K (o :: rest) st := .inl ⟨by simp [gwant, hg], hs.eqv fun s hs' => ⟨s, h s hs', Eqv.refl _⟩⟩
end
section
variable {P : Program} {st : St} {ρ : List (Nat × Nat)}
theorem wkl_nil {fr : Fr} : ∀ d, Wk P st ρ (fget fr d) (fget [] d) := fun d => wk_junk
theorem wkl_cons {fr fr' : Fr} {d0 : Nat} {g : G} (h : Wk P st ρ (fget fr d0) g) (hr : ∀ d, Wk P st ρ (fget fr d) (fget fr' d)) : ∀ d, Wk P st ρ (fget fr d) (fget ((d0, g) :: fr') d) := fun d => by
  rw [fget_cons]
  split
  · rename_i e; subst e; exact h
  · exact hr d
theorem wk_one {g g' : G} (h : Wk P st ρ g g') : ∀ (k : Nat) (a a' : G), [g][k]? = some a → [g'][k]? = some a' → Wk P st ρ a a' := fun k a a' h1 h2 => by
  cases k with
  | zero => simp at h1 h2; subst h1; subst h2; exact h
  | succ k => simp at h1
end
abbrev vT (m : Tm) : Value := .agg (vSpy m.e m.a m.b m.c m.s m.t)
def entsT (ks : List Tm) : Ents := ks.zipIdx.map fun q => (vT q.1, .lit (.bool true), q.2)
theorem entsT_len (ks : List Tm) : (entsT ks).length = ks.length := by simp [entsT]
theorem entsT_keys (ks : List Tm) : (entsT ks).map (·.1) = ks.map vT := by
  unfold entsT
  rw [List.map_map, show ((fun (e : Value × G × Nat) => e.1) ∘ fun (q : Tm × Nat) => ((vT q.1, G.lit (.bool true), q.2) : Value × G × Nat)) = vT ∘ Prod.fst from rfl, ← List.map_map, List.zipIdx_map_fst]
theorem entsT_snoc (ks : List Tm) (m : Tm) : entsT (ks ++ [m]) = entsT ks ++ [(vT m, .lit (.bool true), ks.length)] := by
  unfold entsT
  rw [List.zipIdx_append]
  simp
theorem entsT_get {ks : List Tm} {i : Nat} : (entsT ks)[i]? = ks[i]?.map fun m => (vT m, .lit (.bool true), i) := by
  unfold entsT
  rw [List.getElem?_map, List.getElem?_zipIdx]
  cases ks[i]? <;> simp
theorem entsT_mem {ks : List Tm} {k : Value} {g : G} {n : Nat} (h : (k, g, n) ∈ entsT ks) : n < ks.length ∧ ∃ m, ks[n]? = some m ∧ k = vT m ∧ g = .lit (.bool true) := by
  obtain ⟨i, hi⟩ := List.getElem?_of_mem h
  rw [entsT_get] at hi
  cases hm : ks[i]? with
  | none => rw [hm] at hi; cases hi
  | some m =>
    rw [hm] at hi
    simp only [Option.map_some, Option.some.injEq, Prod.mk.injEq] at hi
    obtain ⟨rfl, rfl, rfl⟩ := hi
    exact ⟨(List.getElem?_eq_some_iff.1 hm).1, m, hm, rfl, rfl⟩
theorem entsT_born (ks : List Tm) : (entsT ks).map (·.2.2) = List.range ks.length := by
  apply List.ext_getElem?
  intro i
  rw [List.getElem?_map, entsT_get]
  by_cases h : i < ks.length
  · simp [h]
  · simp [h]
theorem glit_T (m : Tm) : glit (vT m) = gT m := rfl
/-- The keys that came. -/
def keysT (ks : List Tm) (seen : List Nat) : List Tm := seen.map fun n => ks.getD n default
theorem keysT_perm {ks : List Tm} {seen : List Nat} (hn : seen.Nodup) (hl : ∀ n ∈ seen, n < ks.length) (ha : ∀ n, n < ks.length → n ∈ seen) : (keysT ks seen).Perm ks := by
  have h1 : seen.Perm (List.range ks.length) := (List.perm_ext_iff_of_nodup hn List.nodup_range).2 fun n => by
    rw [List.mem_range]
    exact ⟨hl n, ha n⟩
  have h2 := h1.map fun n => ks.getD n default
  refine h2.trans (List.Perm.of_eq ?_)
  apply List.ext_getElem?
  intro i
  by_cases h : i < ks.length
  · simp [h]
  · simp [h]
attribute [local irreducible] gT
attribute [local irreducible] Tr Run RunD GS TG Le Wk Frz Fn' ImmG Flat WkFr WkSt EndM GSn
theorem bsT (m : Tm) : gbs Tryz.prog 25 1 [(0, gT m)] = some (38, cellsT [m]) := by rw [gT_c]; kernel_rfl
theorem srcT {σ : Sto} {c q : Nat} {l : List Tm} (h : sget σ q = some ⟨38, cellsT l, none⟩) : gsrc σ c 38 6 (.rsl q 0 l.length) = some (q, l.length, cellsT l) := by
  simp only [gsrc, h, Option.bind_some]
  rw [if_pos ⟨trivial, len_cells l, rfl⟩]
theorem viewT {σ : Sto} {q : Nat} {l : List Tm} (h : sget σ q = some ⟨38, cellsT l, none⟩) : gview σ 6 (.rsl q 0 l.length) = some (cellsT l, l.length) := by
  simp only [gview, h, Option.bind_some]
  rw [if_pos (by rw [len_cells]; omega), List.drop_zero, List.take_of_length_le (by rw [len_cells]; exact Nat.le_refl _)]
theorem appG {σ : Sto} {c i : Nat} {gx gy : G} {l n : List Tm} (hl : l.length + n.length ≤ 100000000) (h1 : gsrc σ c 38 6 gx = some (i, l.length, cellsT l)) (h2 : gview σ 6 gy = some (cellsT n, n.length)) : gapp Tryz.prog σ c 25 gx gy = some (38, i, l.length + n.length, cellsT (l ++ n)) := by
  unfold gapp
  rw [show telem Tryz.prog 25 = some 38 by kernel_rfl, Option.bind_some, show tsize Tryz.prog 38 = some 6 by kernel_rfl, Option.bind_some, show tzero Tryz.prog 38 = some [.int .i64 0, .int .i64 0, .int .i64 0, .int .u64 0, .int .i64 0, .int .i64 0] by kernel_rfl, Option.bind_some, show (Tryz.prog.info? 38).map (·.bytes) = some 48 by kernel_rfl, Option.bind_some, h1, Option.bind_some]
  dsimp only
  rw [h2, Option.bind_some]
  dsimp only
  rw [if_pos ⟨by decide, rfl, by omega, by omega⟩]
  simp [cellsT]
theorem appT {σ : Sto} {c q q2 : Nat} {l n : List Tm} (hl : l.length + n.length ≤ 100000000) (h1 : sget σ q = some ⟨38, cellsT l, none⟩) (h2 : sget σ q2 = some ⟨38, cellsT n, none⟩) : gapp Tryz.prog σ c 25 (.rsl q 0 l.length) (.rsl q2 0 n.length) = some (38, q, l.length + n.length, cellsT (l ++ n)) := appG hl (srcT h1) (viewT h2)
noncomputable def body44 : Code := (Tryz.f44).body.getD .skip
abbrev mapO (ks : List Tm) : Ob := ⟨48, [], some (.map (entsT ks) ks.length)⟩
abbrev σ0 (ks : List Tm) : Sto := [(1, some ⟨48, [.mref 0], none⟩), (0, some (mapO ks))]
abbrev rowO (l : List Tm) : Ob := ⟨38, cellsT l, none⟩
set_option maxHeartbeats 4000000 in
theorem append_tr (gl : List (Nat × List G)) (ks : List Tm) (hk : ks.length < 100000) : Tr Tryz.prog body44 ⟨13, gl, [(0, .lit (.slice none 0 0)), (1, .clo (.func 28) [] [.ref 1 0])], σ0 ks, 2, 2, false⟩
    (fun e s => e = .ret ∧ ∃ ks', ks'.Perm ks ∧ s = ⟨13, gl, [(4, .rsl 2 0 ks'.length)], [(2, some (rowO ks'))], 3, 2, false⟩) := by
  unfold body44 Tryz.f44
  simp only [Option.getD_some]
  refine tr_virt 38 0 (by decide) rfl ?_
  repeat' (first | apply tr_seq | apply tr_region | apply run_nil | apply thn_n | apply thn_e | apply thn_r | apply blk_e | apply blk_n | apply blk_r | (refine blk_ne ?_ ?_; decide) | apply tr_block | apply tr_skip | apply tr_label | apply tr_exit | apply tr_ret | (refine tr_region_draw (bars := []) mixed (by kernel_rfl) ?_) | apply rund_nil | ((first | apply run_v | apply rund_v); simp (disch := omega) [if_pos]; (first | rfl | exact ⟨rfl, rfl⟩); decide) | ((first | apply run_bs | apply run_app | apply run_build | apply run_box | apply run_alloc | apply rund_build); simp (disch := omega) [if_pos]; (first | rfl | exact ⟨rfl, rfl⟩ | exact ⟨rfl, rfl, rfl, rfl⟩); decide) | (apply run_sto; simp (disch := omega) [if_pos]; rfl))
  generalize hAS : Code.region 2 _ false = AS
  generalize hBD : Code.block 1 _ = BD
  refine tr_rangeFunc rfl rfl (by kernel_rfl) Tryz.func28 rfl (by show 2 ≤ 14; decide) rfl ?_
  simp only [Tryz.ntmps28, enterFr, List.nil_append, List.singleton_append, List.cons_append]
  repeat' (first | apply tr_seq | apply tr_region | apply run_nil | apply thn_n | apply thn_e | apply thn_r | apply blk_e | apply blk_n | apply blk_r | (refine blk_ne ?_ ?_; decide) | apply tr_block | apply tr_skip | apply tr_label | apply tr_exit | apply tr_ret | (refine tr_region_draw (bars := []) mixed (by kernel_rfl) ?_) | apply rund_nil | ((first | apply run_v | apply rund_v); simp (disch := omega) [if_pos]; (first | rfl | exact ⟨rfl, rfl⟩); decide) | ((first | apply run_bs | apply run_app | apply run_build | apply run_box | apply run_alloc | apply rund_build); simp (disch := omega) [if_pos]; (first | rfl | exact ⟨rfl, rfl⟩ | exact ⟨rfl, rfl, rfl, rfl⟩); decide) | (apply run_sto; simp (disch := omega) [if_pos]; rfl))
  refine run_e rfl (gs_range (ob := .iter (some 0) ks.length [] ks.length) rfl (fun d e => by cases e; show 5 < 14; decide) (by kernel_rfl)) ?_
  simp only [St.put]
  apply run_nil
  apply thn_n
  generalize hQ : (fun s => Blk' 0 _ .normal s) = Q0
  refine tr_mapwalk (it := 5) (a := 6) (b := 7) (iti := 5) (mi := 0) (clock := ks.length) (since := ks.length) (T := 48) (ty := 48) (es := entsT ks)
    (S := fun seen => ⟨14, gl, [(0, .yld 4), (1, .ref 1 0), (4, .mref 0), (5, .ref 5 0)], [(5, some ⟨48, [], some (.iter (some 0) ks.length seen ks.length)⟩), (if seen = [] then 2 else 6, some (rowO (keysT ks seen))), (3, some ⟨25, [.rsl (if seen = [] then 2 else 6) 0 seen.length], none⟩), (4, some ⟨0, [], some (.loop .ready none 13 [(2, .ref 3 0)] #[7] AS BD)⟩), (1, some ⟨48, [.mref 0], none⟩), (0, some (mapO ks))], 7, 5, false⟩)
    (fun seen => seen.Nodup ∧ ∀ n ∈ seen, n < ks.length) ⟨List.nodup_nil, by simp⟩ ?_ rfl ?_ ?_ ?_ ?_ ?_ ?_
  · rintro ⟨k, g, n⟩ he
    exact (entsT_mem he).1
  · rw [if_pos rfl]
    refine le_to [(0, 0), (1, 1), (2, 2), (3, 3), (4, 4), (5, 5)] (by decide) (by decide) (by decide) (wkfr_cons (wk_yld rfl) (wkfr_cons (wk_ref rfl) (wkfr_cons (wk_mref rfl) (wkfr_cons (wk_ref rfl) wkfr_nil)))) ?_
    refine wkst_consX rfl rfl rfl rfl (wkx_iter rfl) (by simp) ?_
    refine wkst_eq rfl rfl rfl (cellsT_imm _) ?_
    refine wkst_cons rfl rfl rfl rfl (by simp) (wk_one (wk_rsl rfl)) ?_
    refine wkst_consX rfl rfl rfl rfl (wkx_loop (wkl_cons (wk_ref rfl) wkl_nil)) (by simp) ?_
    refine wkst_cons rfl rfl rfl rfl (by simp) (wk_one (wk_mref rfl)) ?_
    refine wkst_consX rfl rfl rfl rfl (wkx_map rfl fun j k k' g g' n n' h1 h2 => ?_) (by simp) wkst_nil
    rw [h1] at h2
    cases h2
    obtain ⟨_, m, _, _, rfl⟩ := entsT_mem (List.mem_of_getElem? h1)
    exact ⟨rfl, rfl, wk_imm (imm_lit _)⟩
  · intro seen
    simp [giter, gev, fget_cons, sget_cons]
  · intro seen
    by_cases h : seen = [] <;> simp [gmap, sget_cons, h]
  · intro seen
    exact ⟨by show 6 < 14; decide, by show 7 < 14; decide⟩
  · rintro seen k g n ⟨hnd, hlt⟩ hmem hnew
    obtain ⟨hn, m, hm, rfl, rfl⟩ := entsT_mem hmem
    dsimp only
    have hge : ∀ x, gentry ((5, some ⟨48, [], some (.iter (some 0) ks.length (seen ++ [n]) ks.length)⟩) :: (5, some ⟨48, [], some (.iter (some 0) ks.length seen ks.length)⟩) :: ((if seen = [] then 2 else 6), some (rowO (keysT ks seen))) :: (3, x) :: (4, some ⟨0, [], some (.loop .ready none 13 [(2, .ref 3 0)] #[7] AS BD)⟩) :: (1, some ⟨48, [.mref 0], none⟩) :: (0, some (mapO ks)) :: []) (.ref 5 0) = some (.tup [gT m, .lit (.bool true)]) := fun x => by
      have hmp : gmap ((5, some ⟨48, [], some (.iter (some 0) ks.length (seen ++ [n]) ks.length)⟩) :: (5, some ⟨48, [], some (.iter (some 0) ks.length seen ks.length)⟩) :: ((if seen = [] then 2 else 6), some (rowO (keysT ks seen))) :: (3, x) :: (4, some ⟨0, [], some (.loop .ready none 13 [(2, .ref 3 0)] #[7] AS BD)⟩) :: (1, some ⟨48, [.mref 0], none⟩) :: (0, some (mapO ks)) :: []) (.mref 0) = some (0, 48, entsT ks, ks.length) := by
        by_cases h : seen = [] <;> simp [gmap, sget_cons, h]
      rw [← glit_T]
      exact gentry_at (g := .ref 5 0) (iti := 5) (mi := 0) (since := ks.length) (clock := ks.length) (T := 48) (ty := 48) (seen := seen) (by simp [giter, sget_cons]) hmp (by rw [entsT_born]; exact List.nodup_range) hmem
    refine tr_block (tr_seq (tr_region (run_e rfl (gs_entry (g := .tup [gT m, .lit (.bool true)]) rfl (fun d e => by cases e; show 8 < 14; decide) (hge _)) ?_)))
    simp only [St.put]
    generalize hr0 : (if seen = [] then 2 else 6) = r0
    repeat' (first | apply tr_seq | apply tr_region | apply run_nil | apply thn_n | apply thn_e | apply thn_r | apply blk_e | apply blk_n | apply blk_r | (refine blk_ne ?_ ?_; decide) | apply tr_block | apply tr_skip | apply tr_label | apply tr_exit | apply tr_ret | (refine tr_region_draw (bars := [nope]) mixed (by kernel_rfl) ?_) | apply rund_nil | ((first | apply run_v | apply rund_v); simp (disch := omega) [if_pos]; (first | rfl | exact ⟨rfl, rfl⟩); decide) | ((first | apply run_bs | apply run_app | apply run_build | apply run_box | apply run_alloc | apply rund_build); simp (disch := omega) [if_pos]; (first | rfl | exact ⟨rfl, rfl⟩ | exact ⟨rfl, rfl, rfl, rfl⟩); decide) | (apply run_sto; simp (disch := omega) [if_pos]; rfl))
    refine run_sto (i := 7) (ob := rowO [m]) (by rw [gT_c]; kernel_rfl) ?_
    apply run_nil
    apply thn_n
    have hr : r0 = 2 ∨ r0 = 6 := by subst hr0; split <;> simp
    refine tr_seq (tr_regionN ?_)
    refine rn_v rfl rfl (by show 10 < 14; decide) (g := .yld 4) rfl ?_
    refine rn_v rfl rfl (by show 11 < 14; decide) (g := gT m) (by rw [gT_c]; kernel_rfl) ?_
    simp only [St.put]
    refine rn_n rfl (gsn_yield (i := 4) (n := 13) (t := 0) (pe := none) (fr := [(2, .ref 3 0)]) (ps := #[7]) («as» := AS) (bd := BD)
      (S := fun j x t' s => j = none ∧ x = .loop .ready none 13 [(2, .ref 3 0)] #[7] AS BD ∧ t' = 0 ∧ s.c = 11 ∧ sget s.σ 10 = some (rowO (keysT ks (seen ++ [n]))) ∧ sget s.σ 3 = some ⟨25, [.rsl 10 0 (seen ++ [n]).length], none⟩ ∧ sget s.σ 5 = some ⟨48, [], some (.iter (some 0) ks.length (seen ++ [n]) ks.length)⟩ ∧ sget s.σ 1 = some ⟨48, [.mref 0], none⟩ ∧ sget s.σ 0 = some (mapO ks)) rfl (fun d e => by cases e; show 12 < 14; decide) rfl ?_ rfl (by decide) ?_) ?_
    · rcases hr with rfl | rfl <;> rfl
    · refine tr_as hAS ?_
      simp only [Array.toList, List.map_cons, List.map_nil, List.zip_cons_cons, List.zip_nil_right, setAll, gev_tmp, fget_cons, ↓reduceIte]
      repeat' (first | apply tr_seq | apply tr_region | apply run_nil | apply thn_n | apply thn_e | apply thn_r | apply blk_e | apply blk_n | apply blk_r | (refine blk_ne ?_ ?_; decide) | apply tr_block | apply tr_skip | apply tr_label | apply tr_exit | apply tr_ret | (refine tr_region_draw (bars := []) mixed (by kernel_rfl) ?_) | apply rund_nil | ((first | apply run_v | apply rund_v); simp (disch := omega) [if_pos]; (first | rfl | exact ⟨rfl, rfl⟩); decide) | ((first | apply run_bs | apply run_app | apply run_build | apply run_box | apply run_alloc | apply rund_build); simp (disch := omega) [if_pos]; (first | rfl | exact ⟨rfl, rfl⟩ | exact ⟨rfl, rfl, rfl, rfl⟩); decide) | (apply run_sto; simp (disch := omega) [if_pos]; rfl))
      refine run_sto (i := 8) (ob := rowO [m]) (by rw [gT_c]; kernel_rfl) ?_
      apply run_nil
      refine ⟨rfl, rfl, 0, none, 13, [(2, .ref 3 0)], #[7], AS, BD, ?_, ?_⟩
      · rcases hr with rfl | rfl <;> rfl
      refine tr_as hBD ?_
      have hl : (keysT ks seen).length = seen.length := by simp [keysT]
      dsimp only
      refine tr_block (tr_region ?_)
      refine run_v (g := .rsl r0 0 seen.length) (by rcases hr with rfl | rfl <;> kernel_rfl) (by decide) ?_
      refine run_v (g := gT m) (by rw [gT_c]; kernel_rfl) (by decide) ?_
      refine run_bs (bsT m) (by decide) ?_
      rw [← hl]
      refine run_app (i := r0) (appT (q := r0) (q2 := 9) (l := keysT ks seen) (n := [m]) ?_ ?_ ?_) (by decide) ?_
      · have : (keysT ks seen).length ≤ ks.length := by
          rw [hl]
          have := List.Nodup.length_le_of_subset hnd (fun n hn => List.mem_range.2 (hlt n hn))
          simpa using this
        show _ + 1 ≤ _
        omega
      · rcases hr with rfl | rfl <;> rfl
      · rfl
      refine run_sto (i := 3) (ob := ⟨25, [.rsl 10 0 ((keysT ks seen).length + 1)], none⟩) (by rcases hr with rfl | rfl <;> kernel_rfl) ?_
      apply run_nil
      have hmn : ks.getD n default = m := by rw [List.getD_eq_getElem?_getD, hm]; rfl
      have hks : keysT ks seen ++ [m] = keysT ks (seen ++ [n]) := by simp [keysT, ← hmn]
      apply blk_n
      refine ⟨rfl, none, 0, .busy, none, 13, [(2, .ref 3 0)], #[7], AS, BD, rfl, ?_, rfl, rfl, rfl, rfl, ?_, ?_, ?_, ?_, ?_⟩
      · rcases hr with rfl | rfl <;> rfl
      · rw [← hks]; rcases hr with rfl | rfl <;> rfl
      · rw [List.length_append, ← hl]; rcases hr with rfl | rfl <;> rfl
      · rcases hr with rfl | rfl <;> rfl
      · rcases hr with rfl | rfl <;> rfl
      · rcases hr with rfl | rfl <;> rfl
    · rintro s' ⟨j, x, t', s, ⟨rfl, rfl, rfl, hc, h10, h3, h5, h0, h1⟩, rfl⟩
      refine rn_v rfl rfl (by show 13 < 14; decide) (g := .lit (.bool false)) (by kernel_rfl) ?_
      simp only [St.put, Option.isNone_none]
      refine thn_n (tr_condF rfl (tr_skip ?_))
      apply blk_n
      apply thn_n
      refine ⟨⟨by rw [List.nodup_append]; exact ⟨hnd, by simp, by rintro a ha b hb rfl; simp at hb; subst hb; exact hnew ha⟩, ?_⟩, ?_⟩
      · intro x hx
        rcases List.mem_append.1 hx with hx | hx
        · exact hlt x hx
        · simp at hx; subst hx; exact hn
      rw [hc, if_neg (by simp)]
      refine le_to [(0, 0), (1, 1), (2, 2), (3, 3), (4, 4), (5, 5), (6, 10)] (by decide) (by decide) (by decide) (wkfr_cons (wk_yld rfl) (wkfr_cons (wk_ref rfl) (wkfr_cons (wk_mref rfl) (wkfr_cons (wk_ref rfl) wkfr_nil)))) ?_
      refine wkst_consX rfl (by rw [sget_cons, if_neg (by decide)]; exact h5) rfl rfl (wkx_iter rfl) (by simp) ?_
      refine wkst_eq rfl (by rw [sget_cons, if_neg (by decide)]; exact h10) rfl (cellsT_imm _) ?_
      refine wkst_cons rfl (by rw [sget_cons, if_neg (by decide)]; exact h3) rfl rfl (by simp) (wk_one (wk_rsl rfl)) ?_
      refine wkst_consX rfl rfl rfl rfl (wkx_loop (wkl_cons (wk_ref rfl) wkl_nil)) (by simp) ?_
      refine wkst_cons rfl (by rw [sget_cons, if_neg (by decide)]; exact h0) rfl rfl (by simp) (wk_one (wk_mref rfl)) ?_
      refine wkst_consX rfl (by rw [sget_cons, if_neg (by decide)]; exact h1) rfl rfl (wkx_map rfl fun j k k' g g' n n' h1 h2 => ?_) (by simp) wkst_nil
      rw [h1] at h2
      cases h2
      obtain ⟨_, m, _, _, rfl⟩ := entsT_mem (List.mem_of_getElem? h1)
      exact ⟨rfl, rfl, wk_imm (imm_lit _)⟩
  · rintro seen ⟨hnd, hlt⟩ hall
    have hperm : (keysT ks seen).Perm ks := keysT_perm hnd hlt fun n hn => by
      obtain ⟨m, hm⟩ : ∃ m, ks[n]? = some m := ⟨_, List.getElem?_eq_getElem hn⟩
      have he : (vT m, G.lit (.bool true), n) ∈ entsT ks := List.mem_of_getElem? (by rw [entsT_get, hm]; rfl)
      exact hall _ he
    have hl : (keysT ks seen).length = seen.length := by simp [keysT]
    have hr : (if seen = [] then 2 else 6) = 2 ∨ (if seen = [] then 2 else 6) = 6 := by split <;> simp
    generalize (if seen = [] then 2 else 6) = r0 at hr ⊢
    refine ⟨.inl rfl, rfl, 0, .ready, none, 13, [(2, .ref 3 0)], #[7], AS, BD, ?_, by simp, ?_⟩
    · rcases hr with rfl | rfl <;> rfl
    apply blk_n
    apply thn_n
    dsimp only
    refine tr_seq (tr_region ?_)
    refine run_v (g := .rsl r0 0 seen.length) (by rcases hr with rfl | rfl <;> kernel_rfl) (by decide) ?_
    refine run_v (g := .rsl r0 0 seen.length) (by kernel_rfl) (by decide) ?_
    apply run_nil
    apply thn_n
    refine (tr_ret (st := ⟨13, gl, [(4, .rsl 2 0 (keysT ks seen).length)], [(2, some (rowO (keysT ks seen)))], 3, 2, false⟩) ⟨rfl, keysT ks seen, hperm, rfl⟩).le ?_
    rw [hl]
    rcases hr with rfl | rfl
    · refine le_to [(0, 0), (1, 1), (2, 2)] (by decide) (by decide) (by decide) (wkfr_cons (wk_rsl rfl) wkfr_nil) ?_
      exact wkst_eq rfl rfl rfl (cellsT_imm _) wkst_nil
    · refine le_to [(0, 0), (1, 1), (2, 6)] (by decide) (by decide) (by decide) (wkfr_cons (wk_rsl rfl) wkfr_nil) ?_
      exact wkst_eq rfl rfl rfl (cellsT_imm _) wkst_nil
end
section
open Go.RowKit
set_option linter.unusedVariables false
set_option linter.unusedSimpArgs false
attribute [local irreducible] gT
attribute [local irreducible] Tr Run RunD GS TG Le Wk Frz Fn' ImmG Flat WkFr WkSt EndM GSn Vw Rn FnM
noncomputable def body26 : Code := (Tryz.f26).body.getD .skip
noncomputable def body19 : Code := (Tryz.f19).body.getD .skip
theorem rho_one {a b i j : Nat} (h : rho [(a, b)] i = some j) : i = a ∧ j = b := by
  have := rho_key h
  simp at this
  exact this
set_option maxHeartbeats 2000000 in
theorem collect_tr (gl : List (Nat × List G)) (ks : List Tm) (hk : ks.length < 100000) : Tr Tryz.prog body26 ⟨5, gl, [(0, .clo (.func 28) [] [.ref 1 0])], σ0 ks, 2, 2, false⟩
    (fun e s => e = .ret ∧ ∃ ks', ks'.Perm ks ∧ s = ⟨5, gl, [(2, .rsl 2 0 ks'.length)], [(2, some (rowO ks'))], 3, 2, false⟩) := by
  unfold body26 Tryz.f26
  simp only [Option.getD_some]
  apply tr_seq
  apply tr_region
  refine run_v (g := .lit (.slice none 0 0)) (by kernel_rfl) (by decide) ?_
  apply run_nil
  apply thn_n
  apply tr_seq
  refine tr_regionN ?_
  refine rn_v rfl rfl (by show 3 < 5; decide) (g := .clo (.func 28) [] [.ref 1 0]) rfl ?_
  simp only [St.put]
  refine rn_n rfl (gsn_callI (fst := []) (cap := []) rfl (fun d e => by cases e; show 4 < 5; decide) rfl (by kernel_rfl) Tryz.func44 (body := body44) rfl (by show 2 ≤ 13; decide) (append_tr gl ks hk) ?_) ?_
  · rintro e s ⟨rfl, ks', hp, rfl⟩
    exact ⟨.inr rfl, rfl, [.rsl 2 0 ks'.length], rfl⟩
  · rintro s' ⟨e, s, gs', ⟨rfl, ks', hp, rfl⟩, hgs, rfl⟩
    have hgs : some [G.rsl 2 0 ks'.length] = some gs' := hgs
    cases hgs
    refine rn_v rfl rfl (by show 2 < 5; decide) (g := .rsl 2 0 ks'.length) (by kernel_rfl) ?_
    simp only [St.put]
    refine thn_n ?_
    refine (tr_ret (st := ⟨5, gl, [(2, .rsl 2 0 ks'.length)], [(2, some (rowO ks'))], 3, 2, false⟩) ⟨rfl, ks', hp, rfl⟩).le ?_
    refine le_to [(0, 0), (1, 1), (2, 2)] (by decide) (by decide) (by decide) (wkfr_cons (wk_rsl rfl) wkfr_nil) ?_
    exact wkst_eq rfl rfl rfl (cellsT_imm _) wkst_nil
/-- The order of terms, as a comparison tells it. -/
def cfT (m q : Tm) : Int := spC m.e m.a m.b m.c m.s m.t q.e q.a q.b q.c q.s q.t
def ltB (m q : Tm) : Bool := decide (ltT m q)
theorem cfT_lt (m q : Tm) : ltOf cfT m q = ltB m q := decide_eq_decide.2 (spC_iff ..)
theorem totB : TotA ltB where
  irrefl x := decide_eq_false (fun h => ltT_asym h h)
  trans x y z h k := decide_eq_true (ltT_trans (of_decide_eq_true h) (of_decide_eq_true k))
  tot x y h k := ltT_tot (of_decide_eq_false h) (of_decide_eq_false k)
theorem cmp_fn (gl : List (Nat × List G)) (m q : Tm) : Fn' Tryz.prog gl 21 [.agg ((encT m).map .lit), .agg ((encT q).map .lit)] (.lit (.int .i64 (cfT m q))) := fn_glC (compare_fn ..)
theorem swoB : Go.Sort.SWO (ltOf cfT) := by
  have e : ltOf cfT = ltB := by funext m q; exact cfT_lt m q
  rw [e]
  refine ⟨totB.irrefl, totB.trans, fun x y z h k => ?_⟩
  cases h1 : ltB x z with
  | false => rfl
  | true =>
    cases h2 : ltB y x with
    | true => have := totB.trans _ _ _ h2 h1; rw [k] at this; cases this
    | false => have := totB.tot _ _ h h2; subst this; rw [k] at h1; cases h1
theorem merge_sortS {a b : List Tm} (h : a.Perm b) : (a.mergeSort fun x y => !(ltOf cfT) y x) = sortS ltB b := by
  have e : (fun x y => !(ltOf cfT) y x) = fun x y => !ltB y x := by funext x y; rw [cfT_lt]
  rw [e]
  exact mergeSort_eq totB h
theorem sort_fn (hS : SortsK Tryz.prog 27 encT 6 cfT 21) (gl : List (Nat × List G)) (d : List Tm) (hd : d.length < 4611686018427387904) :
    FnM Tryz.prog gl 27 [.rsl 0 0 d.length, .clo (.func 21) [] []] [(0, some (rowO d))] 1 1 (.tup []) [(0, some (rowO (sortS ltB d)))] := by
  have h := sort_fnM (t := 38) hS (fun _ => rfl) (fun x v hv => by
    simp only [encT, List.mem_cons, List.not_mem_nil, or_false] at hv
    rcases hv with rfl | rfl | rfl | rfl | rfl | rfl <;> rfl) (fun x y => cmp_fn [] x y) (by kernel_rfl) gl d hd
  rw [merge_sortS (List.Perm.refl d), cellsT_lits, cellsT_lits] at h
  exact h
set_option maxHeartbeats 2000000 in
theorem sorted_tr (hS : SortsK Tryz.prog 27 encT 6 cfT 21) (gl : List (Nat × List G)) (ks : List Tm) (hk : ks.length < 100000) :
    Tr Tryz.prog body19 ⟨12, gl, [(0, .clo (.func 28) [] [.ref 1 0]), (1, .clo (.func 21) [] [])], σ0 ks, 2, 2, false⟩
    (fun e s => e = .ret ∧ s = ⟨12, gl, [(4, .rsl 2 0 ks.length)], [(2, some (rowO (sortS ltB ks)))], 3, 2, false⟩) := by
  unfold body19 Tryz.f19
  simp only [Option.getD_some]
  apply tr_seq
  apply tr_region
  refine run_v (g := .lit (.slice none 0 0)) (by kernel_rfl) (by decide) ?_
  apply run_nil
  apply thn_n
  apply tr_seq
  refine tr_regionN ?_
  refine rn_v rfl rfl (by show 6 < 12; decide) (g := .clo (.func 28) [] [.ref 1 0]) rfl ?_
  simp only [St.put]
  refine rn_n rfl (gsn_callI (fst := []) (cap := []) rfl (fun d e => by cases e; show 7 < 12; decide) rfl (by kernel_rfl) Tryz.func26 (body := body26) rfl (by show 1 ≤ 5; decide) (collect_tr gl ks hk) ?_) ?_
  · rintro e s ⟨rfl, ks', hp, rfl⟩
    exact ⟨.inr rfl, rfl, [.rsl 2 0 ks'.length], rfl⟩
  · rintro s' ⟨e, s, gs', ⟨rfl, ks', hp, rfl⟩, hgs, rfl⟩
    have hgs : some [G.rsl 2 0 ks'.length] = some gs' := hgs
    cases hgs
    have hlen := hp.length_eq
    refine rn_v rfl rfl (by show 5 < 12; decide) (g := .rsl 2 0 ks'.length) (by kernel_rfl) ?_
    simp only [St.put]
    apply thn_n
    apply tr_seq
    apply tr_region
    refine run_v (g := .rsl 2 0 ks'.length) (by kernel_rfl) (by decide) ?_
    refine run_v (g := .clo (.func 21) [] []) (by kernel_rfl) (by decide) ?_
    refine run_e rfl (gs_callM (fst := []) (cap := []) (σ' := [(2, some (rowO (sortS ltB ks')))]) (c' := 3) (r' := .tup []) [(0, 2)] [(2, 0)] [] rfl (fun d e => by cases e; show 10 < 12; decide) rfl (by kernel_rfl) (sort_fn hS gl ks' (by omega)) rfl ?_ ?_ (by decide) ?_ (by show 3 ≤ 3; decide) ?_ ?_ (by decide) ?_ ?_) ?_
    · intro i g g' h1 h2
      match i, h1, h2 with
      | 0, h1, h2 => cases h1; cases h2; exact vw_rsl rfl
      | 1, h1, h2 => cases h1; cases h2; exact vw_imm (imm_clo (fun _ h => by cases h) (fun _ h => by cases h))
      | n + 2, h1, h2 => simp at h2
    · intro i i' j h1 h2
      exact (rho_one h1).1.trans (rho_one h2).1.symm
    · exact vwst_cons rfl (by simp) rfl rfl rfl (Nat.le_refl _) (fun k g g' h1 h2 => by rw [h1] at h2; cases h2; exact vw_imm (cellsT_imm _ _ (List.mem_of_getElem? h1))) vwst_nil
    · intro k i h1 h2
      obtain ⟨rfl, rfl⟩ := rho_one h1
      exact ⟨by decide, rfl⟩
    · intro i i' j h1 h2
      exact (rho_one h1).1.trans (rho_one h2).1.symm
    · intro k ob' hk'
      rw [sget_cons] at hk'
      split at hk'
      · rename_i e
        subst e
        cases hk'
        exact .inl ⟨0, _, rfl, rfl, rfl, Nat.le_refl _, fun h => h, ⟨rfl, rfl⟩, fun x g g' h1 h2 => by rw [h1] at h2; cases h2; exact rn_imm (cellsT_imm _ _ (List.mem_of_getElem? h1))⟩
      · cases hk'
    · exact rn_tup rfl (fun i g g' h => by simp at h)
    simp only [St.put]
    apply run_nil
    apply thn_n
    apply tr_seq
    apply tr_region
    refine run_v (g := .rsl 2 0 ks'.length) (by kernel_rfl) (by decide) ?_
    refine run_v (g := .rsl 2 0 ks'.length) (by kernel_rfl) (by decide) ?_
    apply run_nil
    apply thn_n
    have e : sortS ltB ks' = sortS ltB ks := (sorted_eq totB (sortS_sorted totB _) (sortS_sorted totB _) ((sortS_perm totB _).trans (hp.trans (sortS_perm totB _).symm)))
    rw [e, hlen]
    refine (tr_ret (st := ⟨12, gl, [(4, .rsl 2 0 ks.length)], [(2, some (rowO (sortS ltB ks)))], 3, 2, false⟩) ⟨rfl, rfl⟩).le ?_
    refine le_to [(0, 0), (1, 1), (2, 2)] (by decide) (by decide) (by decide) (wkfr_cons (wk_rsl rfl) wkfr_nil) ?_
    exact wkst_eq rfl rfl rfl (cellsT_imm _) wkst_nil
end
section
open Go.RowKit Go.Shelf Go.Sort
set_option linter.unusedVariables false
set_option linter.unusedSimpArgs false
set_option linter.unusedSectionVars false
def sortT_ren : Go.Shelf.Ren := ⟨fun | 6 => 27 | 15 => 46 | 14 => 45 | 28 => 105 | 29 => 106 | 20 => 97 | 21 => 98 | 22 => 99 | 23 => 100 | 24 => 101 | 25 => 102 | 26 => 103 | 27 => 104 | 46 => 208 | 47 => 209 | 48 => 210 | 49 => 211 | 50 => 212 | 57 => 291 | n => n, fun | 22 => 25 | 24 => 38 | 25 => 54 | 3 => 3 | 39 => 98 | 0 => 0 | 53 => 179 | 55 => 34 | 4 => 4 | 46 => 173 | 45 => 172 | 50 => 155 | 5 => 5 | 9 => 9 | 66 => 278 | 70 => 281 | 76 => 361 | 77 => 362 | n => n, fun | n => n⟩
theorem sortT : Go.Proofs.SlLaysF0.n6 Tryz.prog sortT_ren := {
  mixed := by kernel_rfl
  f6 := ⟨Tryz.f27.name, by decide, Tryz.func27.trans (congrArg some (by kernel_rfl))⟩
  f14 := ⟨Tryz.f45.name, by decide, Tryz.func45.trans (congrArg some (by kernel_rfl))⟩
  f15 := Tryz.func46.trans (congrArg some (by kernel_rfl))
  f20 := ⟨Tryz.f97.name, by decide, Tryz.func97.trans (congrArg some (by kernel_rfl))⟩
  f21 := ⟨Tryz.f98.name, by decide, Tryz.func98.trans (congrArg some (by kernel_rfl))⟩
  f22 := ⟨Tryz.f99.name, by decide, Tryz.func99.trans (congrArg some (by kernel_rfl))⟩
  f23 := ⟨Tryz.f100.name, by decide, Tryz.func100.trans (congrArg some (by kernel_rfl))⟩
  f24 := ⟨Tryz.f101.name, by decide, Tryz.func101.trans (congrArg some (by kernel_rfl))⟩
  f25 := ⟨Tryz.f102.name, by decide, Tryz.func102.trans (congrArg some (by kernel_rfl))⟩
  f26 := ⟨Tryz.f103.name, by decide, Tryz.func103.trans (congrArg some (by kernel_rfl))⟩
  f27 := ⟨Tryz.f104.name, by decide, Tryz.func104.trans (congrArg some (by kernel_rfl))⟩
  f28 := Tryz.func105.trans (congrArg some (by kernel_rfl))
  f29 := Tryz.func106.trans (congrArg some (by kernel_rfl))
  f46 := ⟨Tryz.f208.name, by decide, Tryz.func208.trans (congrArg some (by kernel_rfl))⟩
  f47 := Tryz.func209.trans (congrArg some (by kernel_rfl))
  f48 := Tryz.func210.trans (congrArg some (by kernel_rfl))
  f49 := ⟨Tryz.f211.name, by decide, Tryz.func211.trans (congrArg some (by kernel_rfl))⟩
  f50 := ⟨Tryz.f212.name, by decide, Tryz.func212.trans (congrArg some (by kernel_rfl))⟩
  f57 := ⟨Tryz.f291.name, by decide, Tryz.func291.trans (congrArg some (by kernel_rfl))⟩
  t0 := Tryz.underlying0
  a0 := Tryz.isAgg0
  z0 := Tryz.sizeOf0
  v0 := Tryz.zeroValue0
  t3 := Tryz.underlying3
  a3 := Tryz.isAgg3
  z3 := Tryz.sizeOf3
  v3 := Tryz.zeroValue3
  t4 := Tryz.underlying4
  a4 := Tryz.isAgg4
  z4 := Tryz.sizeOf4
  v4 := Tryz.zeroValue4
  t5 := Tryz.underlying5
  a5 := Tryz.isAgg5
  z5 := Tryz.sizeOf5
  v5 := Tryz.zeroValue5
  t9 := Tryz.underlying9
  a9 := Tryz.isAgg9
  z9 := Tryz.sizeOf9
  v9 := Tryz.zeroValue9
  t22 := Tryz.underlying25
  a22 := Tryz.isAgg25
  z22 := Tryz.sizeOf25
  v22 := Tryz.zeroValue25
  t25 := Tryz.underlying54
  a25 := Tryz.isAgg54
  z25 := Tryz.sizeOf54
  v25 := Tryz.zeroValue54
  t39 := Tryz.underlying98
  a39 := Tryz.isAgg98
  z39 := Tryz.sizeOf98
  v39 := Tryz.zeroValue98
  t45 := Tryz.underlying172
  a45 := Tryz.isAgg172
  z45 := Tryz.sizeOf172
  v45 := Tryz.zeroValue172
  t46 := Tryz.underlying173
  a46 := Tryz.isAgg173
  z46 := Tryz.sizeOf173
  v46 := Tryz.zeroValue173
  t50 := Tryz.underlying155
  a50 := Tryz.isAgg155
  z50 := Tryz.sizeOf155
  v50 := Tryz.zeroValue155
  t53 := Tryz.underlying179
  a53 := Tryz.isAgg179
  z53 := Tryz.sizeOf179
  v53 := Tryz.zeroValue179
  t55 := Tryz.underlying34
  a55 := Tryz.isAgg34
  z55 := Tryz.sizeOf34
  v55 := Tryz.zeroValue34
  t66 := Tryz.underlying278
  a66 := Tryz.isAgg278
  z66 := Tryz.sizeOf278
  v66 := Tryz.zeroValue278
  t70 := Tryz.underlying281
  a70 := Tryz.isAgg281
  z70 := Tryz.sizeOf281
  v70 := Tryz.zeroValue281
  t76 := Tryz.underlying361
  a76 := Tryz.isAgg361
  z76 := Tryz.sizeOf361
  v76 := Tryz.zeroValue361
  t77 := Tryz.underlying362
  a77 := Tryz.isAgg362
  z77 := Tryz.sizeOf362
  v77 := Tryz.zeroValue362 }

theorem sortsT : SortsK Tryz.prog 27 encT 6 cfT 21 := {
  nil := fun p cap fv w => AnyF.slices_SortFunc_none sortT p cap fv w
  row := fun blk off cap d w hc hH hb hs => AnyQ.slices_SortFunc_total sortT 6 (fun w => Tryz.isAgg38 w) (fun w => Tryz.sizeOf38 w) encT (fun _ => rfl) (fun x v hv => by
    simp only [encT, List.mem_cons, List.not_mem_nil, or_false] at hv
    rcases hv with rfl | rfl | rfl | rfl | rfl | rfl <;> rfl) cfT swoB 21 #[] blk off cap d w (fun args w => run_callFunc (by kernel_rfl) args w) hc hH hb hs (fun x y h k => totB.tot _ _ (by rw [← cfT_lt]; exact h) (by rw [← cfT_lt]; exact k)) }
end
section
open Go.RowKit
set_option linter.unusedVariables false
set_option linter.unusedSimpArgs false
theorem kaskT (m : Tm) : ∀ (ks : List Tm) (n : Nat), (m ∉ ks → kask Tryz.prog 38 (vT m) (ks.map vT) n = some none) ∧ (m ∈ ks → ∃ j, ks[j]? = some m ∧ kask Tryz.prog 38 (vT m) (ks.map vT) n = some (some (n + j)))
  | [], n => ⟨fun _ => rfl, fun h => by cases h⟩
  | x :: r, n => by
    obtain ⟨h1, h2⟩ := kaskT m r (n + 1)
    have e : spure Tryz.prog (Op.equal 38 (vT m) (vT x)) = some (decide (m = x)) := by
      rw [← eq_tm]
      exact eq_spy 9997 ..
    refine ⟨fun h => ?_, fun h => ?_⟩
    · simp only [List.mem_cons, not_or] at h
      rw [List.map_cons, kask, e, decide_eq_false h.1]
      exact h1 h.2
    · by_cases hx : m = x
      · refine ⟨0, by rw [hx]; rfl, ?_⟩
        rw [List.map_cons, kask, e, decide_eq_true hx]
        rfl
      · obtain ⟨j, hj, hk⟩ := h2 ((List.mem_cons.1 h).resolve_left hx)
        refine ⟨j + 1, hj, ?_⟩
        rw [List.map_cons, kask, e, decide_eq_false hx]
        simp only []
        rw [hk, show n + 1 + j = n + (j + 1) by omega]
theorem gkeyT (m : Tm) (ks : List Tm) : (m ∉ ks → gkey Tryz.prog 38 (vT m) (ks.map vT) = some none) ∧ (m ∈ ks → ∃ j, ks[j]? = some m ∧ gkey Tryz.prog 38 (vT m) (ks.map vT) = some (some j)) := by
  obtain ⟨h1, h2⟩ := kaskT m ks 0
  obtain ⟨fs, hd⟩ : ∃ fs, Tryz.prog.underlying 38 = some (.struct fs) := ⟨#[⟨"Kind", 3, 0, false, "", "", 0⟩, ⟨"Of", 36, 1, false, "", "", 8⟩, ⟨"N", 3, 4, false, "", "", 32⟩, ⟨"M", 3, 5, false, "", "", 40⟩], by kernel_rfl⟩
  unfold gkey
  rw [hd]
  dsimp only
  cases ks with
  | nil => exact ⟨fun _ => rfl, fun h => by cases h⟩
  | cons x r =>
    have e : know (.struct fs) (vT m) ((x :: r).map vT) 0 = none := rfl
    rw [e]
    dsimp only
    refine ⟨h1, fun h => ?_⟩
    obtain ⟨j, hj, hk⟩ := h2 h
    exact ⟨j, hj, by rw [hk, Nat.zero_add]⟩
theorem gmapT {σ : Sto} {i : Nat} {ks : List Tm} (h : sget σ i = some (mapO ks)) : gmap σ (.mref i) = some (i, 48, entsT ks, ks.length) := by
  simp only [gmap, h]
theorem gvalT (m : Tm) : gval (gT m) = some (vT m) := rfl
theorem gchkT (b : Bool) (m : Tm) : gchk Tryz.prog b 38 (vT m) = true := by cases b <;> (show _ = _; kernel_rfl)
theorem lookT {σ : Sto} {i : Nat} {ks : List Tm} (h : sget σ i = some (mapO ks)) (m : Tm) : glookup Tryz.prog σ 48 false (.mref i) (gT m) = some (.lit (.bool (decide (m ∈ ks)))) := by
  obtain ⟨h1, h2⟩ := gkeyT m ks
  unfold glookup
  rw [show tmap Tryz.prog 48 = some (38, 4) by kernel_rfl, gvalT]
  dsimp only
  rw [gmapT h]
  dsimp only
  rw [gchkT, entsT_keys]
  by_cases hm : m ∈ ks
  · obtain ⟨j, hj, hk⟩ := h2 hm
    rw [hk]
    dsimp only [cond_true]
    rw [entsT_get, hj, decide_eq_true hm]
    rfl
  · rw [h1 hm, decide_eq_false hm]
    show _ = _
    kernel_rfl
theorem putT {σ : Sto} {i : Nat} {ks : List Tm} (h : sget σ i = some (mapO ks)) (m : Tm) : gmapPut Tryz.prog σ 48 (.mref i) (gT m) (.lit (.bool true)) = some (i, mapO (insA ks m)) := by
  obtain ⟨h1, h2⟩ := gkeyT m ks
  unfold gmapPut
  rw [show tmap Tryz.prog 48 = some (38, 4) by kernel_rfl, gvalT, gmapT h]
  dsimp only
  rw [gchkT, entsT_keys]
  unfold insA
  by_cases hm : m ∈ ks
  · obtain ⟨j, hj, hk⟩ := h2 hm
    rw [hk, if_pos hm]
    dsimp only [cond_true]
    rw [entsT_get, hj]
    dsimp only [Option.map_some]
    rw [show Instr.sameBits 10000 (vT m) (vT m) = true by simp [Instr.sameBits], cond_true]
    have e : (entsT ks).set j (vT m, .lit (.bool true), j) = entsT ks := by
      apply List.ext_getElem?
      intro q
      rw [List.getElem?_set]
      split
      · rename_i hq
        subst hq
        rw [entsT_get, hj]
        have := (List.getElem?_eq_some_iff.1 hj).1
        simp [entsT_len, this]
      · rfl
    rw [e]
  · rw [h1 hm, if_neg hm]
    dsimp only [cond_true]
    rw [← entsT_snoc]
    simp
/-! ### rows of rules -/
theorem ixE {l : List Ed} {i : Nat} {e : Ed} (h : l[i]? = some e) : gindex Tryz.prog 29 (rowE l) (i : Int) = some (.ptr (cellsE l) (i * 7)) := by
  have hi := (List.getElem?_eq_some_iff.1 h).1
  have hb := rows_bound (k := 7) h
  have hl := len_cellsE l
  simp only [gindex]
  rw [show telem Tryz.prog 29 = some 49 by kernel_rfl]
  simp only []
  rw [show tsize Tryz.prog 49 = some 7 by kernel_rfl]
  simp only [Option.bind_some]
  rw [if_pos (by refine ⟨by omega, by omega, ?_⟩; rw [hl]; simp; omega)]
  simp
theorem ixE2 {l : List Ed} {i : Nat} {e : Ed} (h : l[i]? = some e) : gindex Tryz.prog 23 (rowE l) (i : Int) = some (.ptr (cellsE l) (i * 7)) := by
  have hi := (List.getElem?_eq_some_iff.1 h).1
  have hb := rows_bound (k := 7) h
  have hl := len_cellsE l
  simp only [gindex]
  rw [show telem Tryz.prog 23 = some 47 by kernel_rfl]
  simp only []
  rw [show tsize Tryz.prog 47 = some 7 by kernel_rfl]
  simp only [Option.bind_some]
  rw [if_pos (by refine ⟨by omega, by omega, ?_⟩; rw [hl]; simp; omega)]
  simp
theorem ldE {l : List Ed} {i : Nat} {e : Ed} {σ : Sto} (h : l[i]? = some e) : gload Tryz.prog σ 49 (.ptr (cellsE l) (i * 7)) = some (.agg (cE e)) := by
  have hb := rows_bound (k := 7) h
  simp only [gload]
  unfold gpart
  rw [show tagg Tryz.prog 49 = some true by kernel_rfl, show tsize Tryz.prog 49 = some 7 by kernel_rfl]
  simp only []
  rw [if_pos (by rw [len_cellsE]; exact hb), rows_one len_cE h]
theorem ldE1 {l : List Ed} {i : Nat} {e : Ed} {σ : Sto} (h : l[i]? = some e) : gload Tryz.prog σ 25 (.ptr (cellsE l) (i * 7 + 0)) = some (rowT e.1) := by
  simp only [gload]
  unfold gpart
  rw [show tagg Tryz.prog 25 = some false by kernel_rfl, show tsize Tryz.prog 25 = some 1 by kernel_rfl]
  simp only []
  rw [rows_at len_cE h (by decide)]
  rfl
theorem ldE2 {l : List Ed} {i : Nat} {e : Ed} {σ : Sto} (h : l[i]? = some e) : gload Tryz.prog σ 38 (.ptr (cellsE l) (i * 7 + 1)) = some (gT e.2) := by
  have hb := rows_bound (k := 7) h
  simp only [gload]
  unfold gpart
  rw [show tagg Tryz.prog 38 = some true by kernel_rfl, show tsize Tryz.prog 38 = some 6 by kernel_rfl]
  simp only []
  rw [if_pos (by rw [len_cellsE]; omega)]
  have h1 := congrArg (fun x => (x.drop 1).take 6) (rows_one len_cE h)
  simp only [List.drop_take, List.drop_drop, List.take_take] at h1
  rw [show min 6 (7 - 1) = 6 by rfl] at h1
  rw [h1]
  rfl
end
section
open Go.RowKit
set_option linter.unusedVariables false
set_option linter.unusedSimpArgs false
/-- How many there can be. -/
theorem fin_len (l : List Ed) (t : List Tm) : (finA l (startA t)).length ≤ t.length + l.length := by
  have h := List.Nodup.length_le_of_subset (l₂ := t ++ l.map (·.2)) (fin_nodup l t) (fun x hx => by
    have := (fin_der l (startA t) x).1 hx
    cases this with
    | base h => exact List.mem_append_left _ ((start_mem t x).1 h)
    | step he _ => exact List.mem_append_right _ (List.mem_map.2 ⟨_, he, rfl⟩))
  simpa using h
/-- Rules and terms that are not too many. -/
structure Few (l : List Ed) (t : List Tm) : Prop where
  rules : l.length ≤ 1000
  terms : t.length ≤ 1000
  each : ∀ e ∈ l, e.1.length ≤ 1000
theorem wk_boolE {P : Program} {st : St} {ρ : List (Nat × Nat)} {x y : Bool} (h : x = y) : Wk P st ρ (.lit (.bool x)) (.lit (.bool y)) := by subst h; exact wk_imm (imm_lit _)
theorem wkx_same {P : Program} {st : St} {ρ : List (Nat × Nat)} (ks : List Tm) (n : Nat) : WkX P st ρ (.map (entsT ks) n) (.map (entsT ks) n) := wkx_map rfl fun j k k' g g' n n' h1 h2 => by
  rw [h1] at h2
  cases h2
  obtain ⟨_, m, _, _, rfl⟩ := entsT_mem (List.mem_of_getElem? h1)
  exact ⟨rfl, rfl, wk_imm (imm_lit _)⟩
attribute [local irreducible] gT
attribute [local irreducible] Tr Run RunD GS TG Le Wk Frz Fn' ImmG Flat WkFr WkSt EndM GSn Vw Rn FnM
noncomputable def body20 : Code := (Tryz.f20).body.getD .skip
theorem keys_tr (gl : List (Nat × List G)) (ks : List Tm) : Tr Tryz.prog body20 ⟨4, gl, [(0, .mref 0)], [(0, some (mapO ks))], 1, 1, false⟩ (fun e s => e = .ret ∧ s = ⟨4, gl, [(2, .clo (.func 28) [] [.ref 1 0])], σ0 ks, 2, 1, false⟩) := by
  unfold body20 Tryz.f20
  simp only [Option.getD_some]
  apply tr_seq
  apply tr_region
  refine run_box (l := [.mref 0]) (by kernel_rfl) (by decide) ?_
  refine run_v (g := .lit .nilFunc) (by kernel_rfl) (by decide) ?_
  repeat' (first | apply tr_seq | apply tr_region | apply run_nil | apply thn_n | apply thn_e | apply thn_r | apply blk_e | apply blk_n | apply blk_r | (refine blk_ne ?_ ?_; decide) | apply tr_block | apply tr_skip | apply tr_label | apply tr_exit | apply tr_ret)
  refine run_v (g := .clo (.func 28) [] [.ref 1 0]) (by kernel_rfl) (by decide) ?_
  refine run_v (g := .clo (.func 28) [] [.ref 1 0]) (by kernel_rfl) (by decide) ?_
  apply run_nil
  apply thn_n
  refine (tr_ret (st := ⟨4, gl, [(2, .clo (.func 28) [] [.ref 1 0])], σ0 ks, 2, 1, false⟩) ⟨rfl, rfl⟩).le ?_
  refine le_to [(0, 0), (1, 1)] (by decide) (by decide) (by decide) (wkfr_cons (wk_clo rfl rfl (fun i g g' h => by simp at h) (wk_one (wk_ref rfl))) wkfr_nil) ?_
  exact wkst_cons rfl rfl rfl rfl (Nat.le_refl _) (wk_one (wk_mref rfl)) (wkst_consX rfl rfl rfl rfl (wkx_same _ _) (by simp) wkst_nil)
set_option maxHeartbeats 8000000 in
theorem reach_fnR (hS : SortsK Tryz.prog 27 encT 6 cfT 21) (gl : List (Nat × List G)) (l : List Ed) (t : List Tm) (hF : Few l t) :
    FnR Tryz.prog gl 9 [rowE l, rowT t] 38 (reachA ltB l t).length (cellsT (reachA ltB l t)) := by
  have hl := hF.rules
  have ht := hF.terms
  refine fnr_enter Tryz.func9 rfl (by simp [Tryz.ntmps9]) ?_
  simp only [St.enter, enterFr, Tryz.ntmps9]
  repeat' (first | apply tr_seq | apply tr_region | apply run_nil | apply thn_n | apply thn_e | apply thn_r | apply blk_e | apply blk_n | apply blk_r | (refine blk_ne ?_ ?_; decide) | apply tr_block | apply tr_skip | apply tr_label | apply tr_exit | apply tr_ret | (refine tr_region_draw (bars := []) mixed (by kernel_rfl) ?_) | apply rund_nil | ((first | apply run_v | apply rund_v); simp (disch := omega) [if_pos]; (first | rfl | exact ⟨rfl, rfl⟩); decide) | ((first | apply run_bs | apply run_app | apply run_build | apply run_box | apply run_alloc | apply rund_build); simp (disch := omega) [if_pos]; (first | rfl | exact ⟨rfl, rfl⟩ | exact ⟨rfl, rfl, rfl, rfl⟩); decide) | (apply run_sto; simp (disch := omega) [if_pos]; rfl))
  refine run_e rfl (gs_makeMap rfl (fun d e => by cases e; show 13 < 53; decide) (by kernel_rfl)) ?_
  simp only [St.put]
  repeat' (first | apply tr_seq | apply tr_region | apply run_nil | apply thn_n | apply thn_e | apply thn_r | apply blk_e | apply blk_n | apply blk_r | (refine blk_ne ?_ ?_; decide) | apply tr_block | apply tr_skip | apply tr_label | apply tr_exit | apply tr_ret | (refine tr_region_draw (bars := []) mixed (by kernel_rfl) ?_) | apply rund_nil | ((first | apply run_v | apply rund_v); simp (disch := omega) [if_pos]; (first | rfl | exact ⟨rfl, rfl⟩); decide) | ((first | apply run_bs | apply run_app | apply run_build | apply run_box | apply run_alloc | apply rund_build); simp (disch := omega) [if_pos]; (first | rfl | exact ⟨rfl, rfl⟩ | exact ⟨rfl, rfl, rfl, rfl⟩); decide) | (apply run_sto; simp (disch := omega) [if_pos]; rfl))
  refine tr_loop (fun q : {q : Nat // q ≤ t.length} => ⟨53, gl, [(0, rowE l), (5, .mref 0), (14, rowT t), (15, gInt (t.length : Int)), (16, gInt (q.1 : Int))], [(0, some (mapO (startA (t.take q.1))))], 1, 0, false⟩) (fun q => t.length - q.1) ⟨0, Nat.zero_le _⟩ ?_ ?_
  · refine le_to [(0, 0)] (by decide) (by decide) (by decide) ?_ ?_
    · exact wkfr_cons (wk_imm (imm_sl _ _)) (wkfr_cons (wk_mref rfl) (wkfr_cons (wk_imm (imm_sl _ _)) (wkfr_cons (wk_imm (imm_lit _)) (wkfr_cons (wk_imm (imm_lit _)) wkfr_nil))))
    · refine wkst_consX rfl rfl rfl rfl (wkx_map rfl fun j k k' g g' n n' h1 h2 => ?_) (by simp) wkst_nil
      cases h1
  · rintro ⟨i, hi⟩
    dsimp only
    repeat' (first | apply tr_seq | apply tr_region | apply run_nil | apply thn_n | apply thn_e | apply thn_r | apply blk_e | apply blk_n | apply blk_r | (refine blk_ne ?_ ?_; decide) | apply tr_block | apply tr_skip | apply tr_label | apply tr_exit | apply tr_ret | (refine tr_region_draw (bars := []) mixed (by kernel_rfl) ?_) | apply rund_nil | ((first | apply run_v | apply rund_v); simp (disch := omega) [if_pos]; (first | rfl | exact ⟨rfl, rfl⟩); decide) | ((first | apply run_bs | apply run_app | apply run_build | apply run_box | apply run_alloc | apply rund_build); simp (disch := omega) [if_pos]; (first | rfl | exact ⟨rfl, rfl⟩ | exact ⟨rfl, rfl, rfl, rfl⟩); decide) | (apply run_sto; simp (disch := omega) [if_pos]; rfl))
    refine tr_condP (p := i < t.length) ?_ (fun h => ?_) (fun h => ?_)
    · simp
    · obtain ⟨x, hx⟩ : ∃ x, t[i]? = some x := ⟨_, List.getElem?_eq_getElem h⟩
      have h1 := ixT hx
      have h2 : ∀ σ, gload Tryz.prog σ 38 (.ptr (cellsT t) (i * 6)) = some (gT x) := fun σ => ldT hx
      repeat' (first | apply tr_seq | apply tr_region | apply run_nil | apply thn_n | apply thn_e | apply thn_r | apply blk_e | apply blk_n | apply blk_r | (refine blk_ne ?_ ?_; decide) | apply tr_block | apply tr_skip | apply tr_label | apply tr_exit | apply tr_ret | (refine tr_region_draw (bars := []) mixed (by kernel_rfl) ?_) | apply rund_nil | ((first | apply run_v | apply rund_v); simp (disch := omega) [if_pos, -gindex, -gload, h1, h2]; (first | rfl | exact ⟨rfl, rfl⟩); decide) | ((first | apply run_bs | apply run_app | apply run_build | apply run_box | apply run_alloc | apply rund_build); simp (disch := omega) [if_pos, -gindex, -gload, h1, h2]; (first | rfl | exact ⟨rfl, rfl⟩ | exact ⟨rfl, rfl, rfl, rfl⟩); decide) | (apply run_sto; simp (disch := omega) [if_pos, -gindex, -gload, h1, h2]; rfl))
      refine run_sto (i := 1) (ob := rowO [x]) (by rw [gT_c]; kernel_rfl) ?_
      apply run_nil
      apply thn_n
      refine tr_region ?_
      refine run_v (g := .mref 0) (by kernel_rfl) (by decide) ?_
      refine run_v (g := gT x) (by rw [gT_c]; kernel_rfl) (by decide) ?_
      refine run_e rfl (gs_mapUpdate (i := 0) (ob := mapO (insA (startA (t.take i)) x)) (.inl rfl) (fun d e => by cases e) (putT rfl x)) ?_
      simp only [St.put]
      repeat' (first | apply tr_seq | apply tr_region | apply run_nil | apply thn_n | apply thn_e | apply thn_r | apply blk_e | apply blk_n | apply blk_r | (refine blk_ne ?_ ?_; decide) | apply tr_block | apply tr_skip | apply tr_label | apply tr_exit | apply tr_ret | (refine tr_region_draw (bars := []) mixed (by kernel_rfl) ?_) | apply rund_nil | ((first | apply run_v | apply rund_v); simp (disch := omega) [if_pos]; (first | rfl | exact ⟨rfl, rfl⟩); decide) | ((first | apply run_bs | apply run_app | apply run_build | apply run_box | apply run_alloc | apply rund_build); simp (disch := omega) [if_pos]; (first | rfl | exact ⟨rfl, rfl⟩ | exact ⟨rfl, rfl, rfl, rfl⟩); decide) | (apply run_sto; simp (disch := omega) [if_pos]; rfl))
      have e : insA (startA (t.take i)) x = startA (t.take (i + 1)) := by
        unfold startA
        rw [List.take_add_one, hx, List.foldl_append]
        rfl
      refine ⟨⟨i + 1, by omega⟩, ?_, by show t.length - (i + 1) < t.length - i; omega⟩
      rw [e]
      dsimp only
      refine le_to [(0, 0)] (by decide) (by decide) (by decide) ?_ ?_
      · exact wkfr_cons (wk_imm (imm_sl _ _)) (wkfr_cons (wk_mref rfl) (wkfr_cons (wk_imm (imm_sl _ _)) (wkfr_cons (wk_imm (imm_lit _)) (wkfr_cons (wk_int (by omega)) wkfr_nil))))
      · exact wkst_consX rfl rfl rfl rfl (wkx_same _ _) (by simp) wkst_nil
    · have e : t.take i = t := List.take_of_length_le (by omega)
      rw [e]
      generalize hk0 : startA t = k0
      have hn0 : k0.Nodup := by rw [← hk0]; exact start_nodup t
      repeat' (first | apply tr_seq | apply tr_region | apply run_nil | apply thn_n | apply thn_e | apply thn_r | apply blk_e | apply blk_n | apply blk_r | (refine blk_ne ?_ ?_; decide) | apply tr_block | apply tr_skip | apply tr_label | apply tr_exit | apply tr_ret | (refine tr_region_draw (bars := []) mixed (by kernel_rfl) ?_) | apply rund_nil | ((first | apply run_v | apply rund_v); simp (disch := omega) [if_pos]; (first | rfl | exact ⟨rfl, rfl⟩); decide) | ((first | apply run_bs | apply run_app | apply run_build | apply run_box | apply run_alloc | apply rund_build); simp (disch := omega) [if_pos]; (first | rfl | exact ⟨rfl, rfl⟩ | exact ⟨rfl, rfl, rfl, rfl⟩); decide) | (apply run_sto; simp (disch := omega) [if_pos]; rfl))
      refine tr_loop (fun q : {q : List Tm × Bool // finA l q.1 = finA l k0 ∧ q.1.Nodup ∧ (q.2 = false → passA l q.1 = q.1)} => ⟨53, gl, [(0, rowE l), (5, .mref 0), (8, .lit (.bool q.1.2))], [(0, some (mapO q.1.1))], 1, 0, false⟩) (fun q => missA l q.1.1 * 2 + (if q.1.2 then 1 else 0)) ⟨(k0, true), rfl, hn0, by simp⟩ ?_ ?_
      · refine le_to [(0, 0)] (by decide) (by decide) (by decide) ?_ ?_
        · exact wkfr_cons (wk_imm (imm_sl _ _)) (wkfr_cons (wk_mref rfl) (wkfr_cons (wk_imm (imm_lit _)) wkfr_nil))
        · exact wkst_consX rfl rfl rfl rfl (wkx_same _ _) (by simp) wkst_nil
      · rintro ⟨⟨ks, more⟩, hfin, hnd, hmore⟩
        dsimp only at hfin hnd hmore ⊢
        repeat' (first | apply tr_seq | apply tr_region | apply run_nil | apply thn_n | apply thn_e | apply thn_r | apply blk_e | apply blk_n | apply blk_r | (refine blk_ne ?_ ?_; decide) | apply tr_block | apply tr_skip | apply tr_label | apply tr_exit | apply tr_ret | (refine tr_region_draw (bars := []) mixed (by kernel_rfl) ?_) | apply rund_nil | ((first | apply run_v | apply rund_v); simp (disch := omega) [if_pos]; (first | rfl | exact ⟨rfl, rfl⟩); decide) | ((first | apply run_bs | apply run_app | apply run_build | apply run_box | apply run_alloc | apply rund_build); simp (disch := omega) [if_pos]; (first | rfl | exact ⟨rfl, rfl⟩ | exact ⟨rfl, rfl, rfl, rfl⟩); decide) | (apply run_sto; simp (disch := omega) [if_pos]; rfl))
        refine tr_cond2 (t := more) rfl (fun h => ?_) (fun h => ?_)
        · subst h
          repeat' (first | apply tr_seq | apply tr_region | apply run_nil | apply thn_n | apply thn_e | apply thn_r | apply blk_e | apply blk_n | apply blk_r | (refine blk_ne ?_ ?_; decide) | apply tr_block | apply tr_skip | apply tr_label | apply tr_exit | apply tr_ret | (refine tr_region_draw (bars := []) mixed (by kernel_rfl) ?_) | apply rund_nil | ((first | apply run_v | apply rund_v); simp (disch := omega) [if_pos]; (first | rfl | exact ⟨rfl, rfl⟩); decide) | ((first | apply run_bs | apply run_app | apply run_build | apply run_box | apply run_alloc | apply rund_build); simp (disch := omega) [if_pos]; (first | rfl | exact ⟨rfl, rfl⟩ | exact ⟨rfl, rfl, rfl, rfl⟩); decide) | (apply run_sto; simp (disch := omega) [if_pos]; rfl))
          refine tr_scope ?_
          repeat' (first | apply tr_seq | apply tr_region | apply run_nil | apply thn_n | apply thn_e | apply thn_r | apply blk_e | apply blk_n | apply blk_r | (refine blk_ne ?_ ?_; decide) | apply tr_block | apply tr_skip | apply tr_label | apply tr_exit | apply tr_ret | (refine tr_region_draw (bars := []) mixed (by kernel_rfl) ?_) | apply rund_nil | ((first | apply run_v | apply rund_v); simp (disch := omega) [if_pos]; (first | rfl | exact ⟨rfl, rfl⟩); decide) | ((first | apply run_bs | apply run_app | apply run_build | apply run_box | apply run_alloc | apply rund_build); simp (disch := omega) [if_pos]; (first | rfl | exact ⟨rfl, rfl⟩ | exact ⟨rfl, rfl, rfl, rfl⟩); decide) | (apply run_sto; simp (disch := omega) [if_pos]; rfl))
          refine tr_loop (fun q : {q : Nat // q ≤ l.length} => ⟨53, gl, [(0, rowE l), (5, .mref 0), (8, .lit (.bool (decide (passA (l.take q.1) ks ≠ ks)))), (24, rowE l), (25, gInt (l.length : Int)), (26, gInt (q.1 : Int))], [(0, some (mapO (passA (l.take q.1) ks)))], 1, 0, false⟩) (fun q => l.length - q.1) ⟨0, Nat.zero_le _⟩ ?_ ?_
          · have e0 : passA (l.take 0) ks = ks := rfl
            dsimp only
            rw [e0]
            refine le_to [(0, 0)] (by decide) (by decide) (by decide) ?_ ?_
            · exact wkfr_cons (wk_imm (imm_sl _ _)) (wkfr_cons (wk_mref rfl) (wkfr_cons (wk_boolE (by simp)) (wkfr_cons (wk_imm (imm_sl _ _)) (wkfr_cons (wk_imm (imm_lit _)) (wkfr_cons (wk_imm (imm_lit _)) wkfr_nil)))))
            · exact wkst_consX rfl rfl rfl rfl (wkx_same _ _) (by simp) wkst_nil
          · rintro ⟨i, hi⟩
            dsimp only
            repeat' (first | apply tr_seq | apply tr_region | apply run_nil | apply thn_n | apply thn_e | apply thn_r | apply blk_e | apply blk_n | apply blk_r | (refine blk_ne ?_ ?_; decide) | apply tr_block | apply tr_skip | apply tr_label | apply tr_exit | apply tr_ret | (refine tr_region_draw (bars := []) mixed (by kernel_rfl) ?_) | apply rund_nil | ((first | apply run_v | apply rund_v); simp (disch := omega) [if_pos]; (first | rfl | exact ⟨rfl, rfl⟩); decide) | ((first | apply run_bs | apply run_app | apply run_build | apply run_box | apply run_alloc | apply rund_build); simp (disch := omega) [if_pos]; (first | rfl | exact ⟨rfl, rfl⟩ | exact ⟨rfl, rfl, rfl, rfl⟩); decide) | (apply run_sto; simp (disch := omega) [if_pos]; rfl))
            refine tr_condP (p := i < l.length) ?_ (fun hil => ?_) (fun hil => ?_)
            · simp
            · obtain ⟨e, he⟩ : ∃ e, l[i]? = some e := ⟨_, List.getElem?_eq_getElem hil⟩
              have hel := hF.each e (List.mem_of_getElem? he)
              have hstep : passA (l.take (i + 1)) ks = stepA (passA (l.take i) ks) e := by
                rw [List.take_add_one, he]
                unfold passA
                rw [List.foldl_append]
                rfl
              obtain ⟨sf, hsf, _⟩ := pass_pre (l.take i) ks
              generalize hk : passA (l.take i) ks = k at *
              have next : ∀ (st : St) (b : Bool) (k' : List Tm), stepA k e = k' → b = decide (k' ≠ ks) → Le Tryz.prog st ⟨53, gl, [(0, rowE l), (5, .mref 0), (8, .lit (.bool b)), (24, rowE l), (25, gInt (l.length : Int)), (26, gInt ((i + 1 : Nat) : Int))], [(0, some (mapO k'))], 1, 0, false⟩ →
                  ∃ q : {q : Nat // q ≤ l.length}, Le Tryz.prog st ⟨53, gl, [(0, rowE l), (5, .mref 0), (8, .lit (.bool (decide (passA (l.take q.1) ks ≠ ks)))), (24, rowE l), (25, gInt (l.length : Int)), (26, gInt (q.1 : Int))], [(0, some (mapO (passA (l.take q.1) ks)))], 1, 0, false⟩ ∧ l.length - q.1 < l.length - i := by
                intro st b k' h1 h2 h3
                refine ⟨⟨i + 1, by omega⟩, ?_, by show l.length - (i + 1) < l.length - i; omega⟩
                dsimp only
                rw [hstep, h1, ← h2]
                exact h3
              have h1 := ixE he
              have h2 : ∀ σ, gload Tryz.prog σ 49 (.ptr (cellsE l) (i * 7)) = some (.agg (cE e)) := fun σ => ldE he
              repeat' (first | apply tr_seq | apply tr_region | apply run_nil | apply thn_n | apply thn_e | apply thn_r | apply blk_e | apply blk_n | apply blk_r | (refine blk_ne ?_ ?_; decide) | apply tr_block | apply tr_skip | apply tr_label | apply tr_exit | apply tr_ret | (refine tr_region_draw (bars := []) mixed (by kernel_rfl) ?_) | apply rund_nil | ((first | apply run_v | apply rund_v); simp (disch := omega) [if_pos, -gindex, -gload, h1, h2]; (first | rfl | exact ⟨rfl, rfl⟩); decide) | ((first | apply run_bs | apply run_app | apply run_build | apply run_box | apply run_alloc | apply rund_build); simp (disch := omega) [if_pos, -gindex, -gload, h1, h2]; (first | rfl | exact ⟨rfl, rfl⟩ | exact ⟨rfl, rfl, rfl, rfl⟩); decide) | (apply run_sto; simp (disch := omega) [if_pos, -gindex, -gload, h1, h2]; rfl))
              refine run_sto (i := 1) (ob := ⟨49, cE e, none⟩) (by kernel_rfl) ?_
              apply run_nil
              apply thn_n
              apply tr_seq
              apply tr_seq
              apply tr_region
              refine run_v (g := .mref 0) (by kernel_rfl) (by decide) ?_
              refine run_v (g := .ref 1 1) (by kernel_rfl) (by decide) ?_
              refine run_v (g := gT e.2) (by rw [gT_c]; kernel_rfl) (by decide) ?_
              refine run_e rfl (gs_lookup (g := .lit (.bool (decide (e.2 ∈ k)))) rfl (fun d e => by cases e; show 33 < 53; decide) (lookT rfl e.2)) ?_
              simp only [St.put]
              apply run_nil
              apply thn_n
              refine tr_condP (p := e.2 ∈ k) rfl (fun hin => ?_) (fun hin => ?_)
              · repeat' (first | apply tr_seq | apply tr_region | apply run_nil | apply thn_n | apply thn_e | apply thn_r | apply blk_e | apply blk_n | apply blk_r | (refine blk_ne ?_ ?_; decide) | apply tr_block | apply tr_skip | apply tr_label | apply tr_exit | apply tr_ret | (refine tr_region_draw (bars := []) mixed (by kernel_rfl) ?_) | apply rund_nil | ((first | apply run_v | apply rund_v); simp (disch := omega) [if_pos]; (first | rfl | exact ⟨rfl, rfl⟩); decide) | ((first | apply run_bs | apply run_app | apply run_build | apply run_box | apply run_alloc | apply rund_build); simp (disch := omega) [if_pos]; (first | rfl | exact ⟨rfl, rfl⟩ | exact ⟨rfl, rfl, rfl, rfl⟩); decide) | (apply run_sto; simp (disch := omega) [if_pos]; rfl))
                refine next _ _ k ?_ rfl ?_
                · unfold stepA canA
                  simp [hin]
                · refine le_to [(0, 0)] (by decide) (by decide) (by decide) (wkfr_cons (wk_imm (imm_sl _ _)) (wkfr_cons (wk_mref rfl) (wkfr_cons (wk_imm (imm_lit _)) (wkfr_cons (wk_imm (imm_sl _ _)) (wkfr_cons (wk_imm (imm_lit _)) (wkfr_cons (wk_int (by omega)) wkfr_nil)))))) (wkst_consX rfl rfl rfl rfl (wkx_same _ _) (by simp) wkst_nil)
              · repeat' (first | apply tr_seq | apply tr_region | apply run_nil | apply thn_n | apply thn_e | apply thn_r | apply blk_e | apply blk_n | apply blk_r | (refine blk_ne ?_ ?_; decide) | apply tr_block | apply tr_skip | apply tr_label | apply tr_exit | apply tr_ret)
                refine run_v (g := .ref 1 0) (by kernel_rfl) (by decide) ?_
                refine run_v (g := rowT e.1) (by kernel_rfl) (by decide) ?_
                repeat' (first | apply tr_seq | apply tr_region | apply run_nil | apply thn_n | apply thn_e | apply thn_r | apply blk_e | apply blk_n | apply blk_r | (refine blk_ne ?_ ?_; decide) | apply tr_block | apply tr_skip | apply tr_label | apply tr_exit | apply tr_ret | (refine tr_region_draw (bars := []) mixed (by kernel_rfl) ?_) | apply rund_nil | ((first | apply run_v | apply rund_v); simp (disch := omega) [if_pos]; (first | rfl | exact ⟨rfl, rfl⟩); decide) | ((first | apply run_bs | apply run_app | apply run_build | apply run_box | apply run_alloc | apply rund_build); simp (disch := omega) [if_pos]; (first | rfl | exact ⟨rfl, rfl⟩ | exact ⟨rfl, rfl, rfl, rfl⟩); decide) | (apply run_sto; simp (disch := omega) [if_pos]; rfl))
                refine tr_loop (fun q : {q : Nat // q ≤ e.1.length ∧ ∀ x ∈ e.1.take q, x ∈ k} => ⟨53, gl, [(0, rowE l), (5, .mref 0), (8, .lit (.bool (decide (k ≠ ks)))), (10, .ref 1 0), (24, rowE l), (25, gInt (l.length : Int)), (26, gInt (i : Int)), (35, rowT e.1), (36, gInt (e.1.length : Int)), (37, gInt (q.1 : Int))], [(0, some (mapO k)), (1, some ⟨49, cE e, none⟩)], 2, 0, false⟩) (fun q => e.1.length - q.1) ⟨0, by simp⟩ ?_ ?_
                · dsimp only
                  refine le_to [(0, 0), (1, 1)] (by decide) (by decide) (by decide) (wkfr_cons (wk_imm (imm_sl _ _)) (wkfr_cons (wk_mref rfl) (wkfr_cons (wk_imm (imm_lit _)) (wkfr_cons (wk_ref rfl) (wkfr_cons (wk_imm (imm_sl _ _)) (wkfr_cons (wk_imm (imm_lit _)) (wkfr_cons (wk_imm (imm_lit _)) (wkfr_cons (wk_imm (imm_sl _ _)) (wkfr_cons (wk_imm (imm_lit _)) (wkfr_cons (wk_int (by omega)) wkfr_nil)))))))))) (wkst_consX rfl rfl rfl rfl (wkx_same _ _) (by simp) (wkst_eq rfl rfl rfl (cE_imm _) wkst_nil))
                · rintro ⟨j, hj, hall⟩
                  dsimp only
                  repeat' (first | apply tr_seq | apply tr_region | apply run_nil | apply thn_n | apply thn_e | apply thn_r | apply blk_e | apply blk_n | apply blk_r | (refine blk_ne ?_ ?_; decide) | apply tr_block | apply tr_skip | apply tr_label | apply tr_exit | apply tr_ret | (refine tr_region_draw (bars := []) mixed (by kernel_rfl) ?_) | apply rund_nil | ((first | apply run_v | apply rund_v); simp (disch := omega) [if_pos]; (first | rfl | exact ⟨rfl, rfl⟩); decide) | ((first | apply run_bs | apply run_app | apply run_build | apply run_box | apply run_alloc | apply rund_build); simp (disch := omega) [if_pos]; (first | rfl | exact ⟨rfl, rfl⟩ | exact ⟨rfl, rfl, rfl, rfl⟩); decide) | (apply run_sto; simp (disch := omega) [if_pos]; rfl))
                  refine tr_condP (p := j < e.1.length) ?_ (fun hjl => ?_) (fun hjl => ?_)
                  · simp
                  · obtain ⟨x, hx⟩ : ∃ x, e.1[j]? = some x := ⟨_, List.getElem?_eq_getElem hjl⟩
                    have h3 := ixT hx
                    have h4 : ∀ σ, gload Tryz.prog σ 38 (.ptr (cellsT e.1) (j * 6)) = some (gT x) := fun σ => ldT hx
                    repeat' (first | apply tr_seq | apply tr_region | apply run_nil | apply thn_n | apply thn_e | apply thn_r | apply blk_e | apply blk_n | apply blk_r | (refine blk_ne ?_ ?_; decide) | apply tr_block | apply tr_skip | apply tr_label | apply tr_exit | apply tr_ret | (refine tr_region_draw (bars := []) mixed (by kernel_rfl) ?_) | apply rund_nil | ((first | apply run_v | apply rund_v); simp (disch := omega) [if_pos, -gindex, -gload, h3, h4]; (first | rfl | exact ⟨rfl, rfl⟩); decide) | ((first | apply run_bs | apply run_app | apply run_build | apply run_box | apply run_alloc | apply rund_build); simp (disch := omega) [if_pos, -gindex, -gload, h3, h4]; (first | rfl | exact ⟨rfl, rfl⟩ | exact ⟨rfl, rfl, rfl, rfl⟩); decide) | (apply run_sto; simp (disch := omega) [if_pos, -gindex, -gload, h3, h4]; rfl))
                    refine run_sto (i := 2) (ob := rowO [x]) (by rw [gT_c]; kernel_rfl) ?_
                    apply run_nil
                    apply thn_n
                    apply tr_seq
                    apply tr_region
                    refine run_v (g := .mref 0) (by kernel_rfl) (by decide) ?_
                    refine run_v (g := gT x) (by rw [gT_c]; kernel_rfl) (by decide) ?_
                    refine run_e rfl (gs_lookup (g := .lit (.bool (decide (x ∈ k)))) rfl (fun d e => by cases e; show 43 < 53; decide) (lookT rfl x)) ?_
                    simp only [St.put]
                    repeat' (first | apply tr_seq | apply tr_region | apply run_nil | apply thn_n | apply thn_e | apply thn_r | apply blk_e | apply blk_n | apply blk_r | (refine blk_ne ?_ ?_; decide) | apply tr_block | apply tr_skip | apply tr_label | apply tr_exit | apply tr_ret | (refine tr_region_draw (bars := []) mixed (by kernel_rfl) ?_) | apply rund_nil | ((first | apply run_v | apply rund_v); simp (disch := omega) [if_pos]; (first | rfl | exact ⟨rfl, rfl⟩); decide) | ((first | apply run_bs | apply run_app | apply run_build | apply run_box | apply run_alloc | apply rund_build); simp (disch := omega) [if_pos]; (first | rfl | exact ⟨rfl, rfl⟩ | exact ⟨rfl, rfl, rfl, rfl⟩); decide) | (apply run_sto; simp (disch := omega) [if_pos]; rfl))
                    refine tr_condP (p := ¬ x ∈ k) (by simp) (fun hxk => ?_) (fun hxk => ?_)
                    · repeat' (first | apply tr_seq | apply tr_region | apply run_nil | apply thn_n | apply thn_e | apply thn_r | apply blk_e | apply blk_n | apply blk_r | (refine blk_ne ?_ ?_; decide) | apply tr_block | apply tr_skip | apply tr_label | apply tr_exit | apply tr_ret | (refine tr_region_draw (bars := []) mixed (by kernel_rfl) ?_) | apply rund_nil | ((first | apply run_v | apply rund_v); simp (disch := omega) [if_pos]; (first | rfl | exact ⟨rfl, rfl⟩); decide) | ((first | apply run_bs | apply run_app | apply run_build | apply run_box | apply run_alloc | apply rund_build); simp (disch := omega) [if_pos]; (first | rfl | exact ⟨rfl, rfl⟩ | exact ⟨rfl, rfl, rfl, rfl⟩); decide) | (apply run_sto; simp (disch := omega) [if_pos]; rfl))
                      refine next _ _ k ?_ rfl ?_
                      · unfold stepA canA
                        have : e.1.all (fun x => decide (x ∈ k)) = false := by
                          rw [List.all_eq_false]
                          exact ⟨x, List.mem_of_getElem? hx, by simp [hxk]⟩
                        rw [this, Bool.and_false, if_neg (by decide)]
                      · refine le_to [(0, 0)] (by decide) (by decide) (by decide) (wkfr_cons (wk_imm (imm_sl _ _)) (wkfr_cons (wk_mref rfl) (wkfr_cons (wk_imm (imm_lit _)) (wkfr_cons (wk_imm (imm_sl _ _)) (wkfr_cons (wk_imm (imm_lit _)) (wkfr_cons (wk_int (by omega)) wkfr_nil)))))) (wkst_consX rfl rfl rfl rfl (wkx_same _ _) (by simp) wkst_nil)
                    · repeat' (first | apply tr_seq | apply tr_region | apply run_nil | apply thn_n | apply thn_e | apply thn_r | apply blk_e | apply blk_n | apply blk_r | (refine blk_ne ?_ ?_; decide) | apply tr_block | apply tr_skip | apply tr_label | apply tr_exit | apply tr_ret | (refine tr_region_draw (bars := []) mixed (by kernel_rfl) ?_) | apply rund_nil | ((first | apply run_v | apply rund_v); simp (disch := omega) [if_pos]; (first | rfl | exact ⟨rfl, rfl⟩); decide) | ((first | apply run_bs | apply run_app | apply run_build | apply run_box | apply run_alloc | apply rund_build); simp (disch := omega) [if_pos]; (first | rfl | exact ⟨rfl, rfl⟩ | exact ⟨rfl, rfl, rfl, rfl⟩); decide) | (apply run_sto; simp (disch := omega) [if_pos]; rfl))
                      refine ⟨⟨j + 1, by omega, ?_⟩, ?_, by show e.1.length - (j + 1) < e.1.length - j; omega⟩
                      · intro y hy
                        rw [List.take_add_one, hx] at hy
                        rcases List.mem_append.1 hy with hy | hy
                        · exact hall y hy
                        · simp at hy; subst hy; exact Decidable.of_not_not hxk
                      · dsimp only
                        refine le_to [(0, 0), (1, 1)] (by decide) (by decide) (by decide) (wkfr_cons (wk_imm (imm_sl _ _)) (wkfr_cons (wk_mref rfl) (wkfr_cons (wk_imm (imm_lit _)) (wkfr_cons (wk_ref rfl) (wkfr_cons (wk_imm (imm_sl _ _)) (wkfr_cons (wk_imm (imm_lit _)) (wkfr_cons (wk_imm (imm_lit _)) (wkfr_cons (wk_imm (imm_sl _ _)) (wkfr_cons (wk_imm (imm_lit _)) (wkfr_cons (wk_int (by omega)) wkfr_nil)))))))))) (wkst_consX rfl rfl rfl rfl (wkx_same _ _) (by simp) (wkst_eq rfl rfl rfl (cE_imm _) wkst_nil))
                  · repeat' (first | apply tr_seq | apply tr_region | apply run_nil | apply thn_n | apply thn_e | apply thn_r | apply blk_e | apply blk_n | apply blk_r | (refine blk_ne ?_ ?_; decide) | apply tr_block | apply tr_skip | apply tr_label | apply tr_exit | apply tr_ret)
                    refine run_v (g := .mref 0) (by kernel_rfl) (by decide) ?_
                    refine run_v (g := .ref 1 1) (by kernel_rfl) (by decide) ?_
                    refine run_v (g := gT e.2) (by rw [gT_c]; kernel_rfl) (by decide) ?_
                    refine run_e rfl (gs_mapUpdate (i := 0) (ob := mapO (insA k e.2)) (.inl rfl) (fun d e => by cases e) (putT rfl e.2)) ?_
                    simp only [St.put]
                    repeat' (first | apply tr_seq | apply tr_region | apply run_nil | apply thn_n | apply thn_e | apply thn_r | apply blk_e | apply blk_n | apply blk_r | (refine blk_ne ?_ ?_; decide) | apply tr_block | apply tr_skip | apply tr_label | apply tr_exit | apply tr_ret | (refine tr_region_draw (bars := []) mixed (by kernel_rfl) ?_) | apply rund_nil | ((first | apply run_v | apply rund_v); simp (disch := omega) [if_pos]; (first | rfl | exact ⟨rfl, rfl⟩); decide) | ((first | apply run_bs | apply run_app | apply run_build | apply run_box | apply run_alloc | apply rund_build); simp (disch := omega) [if_pos]; (first | rfl | exact ⟨rfl, rfl⟩ | exact ⟨rfl, rfl, rfl, rfl⟩); decide) | (apply run_sto; simp (disch := omega) [if_pos]; rfl))
                    rw [List.take_of_length_le (by omega)] at hall
                    have hst : stepA k e = k ++ [e.2] := by
                      unfold stepA canA
                      have : e.1.all (fun x => decide (x ∈ k)) = true := by
                        rw [List.all_eq_true]
                        exact fun x hx => decide_eq_true (hall x hx)
                      rw [this]
                      simp [hin]
                    have hins : insA k e.2 = k ++ [e.2] := by
                      unfold insA
                      rw [if_neg hin]
                    rw [hins]
                    refine next _ true (k ++ [e.2]) hst ?_ ?_
                    · rw [eq_comm, decide_eq_true_iff]
                      intro h
                      rw [hsf] at h
                      have := congrArg List.length h
                      simp at this
                    · refine le_to [(0, 0)] (by decide) (by decide) (by decide) (wkfr_cons (wk_imm (imm_sl _ _)) (wkfr_cons (wk_mref rfl) (wkfr_cons (wk_imm (imm_lit _)) (wkfr_cons (wk_imm (imm_sl _ _)) (wkfr_cons (wk_imm (imm_lit _)) (wkfr_cons (wk_int (by omega)) wkfr_nil)))))) (wkst_consX rfl rfl rfl rfl (wkx_same _ _) (by simp) wkst_nil)
            · have e9 : passA (l.take i) ks = passA l ks := by rw [List.take_of_length_le (by omega)]
              rw [e9]
              repeat' (first | apply tr_seq | apply tr_region | apply run_nil | apply thn_n | apply thn_e | apply thn_r | apply blk_e | apply blk_n | apply blk_r | (refine blk_ne ?_ ?_; decide) | apply tr_block | apply tr_skip | apply tr_label | apply tr_exit | apply tr_ret)
              refine ⟨rfl, ?_⟩
              apply blk_n
              apply thn_n
              refine ⟨⟨(passA l ks, decide (passA l ks ≠ ks)), by rw [fin_pass]; exact hfin, pass_nodup l hnd, fun h => ?_⟩, ?_, ?_⟩
              · have h9 : passA l ks = ks := by simpa using h
                rw [h9, h9]
              · refine le_to [(0, 0)] (by decide) (by decide) (by decide) ?_ ?_
                · exact wkfr_cons (wk_imm (imm_sl _ _)) (wkfr_cons (wk_mref rfl) (wkfr_cons (wk_imm (imm_lit _)) wkfr_nil))
                · exact wkst_consX rfl rfl rfl rfl (wkx_same _ _) (by simp) wkst_nil
              · dsimp only
                by_cases h9 : passA l ks = ks
                · rw [if_neg (by simp [h9]), show missA l (passA l ks) = missA l ks by rw [h9]]
                  simp
                · have := pass_less h9
                  split <;> simp <;> omega
        · subst h
          have h9 := hmore rfl
          have h10 : finA l k0 = ks := by rw [← hfin]; exact fin_fix h9
          have hlen : ks.length < 100000 := by
            have := fin_len l t
            rw [hk0, h10] at this
            omega
          have hres : reachA ltB l t = sortS ltB ks := by
            unfold reachA
            rw [hk0, h10]
          rw [hres]
          refine tr_exit ?_
          apply thn_e
          apply thn_e
          apply blk_e
          apply thn_n
          refine tr_seq (tr_regionN ?_)
          refine rn_v rfl rfl (by show 50 < 53; decide) (g := .mref 0) rfl ?_
          simp only [St.put]
          refine rn_n rfl (gsn_callI (fst := []) (cap := []) rfl (fun d e => by cases e; show 51 < 53; decide) rfl (by kernel_rfl) Tryz.func20 (body := body20) rfl (by show 1 ≤ 4; decide) (keys_tr gl ks) ?_) ?_
          · rintro e s ⟨rfl, rfl⟩
            exact ⟨.inr rfl, rfl, [.clo (.func 28) [] [.ref 1 0]], rfl⟩
          · rintro s' ⟨e, s, gs', ⟨rfl, rfl⟩, hgs, rfl⟩
            have hgs : some [G.clo (.func 28) [] [.ref 1 0]] = some gs' := hgs
            cases hgs
            simp only [St.put, gtup]
            refine rn_n rfl (gsn_callI (fst := []) (cap := []) rfl (fun d e => by cases e; show 52 < 53; decide) rfl (by kernel_rfl) Tryz.func19 (body := body19) rfl (by show 2 ≤ 12; decide) (sorted_tr hS gl ks hlen) ?_) ?_
            · rintro e s ⟨rfl, rfl⟩
              exact ⟨.inr rfl, rfl, [.rsl 2 0 ks.length], rfl⟩
            · rintro s' ⟨e, s, gs', ⟨rfl, rfl⟩, hgs, rfl⟩
              have hgs : some [G.rsl 2 0 ks.length] = some gs' := hgs
              cases hgs
              simp only [St.put, gtup]
              refine rn_v rfl rfl (by show 4 < 53; decide) (g := .rsl 2 0 ks.length) (by kernel_rfl) ?_
              simp only [St.put]
              refine thn_n (tr_ret ?_)
              have hll : (sortS ltB ks).length = ks.length := (sortS_perm totB ks).length_eq
              rw [hll]
              exact endR (i := 2) (u := 4) rfl rfl rfl rfl (cellsT_imm _) (.inr rfl)
end
end Go.Proofs.YtjbbgjbknfoddaaGreatDoor
