/- Lists of lists of numbers in memory: slices of slices of ints, whose rows' blocks bear their types ('IntsT', 'RowsT'), and rows of them that the call itself has made ('OwnT'). -/
import Derived.Test.YtappaadadkoamaaRows
import Derived.Test.YtappaadadkoamaaAppend
namespace Go.Proofs.Ytappaadadkoamaa
open Go.RowKit
set_option linter.unusedVariables false

theorem intInfo3 : (Try.prog.info? 3).map (fun i => (i.zero, i.size, i.bytes)) = some (some (.int .i64 0), 1, 8) := by kernel_rfl
theorem intsInfo3 : (Try.prog.info? 22).map (fun i => (i.zero, i.size, i.bytes)) = some (some (.slice none 0 0), 1, 24) := by kernel_rfl

/-- Block b is a row of ints. -/
def IntRow (w : World) (b : Nat) : Prop := ∃ cur, w.heap[b]? = some (.cells cur 3 (0, 0))
/-- The slice v, whose row of ints lies in a block from lo on, below hi, reads as the list zs. -/
def IntsT (w : World) (lo hi : Nat) (v : Value) (zs : List Int) : Prop := IntsAt w lo hi v zs ∧ ∀ b, v.ownBlock = some b → IntRow w b

theorem IntRow.lt {w : World} {b : Nat} (h : IntRow w b) : b < w.heap.size := by
  obtain ⟨cur, h⟩ := h
  exact (Array.getElem?_eq_some_iff.1 h).1
theorem IntRow.keeps {S : Nat → Prop} {w w' : World} {b : Nat} (h : IntRow w b) (k : Keeps S w w') (hS : ¬ S b) : IntRow w' b := by
  have hl := h.lt
  obtain ⟨cur, h⟩ := h
  exact ⟨cur, (k.block b hl hS).trans h⟩
theorem IntsAt.own {w : World} {lo hi : Nat} {v : Value} {zs : List Int} (h : IntsAt w lo hi v zs) {b : Nat} (hb : v.ownBlock = some b) : lo ≤ b ∧ b < hi := by
  obtain ⟨a, cap, rfl, h2, h3, h4, h5, h6⟩ := h
  cases a with
  | none => simp [Value.ownBlock] at hb
  | some x => simp [Value.ownBlock] at hb; subst hb; exact h5 x rfl
theorem IntsAt.keepsOwn {S : Nat → Prop} {w w' : World} {lo hi : Nat} {v : Value} {zs : List Int} (h : IntsAt w lo hi v zs) (k : Keeps S w w') (hS : ∀ b, v.ownBlock = some b → ¬ S b) : IntsAt w' lo hi v zs := by
  obtain ⟨a, cap, rfl, h2, h3, h4, h5, h6⟩ := h
  refine ⟨a, cap, rfl, h2, h3, h4, h5, fun i z hz => ?_⟩
  obtain ⟨g, o, rfl, hc⟩ := h6 i z hz
  exact ⟨g, o, rfl, by rw [k.cell (p := ⟨g, o + i, none⟩) (World.block_lt_of_cell? _ _ hc) (hS g rfl)]; exact hc⟩

theorem IntsT.own {w : World} {lo hi : Nat} {v : Value} {zs : List Int} (h : IntsT w lo hi v zs) {b : Nat} (hb : v.ownBlock = some b) : lo ≤ b ∧ b < hi := h.1.own hb
theorem IntsT.keepsOwn {S : Nat → Prop} {w w' : World} {lo hi : Nat} {v : Value} {zs : List Int} (h : IntsT w lo hi v zs) (k : Keeps S w w') (hS : ∀ b, v.ownBlock = some b → ¬ S b) : IntsT w' lo hi v zs :=
  ⟨h.1.keepsOwn k hS, fun b hb => (h.2 b hb).keeps k (hS b hb)⟩
theorem IntsT.keeps {S : Nat → Prop} {w w' : World} {lo hi : Nat} {v : Value} {zs : List Int} (h : IntsT w lo hi v zs) (k : Keeps S w w') (hS : ∀ b, lo ≤ b → b < hi → ¬ S b) : IntsT w' lo hi v zs :=
  h.keepsOwn k fun b hb => hS b (h.own hb).1 (h.own hb).2
theorem IntsT.mono {w : World} {lo hi lo' hi' : Nat} {v : Value} {zs : List Int} (h : IntsT w lo hi v zs) (h1 : lo' ≤ lo) (h2 : hi ≤ hi') : IntsT w lo' hi' v zs := ⟨h.1.mono h1 h2, h.2⟩
theorem IntsT.below {w w' : World} {lo hi : Nat} {v : Value} {zs : List Int} (h : IntsT w lo hi v zs) (hb : Below w.heap.size w w') : IntsT w' lo hi v zs :=
  h.keepsOwn (Keeps.below hb) fun b hb' x => by have := (h.2 b hb').lt; omega
theorem IntsT.wf {w : World} {lo hi : Nat} {v : Value} {zs : List Int} (h : IntsT w lo hi v zs) : ∀ z ∈ zs, (Lit.int .i64 z).wf = true := h.1.wf
theorem IntsT.form {w : World} {lo hi : Nat} {v : Value} {zs : List Int} (h : IntsT w lo hi v zs) : ∃ a cap, v = .slice a zs.length cap ∧ zs.length ≤ cap ∧ cap ≤ 9223372036854775807 := by
  obtain ⟨⟨a, cap, h1, h2, h3, _⟩, _⟩ := h
  exact ⟨a, cap, h1, h2, h3⟩
theorem IntsT.nil (w : World) (lo hi : Nat) : IntsT w lo hi (.slice none 0 0) [] := ⟨IntsAt.nil w lo hi, fun b hb => by simp [Value.ownBlock] at hb⟩
theorem IntsT.one {w : World} {lo hi : Nat} {v : Value} {zs : List Int} (h : IntsT w lo hi v zs) : v.oneCell' = true := by
  obtain ⟨a, cap, rfl, _⟩ := h.form
  rfl

theorem IntsT.ofOwn {w : World} {base hi : Nat} {v : Value} {n : Nat} {zs : List Int} (h : w.ownsRow base 3 1 v n (zs.map (Value.int .i64))) (hw : ∀ z ∈ zs, (Lit.int .i64 z).wf = true) (hhi : w.heap.size ≤ hi) : IntsT w base hi v zs := by
  refine ⟨IntsAt.ofOwn h hw hhi, fun b hb => ?_⟩
  rcases h.2 with ⟨rfl, _⟩ | ⟨g, cap, cur, rfl, _, hg, _⟩
  · simp [Value.ownBlock] at hb
  · simp [Value.ownBlock] at hb
    subst hb
    exact ⟨cur, hg⟩

theorem addr_add (g o j : Nat) : (⟨g, o, none⟩ : Addr).add j = ⟨g, o + j, none⟩ := by unfold Addr.add; split <;> simp_all
theorem addr_add_zero (a : Addr) : a.add 0 = a := by unfold Addr.add; simp

theorem cell_add {w : World} {b : Nat} {t : TypeId} {xs : List Value} (h : Blk w b t xs) {j : Nat} {u : Value} (hu : xs[j]? = some u) : w.cell? ((⟨b, 0, none⟩ : Addr).add j) = some u := by
  rw [addr_add, Nat.zero_add, h.cell j]
  exact hu

theorem IntsT.cells {w : World} {lo hi : Nat} {a : Option Addr} {n cap : Nat} {zs : List Int} (h : IntsT w lo hi (.slice a n cap) zs) : ∀ j u, (zs.map (Value.int .i64))[j]? = some u → ∃ x, a = some x ∧ w.cell? (x.add j) = some u := by
  obtain ⟨⟨a', cap', he, p2, p3, p4, p5, p6⟩, _⟩ := h
  simp at he
  obtain ⟨rfl, rfl, rfl⟩ := he
  intro j u hu
  rw [List.getElem?_map] at hu
  obtain ⟨z, hz, rfl⟩ := Option.map_eq_some_iff.1 hu
  obtain ⟨g, o, rfl, hc⟩ := p6 j z hz
  exact ⟨_, rfl, by rw [addr_add]; exact hc⟩

/-- 's[:k]'. -/
theorem IntsT.take {w : World} {lo hi : Nat} {a : Option Addr} {n cap k : Nat} {zs : List Int} (h : IntsT w lo hi (.slice a n cap) zs) (hk : k ≤ n) : IntsT w lo hi (.slice a k cap) (zs.take k) := by
  obtain ⟨⟨a', cap', he, p2, p3, p4, p5, p6⟩, hr⟩ := h
  simp at he
  obtain ⟨rfl, rfl, rfl⟩ := he
  have hl : (zs.take k).length = k := by simp; omega
  refine ⟨⟨a, cap, by rw [hl], by omega, p3, fun z hz => p4 z (List.mem_of_mem_take hz), p5, fun i z hz => p6 i z ?_⟩, fun b hb => hr b (by cases a with | none => simp [Value.ownBlock] at hb | some x => simpa [Value.ownBlock] using hb)⟩
  rw [List.getElem?_take] at hz
  split at hz
  · exact hz
  · cases hz
/-- 's[k:]'. -/
theorem IntsT.drop {w : World} {lo hi : Nat} {a : Option Addr} {n cap k : Nat} {zs : List Int} (h : IntsT w lo hi (.slice a n cap) zs) (hk : k ≤ n) : IntsT w lo hi (.slice (if cap = k then a else a.map (·.add (k * 1))) (n - k) (cap - k)) (zs.drop k) := by
  obtain ⟨⟨a', cap', he, p2, p3, p4, p5, p6⟩, hr⟩ := h
  simp at he
  obtain ⟨rfl, rfl, rfl⟩ := he
  have hl : (zs.drop k).length = zs.length - k := by simp
  have hblk : ∀ x, (if cap = k then a else a.map (·.add (k * 1))) = some x → ∃ y, a = some y ∧ y.block = x.block := by
    intro x hx
    split at hx
    · exact ⟨x, hx, rfl⟩
    · cases a with
      | none => cases hx
      | some y =>
        simp at hx
        subst hx
        exact ⟨y, rfl, by unfold Addr.add; split <;> rfl⟩
  refine ⟨⟨_, cap - k, by rw [hl], by omega, by omega, fun z hz => p4 z (List.mem_of_mem_drop hz), fun x hx => ?_, fun i z hz => ?_⟩, fun b hb => ?_⟩
  · obtain ⟨y, hy, e⟩ := hblk x hx
    rw [← e]; exact p5 y hy
  · rw [List.getElem?_drop] at hz
    have hlt := (List.getElem?_eq_some_iff.1 hz).1
    obtain ⟨g, o, rfl, hc⟩ := p6 (k + i) z hz
    refine ⟨g, o + k, ?_, by rw [Nat.add_assoc]; exact hc⟩
    rw [if_neg (by omega)]
    simp [addr_add]
  · cases hx : (if cap = k then a else a.map (·.add (k * 1))) with
    | none => rw [hx] at hb; simp [Value.ownBlock] at hb
    | some x =>
      rw [hx] at hb
      obtain ⟨y, hy, e⟩ := hblk x hx
      simp [Value.ownBlock] at hb
      refine hr b ?_
      subst hy
      simp [Value.ownBlock, e, hb]

/-! ### slices of such slices -/
/-- The slice v, whose row lies in a block from lo on, below hi, as do the rows of its elements, reads as the list of lists ls. -/
def RowsT (w : World) (lo hi : Nat) (v : Value) (ls : List (List Int)) : Prop :=
  ∃ a cap, v = .slice a ls.length cap ∧ ls.length ≤ cap ∧ cap ≤ 9223372036854775807 ∧ (∀ x, a = some x → lo ≤ x.block ∧ x.block < hi) ∧
    ∀ i l, ls[i]? = some l → ∃ g o u, a = some ⟨g, o, none⟩ ∧ w.cell? ⟨g, o + i, none⟩ = some u ∧ IntsT w lo hi u l

theorem RowsT.keeps {S : Nat → Prop} {w w' : World} {lo hi : Nat} {v : Value} {ls : List (List Int)} (h : RowsT w lo hi v ls) (k : Keeps S w w') (hS : ∀ b, lo ≤ b → b < hi → ¬ S b) : RowsT w' lo hi v ls := by
  obtain ⟨a, cap, h1, h2, h3, h5, h6⟩ := h
  refine ⟨a, cap, h1, h2, h3, h5, fun i l hl => ?_⟩
  obtain ⟨g, o, u, rfl, hc, hu⟩ := h6 i l hl
  obtain ⟨b1, b2⟩ := h5 _ rfl
  exact ⟨g, o, u, rfl, by rw [k.cell (p := ⟨g, o + i, none⟩) (World.block_lt_of_cell? _ _ hc) (hS _ b1 b2)]; exact hc, hu.keeps k hS⟩
theorem RowsT.mono {w : World} {lo hi lo' hi' : Nat} {v : Value} {ls : List (List Int)} (h : RowsT w lo hi v ls) (h1 : lo' ≤ lo) (h2 : hi ≤ hi') : RowsT w lo' hi' v ls := by
  obtain ⟨a, cap, q1, q2, q3, q5, q6⟩ := h
  refine ⟨a, cap, q1, q2, q3, fun x hx => ⟨Nat.le_trans h1 (q5 x hx).1, Nat.lt_of_lt_of_le (q5 x hx).2 h2⟩, fun i l hl => ?_⟩
  obtain ⟨g, o, u, e, hc, hu⟩ := q6 i l hl
  exact ⟨g, o, u, e, hc, hu.mono h1 h2⟩
theorem RowsT.below {w w' : World} {lo hi : Nat} {v : Value} {ls : List (List Int)} (h : RowsT w lo hi v ls) (hb : Below w.heap.size w w') : RowsT w' lo hi v ls := by
  obtain ⟨a, cap, h1, h2, h3, h5, h6⟩ := h
  refine ⟨a, cap, h1, h2, h3, h5, fun i l hl => ?_⟩
  obtain ⟨g, o, u, rfl, hc, hu⟩ := h6 i l hl
  exact ⟨g, o, u, rfl, by rw [hb.cell (p := ⟨g, o + i, none⟩) (World.block_lt_of_cell? _ _ hc)]; exact hc, hu.below hb⟩
theorem RowsT.nil (w : World) (lo hi : Nat) : RowsT w lo hi (.slice none 0 0) [] := ⟨none, 0, rfl, Nat.le_refl _, by omega, by simp, by simp⟩
theorem RowsT.form {w : World} {lo hi : Nat} {v : Value} {ls : List (List Int)} (h : RowsT w lo hi v ls) : ∃ a cap, v = .slice a ls.length cap ∧ ls.length ≤ cap ∧ cap ≤ 9223372036854775807 := by
  obtain ⟨a, cap, h1, h2, h3, _⟩ := h
  exact ⟨a, cap, h1, h2, h3⟩
/-- One element. -/
theorem RowsT.at' {w : World} {lo hi : Nat} {a : Option Addr} {n cap : Nat} {ls : List (List Int)} (h : RowsT w lo hi (.slice a n cap) ls) {i : Nat} {l : List Int} (hl : ls[i]? = some l) :
    ∃ g o u, a = some ⟨g, o, none⟩ ∧ w.cell? ⟨g, o + i, none⟩ = some u ∧ IntsT w lo hi u l := by
  obtain ⟨a', cap', he, h2, h3, h5, h6⟩ := h
  simp at he
  obtain ⟨rfl, rfl, rfl⟩ := he
  exact h6 i l hl
theorem RowsT.len {w : World} {lo hi : Nat} {a : Option Addr} {n cap : Nat} {ls : List (List Int)} (h : RowsT w lo hi (.slice a n cap) ls) : n = ls.length ∧ n ≤ cap ∧ cap ≤ 9223372036854775807 := by
  obtain ⟨a', cap', he, h2, h3, h5, h6⟩ := h
  simp at he
  obtain ⟨rfl, rfl, rfl⟩ := he
  exact ⟨rfl, h2, h3⟩

/-- Values that read, one by one, as the lists. -/
def Each (w : World) (lo hi : Nat) (us : List Value) (ls : List (List Int)) : Prop := us.length = ls.length ∧ ∀ (i : Nat) (u : Value) (l : List Int), us[i]? = some u → ls[i]? = some l → IntsT w lo hi u l
theorem Each.nil (w : World) (lo hi : Nat) : Each w lo hi [] [] := ⟨rfl, by simp⟩
theorem Each.mono {w : World} {lo hi lo' hi' : Nat} {us : List Value} {ls : List (List Int)} (h : Each w lo hi us ls) (h1 : lo' ≤ lo) (h2 : hi ≤ hi') : Each w lo' hi' us ls := ⟨h.1, fun i u l a b => (h.2 i u l a b).mono h1 h2⟩
theorem Each.append {w : World} {lo hi : Nat} {us us' : List Value} {ls ls' : List (List Int)} (h : Each w lo hi us ls) (h' : Each w lo hi us' ls') : Each w lo hi (us ++ us') (ls ++ ls') := by
  refine ⟨by simp [h.1, h'.1], fun i u l a b => ?_⟩
  rcases Nat.lt_or_ge i us.length with hlt | hge
  · rw [List.getElem?_append_left hlt] at a
    rw [List.getElem?_append_left (by rw [← h.1]; exact hlt)] at b
    exact h.2 i u l a b
  · rw [List.getElem?_append_right hge] at a
    rw [List.getElem?_append_right (by rw [← h.1]; exact hge), ← h.1] at b
    exact h'.2 _ u l a b
theorem Each.single {w : World} {lo hi : Nat} {u : Value} {l : List Int} (h : IntsT w lo hi u l) : Each w lo hi [u] [l] := by
  refine ⟨rfl, fun i u' l' a b => ?_⟩
  have hi : i = 0 := by have := (List.getElem?_eq_some_iff.1 a).1; simp at this; omega
  subst hi
  simp at a b
  subst a; subst b
  exact h
theorem Each.keepsOwn {S : Nat → Prop} {w w' : World} {lo hi : Nat} {us : List Value} {ls : List (List Int)} (h : Each w lo hi us ls) (k : Keeps S w w') (hS : ∀ b, IntRow w b → ¬ S b) : Each w' lo hi us ls :=
  ⟨h.1, fun i u l a b => (h.2 i u l a b).keepsOwn k fun b' hb => hS b' ((h.2 i u l a b).2 b' hb)⟩
theorem Each.one {w : World} {lo hi : Nat} {us : List Value} {ls : List (List Int)} (h : Each w lo hi us ls) : ∀ u ∈ us, u.oneCell' = true := by
  intro u hu
  obtain ⟨i, hi⟩ := List.mem_iff_getElem?.1 hu
  have hlt := (List.getElem?_eq_some_iff.1 hi).1
  exact (h.2 i u _ hi (List.getElem?_eq_getElem (by rw [← h.1]; exact hlt))).one

/-- A row of the call's own, from base on, whose elements' rows lie from lo on. -/
def OwnT (w : World) (base lo : Nat) (v : Value) (ls : List (List Int)) : Prop := ∃ us, w.ownsRow base 22 1 v ls.length us ∧ Each w lo w.heap.size us ls
theorem OwnT.nil (w : World) (base lo : Nat) : OwnT w base lo (.slice none 0 0) [] := ⟨[], World.ownsRow_nil w base _ _, Each.nil _ _ _⟩

theorem own_tag {w : World} {base : Nat} {e : TypeId} {size : Nat} {v : Value} {n : Nat} {xs : List Value} (h : w.ownsRow base e size v n xs) {b : Nat} (hb : v.ownBlock = some b) : ∃ cur, w.heap[b]? = some (.cells cur e (0, 0)) := by
  rcases h.2 with ⟨rfl, _⟩ | ⟨g, cap, cur, rfl, _, hg, _⟩
  · simp [Value.ownBlock] at hb
  · simp [Value.ownBlock] at hb
    subst hb
    exact ⟨cur, hg⟩
theorem own_form {w : World} {base : Nat} {e : TypeId} {size : Nat} {v : Value} {n : Nat} {xs : List Value} (h : w.ownsRow base e size v n xs) : ∃ a c, v = .slice a n c := by
  rcases h.2 with ⟨rfl, rfl⟩ | ⟨g, cap, cur, rfl, _, hg, _⟩
  · exact ⟨none, 0, rfl⟩
  · exact ⟨_, _, rfl⟩
theorem intRow_ne_own {w : World} {base : Nat} {v : Value} {n : Nat} {xs : List Value} (h : w.ownsRow base 22 1 v n xs) {b : Nat} (hb : IntRow w b) : v.ownBlock ≠ some b := by
  intro x
  obtain ⟨cur, hc⟩ := own_tag h x
  obtain ⟨cur', hc'⟩ := hb
  have := hc.symm.trans hc'
  simp at this
theorem OwnT.rows {w : World} {base lo : Nat} {v : Value} {ls : List (List Int)} (h : OwnT w base lo v ls) (hlo : lo ≤ base) : RowsT w lo w.heap.size v ls := by
  obtain ⟨us, ho, he⟩ := h
  rcases ho.2 with ⟨rfl, hn⟩ | ⟨g, cap, cur, rfl, hb, hg, hle, hm, hs, ht⟩
  · have : ls = [] := List.eq_nil_of_length_eq_zero hn
    subst this
    exact RowsT.nil _ _ _
  · refine ⟨some ⟨g, 0, none⟩, cap, rfl, hle, by unfold maxLen at hm; omega, fun x hx => ?_, fun i l hl => ?_⟩
    · cases hx
      exact ⟨Nat.le_trans hlo hb, (Array.getElem?_eq_some_iff.1 hg).1⟩
    · have hlt := (List.getElem?_eq_some_iff.1 hl).1
      obtain ⟨u, hu⟩ : ∃ u, us[i]? = some u := ⟨_, List.getElem?_eq_getElem (by rw [he.1]; exact hlt)⟩
      have hc := ho.cells (g := g) rfl i u hu
      rw [addr_add] at hc
      exact ⟨g, 0, u, rfl, hc, he.2 i u l hu hl⟩
theorem OwnT.below {w w' : World} {base lo : Nat} {v : Value} {ls : List (List Int)} (h : OwnT w base lo v ls) (hb : Below w.heap.size w w') : OwnT w' base lo v ls := by
  obtain ⟨us, ho, he⟩ := h
  refine ⟨us, ownsRow_keeps ho (Keeps.below hb) (fun b hb' x => by have := (ho.lt b hb').2; omega), ?_⟩
  exact (he.keepsOwn (Keeps.below hb) (fun b hb' x => by have := hb'.lt; omega)).mono (Nat.le_refl _) hb.size
/-- Behind an append of values that read as lists. -/
theorem OwnT.push {w w' : World} {base lo : Nat} {v v' : Value} {ls ls' : List (List Int)} {us us' : List Value} {n : Nat} (ho : w.ownsRow base 22 1 v ls.length us) (he : Each w lo w.heap.size us ls) (he' : Each w lo w.heap.size us' ls')
    (hown : w'.ownsRow base 22 1 v' n (us ++ us')) (hn : n = ls.length + ls'.length) (hg : w.grownBy w' v.ownBlock) : OwnT w' base lo v' (ls ++ ls') := by
  have hK : Keeps (fun b => v.ownBlock = some b) w w' := (Keeps.refl _ _).grown hg (fun k hk _ => hk)
  refine ⟨us ++ us', by rw [List.length_append, ← hn]; exact hown, ?_⟩
  exact ((he.append he').keepsOwn hK (fun b hb => intRow_ne_own ho hb)).mono (Nat.le_refl _) hK.size

/-! ### append of what may be nothing -/
section
variable {P : Program}
theorem run_append_nilsrc (w : World) (base : Nat) (t ty e : TypeId) (i : TypeInfo) (size : Nat) (ht : P.underlying t = some (.slice e)) (hi : P.info? e = some i)
    (v : Value) (n : Nat) (xs : List Value) (hown : w.ownsRow base e size v n xs) (c : Nat) : (Builtin.append_ #[t, t] ty #[v, .slice none 0 c]).run P w = .ok v w := by
  rcases hown.2 with ⟨rfl, rfl⟩ | ⟨g, cap, cur, rfl, _, _, hnc, _⟩
  · simp [Builtin.append_, run_underlying ht, sizeOf, typeInfo, hi, Builtin.lenOf, Builtin.firstCells]
  · simp [Builtin.append_, run_underlying ht, sizeOf, typeInfo, hi, Builtin.lenOf, Builtin.firstCells, hnc, storeCells]

theorem wpL_append0 {ops : Array Oper} {rest : List Oper} {o : Oper} {ac : Act} {w : World} {Q : Exit → Act → World → Prop} (hw : Region.wanted o (yielded ops ac.tmps) = true) (s x : Operand) (t : TypeId)
    (hop : o.op = .call { callee := .builtin .append, args := #[s, x], argTypes := #[t, t] })
    (base : Nat) (e : TypeId) (i : TypeInfo) (z : Value) (size bytes : Nat) (ht : P.underlying t = some (.slice e)) (hi : P.info? e = some i) (hz : i.zero = some z)
    (hsize : i.size = size) (hby : i.bytes = bytes) (hzs : z.cells.size = size) (hsz : 0 < size)
    (v : Value) (n : Nat) (xs : List Value) (hs : ac.eval s = v) (hown : w.ownsRow base e size v n xs)
    (A : Option Addr) (m c : Nat) (news : List Value) (hx : ac.eval x = .slice A m c) (hl : news.length = m * size) (hnews : ∀ j u, news[j]? = some u → ∃ a, A = some a ∧ w.cell? (a.add j) = some u) (h1 : ∀ u ∈ news, u.oneCell' = true)
    (h63 : n + m ≤ maxLen) (hbytes : (n + m) * bytes ≤ 140737488355328) (hbase : base ≤ w.heap.size)
    (h : ∀ v' w', w'.ownsRow base e size v' (n + m) (xs ++ news) → w.grownBy w' v.ownBlock → wpList P ops Q rest (ac.put o.dst v') w') : wpList P ops Q (o :: rest) ac w := by
  refine BigFrame.wpList_want hw fun K hK => ?_
  obtain ⟨v', w', hr, h2, h3⟩ : ∃ v' w', (Builtin.append_ #[t, t] o.type #[v, .slice A m c]).run P w = .ok v' w' ∧ w'.ownsRow base e size v' (n + m) (xs ++ news) ∧ w.grownBy w' v.ownBlock := by
    cases A with
    | none =>
      have hn : news = [] := by
        cases news with
        | nil => rfl
        | cons u r => obtain ⟨a, ha, _⟩ := hnews 0 u (by simp); cases ha
      have hm : m = 0 := by
        rw [hn] at hl
        rcases Nat.eq_zero_or_pos m with h0 | h0
        · exact h0
        · have := Nat.mul_pos h0 hsz; simp at hl; omega
      subst hm; subst hn
      exact ⟨v, w, run_append_nilsrc w base t o.type e i size ht hi v n xs hown c, by simpa using hown, World.grownBy.refl w _⟩
    | some a =>
      obtain ⟨v', w', hr, ho, hg, _⟩ := run_append_own (P := P) w base t o.type e i z size bytes ht hi hz hsize hby hzs hsz v n xs hown a m c news hl (fun j u hu => by obtain ⟨a', ha, hc⟩ := hnews j u hu; cases ha; exact hc) h1 h63 hbytes hbase
      exact ⟨v', w', hr, ho, hg⟩
  unfold Oper.wp execOp
  simp only [hop, resolve, invoke, builtin, Sem.run_bind, Sem.run_pure, Result.andThen_ok, List.map_toArray, List.map_cons, List.map_nil, hs, hx, hr]
  exact hK _ _ (h v' w' h2 h3)

/-- '[]T{}'. -/
theorem wpL_buildNone {ops : Array Oper} {rest : List Oper} {op : Oper} {a : Act} {w : World} {Q : Exit → Act → World → Prop} (t e : TypeId) (i0 : TypeInfo) (size : Nat) (ht : P.underlying t = some (.slice e)) (hi : P.info? e = some i0) (hw : Region.wanted op (yielded ops a.tmps) = true) (ho : op.op = .buildSlice t 0 #[])
    (h : ∀ w', w'.ownsRow w.heap.size e size (.slice (some ⟨w.heap.size, 0, none⟩) 0 0) 0 [] → Keeps (fun _ => False) w w' → w'.heap.size = w.heap.size + 1 → wpList P ops Q rest (a.put op.dst (.slice (some ⟨w.heap.size, 0, none⟩) 0 0)) w') : wpList P ops Q (op :: rest) a w := by
  refine BigFrame.wpList_want hw fun K hK => ?_
  have hr : (Instr.buildSlice t 0 #[]).run P w = .ok (.slice (some ⟨w.heap.size, 0, none⟩) 0 0) (w.alloc (.cells #[] e)) := by
    have hsz : (sizeOf e).run P w = .ok i0.size w := by simp [sizeOf, typeInfo, hi]
    have hnew : (newRow e #[]).run P w = .ok ⟨w.heap.size, 0, none⟩ (w.alloc (.cells #[] e)) := by simp [newRow]
    unfold Instr.buildSlice
    simp only [Sem.run_bind, run_underlying ht, hsz, Result.andThen_ok, Nat.zero_mul]
    simp only [Instr.fill]
    have e' : ∀ f : Nat → Value, (Array.range 0).map f = #[] := fun f => Array.eq_empty_of_size_eq_zero (by simp)
    simp [e', hnew]
  unfold Oper.wp execOp
  simp only [ho, List.map_toArray, List.map_nil, Sem.run_bind, hr, Result.andThen_ok, Sem.run_pure]
  refine hK _ _ (h _ ⟨by simp, .inr ⟨w.heap.size, 0, #[], rfl, Nat.le_refl _, heap_alloc_new w _, Nat.le_refl _, Nat.zero_le _, by simp, by simp⟩⟩ ((Keeps.refl _ _).alloc _) (by simp))

/-- 's[:k]', whether s is nil or not. -/
theorem run_slice_pre (t e : TypeId) (i : TypeInfo) (ht : P.underlying t = some (.slice e)) (hi : P.info? e = some i) (a : Option Addr) (n cap k : Nat) (hk : k ≤ cap) (w : World) :
    (Instr.slice t (.slice a n cap) none (some (.int .i64 (k : Int))) none).run P w = .ok (.slice a k cap) w := by
  have h0 : (if cap = 0 then a else a.map (·.add (0 * i.size))) = a := by
    split
    · rfl
    · cases a <;> simp [addr_add_zero]
  simp [Instr.slice, Instr.sliceBounds, Instr.sliceBound, run_underlying ht, sizeOf, typeInfo, hi, asIntOf, go_sem, hk]
/-- 's[k:]'. -/
theorem run_slice_suf (t e : TypeId) (i : TypeInfo) (ht : P.underlying t = some (.slice e)) (hi : P.info? e = some i) (a : Option Addr) (n cap k : Nat) (hk : k ≤ n) (w : World) :
    (Instr.slice t (.slice a n cap) (some (.int .i64 (k : Int))) none none).run P w = .ok (.slice (if cap = k then a else a.map (·.add (k * i.size))) (n - k) (cap - k)) w := by
  simp [Instr.slice, Instr.sliceBounds, Instr.sliceBound, run_underlying ht, sizeOf, typeInfo, hi, asIntOf, go_sem, hk]
end
end Go.Proofs.Ytappaadadkoamaa
