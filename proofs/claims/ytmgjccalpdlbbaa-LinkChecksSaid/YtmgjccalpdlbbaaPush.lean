/- One fault more in a link: what New does in memory. -/
import Derived.Test.YtmgjccalpdlbbaaLink
import Derived.Test.YtmgjccalpdlbbaaAppend
namespace Go.Proofs.Ytmgjccalpdlbbaa
open Go.RowKit
set_option linter.unusedVariables false

theorem own_tag {w : World} {base : Nat} {e : TypeId} {size : Nat} {v : Value} {n : Nat} {xs : List Value} (h : w.ownsRow base e size v n xs) {b : Nat} (hb : v.ownBlock = some b) : ∃ cur, w.heap[b]? = some (.cells cur e (0, 0)) := by
  rcases h.2 with ⟨rfl, _⟩ | ⟨g, cap, cur, rfl, _, hg, _⟩
  · simp [Value.ownBlock] at hb
  · simp [Value.ownBlock] at hb
    subst hb
    exact ⟨cur, hg⟩
theorem own_form {w : World} {base : Nat} {e : TypeId} {size : Nat} {v : Value} {n : Nat} {xs : List Value} (h : w.ownsRow base e size v n xs) : ∃ a c, v = .slice a n c := by
  rcases h.2 with ⟨rfl, rfl⟩ | ⟨g, cap, cur, rfl, _, hg, _⟩
  · exact ⟨none, 0, rfl⟩
  · exact ⟨_, _, rfl⟩
theorem blk_ne_own {w : World} {base : Nat} {e : TypeId} {size : Nat} {v : Value} {n : Nat} {xs : List Value} (h : w.ownsRow base e size v n xs) {b : Nat} {t : TypeId} {ys : List Value} (hb : Blk w b t ys) (ht : t ≠ e) : v.ownBlock ≠ some b := by
  intro x
  obtain ⟨cur, hc⟩ := own_tag h x
  have := hb.symm.trans hc
  simp at this
  exact ht this.2
theorem set_ne_own {P : Program} {kT eT : TypeId} {w : World} {base : Nat} {e : TypeId} {size : Nat} {v : Value} {n : Nat} {xs : List Value} (h : w.ownsRow base e size v n xs) {b : Nat} {S : Int → Bool} {m : Nat} (hb : SetAt P kT eT w b S m) : v.ownBlock ≠ some b := by
  intro x
  obtain ⟨cur, hc⟩ := own_tag h x
  obtain ⟨_, D, _, ⟨es, clock, hb', _⟩, _⟩ := hb
  have := hb'.symm.trans hc
  simp at this

theorem FaultAt.keepsOwn {S : Nat → Prop} {w w' : World} {lo hi hi' pb : Nat} {f : Flt} (h : FaultAt w lo hi pb f) (k : Keeps S w w') (hhi : hi ≤ hi') (h1 : ∀ mb, Blk w pb 66 (fltCells f mb) → ∀ n, SetAt Try.prog 3 4 w mb f.set n → ¬ S pb ∧ ¬ S mb) : FaultAt w' lo hi' pb f := by
  obtain ⟨mb, q1, q2, q3, n, q4⟩ := h.here
  obtain ⟨a, b⟩ := h1 mb q3 n q4
  exact ⟨h.fit, h.plo, Nat.lt_of_lt_of_le h.phi hhi, mb, q1, Nat.lt_of_lt_of_le q2 hhi, q3.keeps k a, n, q4.keeps k b⟩

theorem LinkAt.push {wr w2 w3 : World} {B : Nat} {pbs : List Nat} {fs : List Flt} {pb : Nat} {f : Flt} {v v' : Value} (h : LinkAt wr B wr.heap.size B pbs fs) (hv : Blk wr B 62 [v]) (hvo : wr.ownsRow B 63 1 v fs.length (pbs.map ptrTo))
    (K : Keeps (fun _ => False) wr w2) (F : FaultAt w2 B w2.heap.size pb f) (hpb : wr.heap.size ≤ pb)
    (hown : w3.ownsRow B 63 1 v' (fs.length + 1) (pbs.map ptrTo ++ [ptrTo pb])) (hg : w2.grownBy w3 v.ownBlock) (hvv : v'.ownBlock = v.ownBlock ∨ v'.ownBlock = some w2.heap.size) (hs : fs.length < 1000000) :
    LinkAt (w3.setCell ⟨B, 0, none⟩ v') B w3.heap.size B (pbs ++ [pb]) (fs ++ [f]) := by
  have K3 : Keeps (fun b => v.ownBlock = some b) w2 w3 := (Keeps.refl _ _).grown hg (fun k hk _ => hk)
  have hvo2 : w2.ownsRow B 63 1 v fs.length (pbs.map ptrTo) := ownsRow_keeps hvo K (fun _ _ x => x)
  have hB2 : Blk w2 B 62 [v] := hv.keeps K (fun x => x)
  have hB3 : Blk w3 B 62 [v] := hB2.keeps K3 (blk_ne_own hvo2 hB2 (by decide))
  have K4 : Keeps (fun b => b = B) w3 (w3.setCell ⟨B, 0, none⟩ v') := (Keeps.refl (fun b => b = B) w3).setCell (p := ⟨B, 0, none⟩) (fun _ => rfl) _
  have h23 : w2.heap.size ≤ w3.heap.size := K3.size
  have hr2 : wr.heap.size ≤ w2.heap.size := K.size
  refine ⟨⟨v', ?_, ?_, ?_⟩, Nat.le_refl _, ?_, by simp, by simp [h.len], fun i pb' f' hp hf => ?_, ?_, by simp; omega⟩
  · have := hB3.set 0 v'
    simpa using this
  · have : w3.ownsRow B 63 1 v' (fs ++ [f]).length ((pbs ++ [pb]).map ptrTo) := by simpa using hown
    exact ownsRow_keeps this K4 (fun b hb x => blk_ne_own hown hB3 (by decide) (by rw [hb, x]))
  · intro b hb
    exact (hown.lt b hb).2
  · exact hB3.lt
  · have hF : FaultAt w2 B w2.heap.size pb' f' := by
      rcases Nat.lt_or_ge i fs.length with hlt | hge
      · rw [List.getElem?_append_left hlt] at hf
        rw [List.getElem?_append_left (by rw [h.len]; exact hlt)] at hp
        exact (h.faults i pb' f' hp hf).keepsOwn K hr2 (fun _ _ _ _ => ⟨fun x => x, fun x => x⟩)
      · have e : i = fs.length := by have := (List.getElem?_eq_some_iff.1 hf).1; simp at this; omega
        subst e
        rw [List.getElem?_append_right (Nat.le_refl _)] at hf
        rw [List.getElem?_append_right (by rw [h.len]; exact Nat.le_refl _)] at hp
        simp [h.len] at hf hp
        subst hf; subst hp
        exact F
    have hF3 : FaultAt w3 B w3.heap.size pb' f' := hF.keepsOwn K3 h23 (fun mb q1 n q2 => ⟨blk_ne_own hvo2 q1 (by decide), set_ne_own hvo2 q2⟩)
    refine hF3.keepsOwn K4 (Nat.le_refl _) (fun mb q1 n q2 => ⟨fun e => ?_, fun e => ?_⟩)
    · subst e
      have := hB3.symm.trans q1
      simp at this
    · subst e
      obtain ⟨_, D, _, ⟨es, clock, hb', _⟩, _⟩ := q2
      have := hB3.symm.trans hb'
      simp at this
  · rw [List.nodup_append]
    refine ⟨h.nodup, by simp, fun a ha b hb e => ?_⟩
    simp at hb
    subst hb; subst e
    obtain ⟨i, hi⟩ := List.mem_iff_getElem?.1 ha
    have hlt := (List.getElem?_eq_some_iff.1 hi).1
    have hF := h.faults i a _ hi (List.getElem?_eq_getElem (by rw [← h.len]; exact hlt))
    have := hF.phi
    omega

theorem LinkAt.mono {w : World} {lo hi hi' p : Nat} {pbs : List Nat} {fs : List Flt} (h : LinkAt w lo hi p pbs fs) (h1 : hi ≤ hi') (h2 : hi' ≤ w.heap.size) : LinkAt w lo hi' p pbs fs := by
  obtain ⟨v, a1, a2, a3⟩ := h.root
  exact ⟨⟨v, a1, a2, fun b hb => Nat.lt_of_lt_of_le (a3 b hb) h1⟩, h.plo, Nat.lt_of_lt_of_le h.phi h1, h2, h.len, fun i pb f q1 q2 => (h.faults i pb f q1 q2).keepsOwn (Keeps.refl (fun _ => False) w) h1 (fun _ _ _ _ => ⟨fun x => x, fun x => x⟩), h.nodup, h.small⟩

theorem LinkAt.start (w : World) : LinkAt (w.alloc (.cells #[.slice none 0 0] 62)) w.heap.size (w.heap.size + 1) w.heap.size [] [] :=
  ⟨⟨.slice none 0 0, Blk.new w 62 [.slice none 0 0], World.ownsRow_nil _ _ _ _, by simp [Value.ownBlock]⟩, Nat.le_refl _, by omega, by simp, rfl, by simp, List.nodup_nil, by simp⟩
end Go.Proofs.Ytmgjccalpdlbbaa
