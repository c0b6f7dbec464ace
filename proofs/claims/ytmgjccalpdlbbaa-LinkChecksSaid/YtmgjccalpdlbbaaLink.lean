/- What a link is in memory ('LinkAt'), and its methods there, Over, Met, Quiet: each by its contract. -/
import Derived.Test.YtmgjccalpdlbbaaRows
import Derived.Test.YtmgjccalpdlbbaaLib
namespace Go.Proofs.Ytmgjccalpdlbbaa
open Go.RowKit
set_option linter.unusedVariables false

/-- A line of faults, as a link keeps it. -/
structure Flt where
  dk : Int
  fr : Int
  til : Int
  each : Int
  set : Int → Bool
  count : Int

namespace Flt
def there (f : Flt) (r : Int) : Bool := decide (f.fr ≤ r ∧ r < f.til)
def counts (f : Flt) (r : Int) : Bool := decide (f.dk ≠ 3) && f.there r
def tick (r : Int) (f : Flt) : Flt := if f.counts r then { f with count := f.count + 1 } else f
def hit (f : Flt) (r : Int) : Bool := f.counts r && decide ((f.count + 1) % f.each = 0)
def lose (r : Int) (f : Flt) : Bool := f.hit r && decide (f.dk = 4)
def twice (r : Int) (f : Flt) : Bool := f.hit r && decide (f.dk = 5)
/-- What a line that New takes is. -/
structure Fit (f : Flt) : Prop where
  dk : f.dk = 3 ∨ f.dk = 4 ∨ f.dk = 5
  each : f.dk = 3 ∨ 1 ≤ f.each
  each' : f.each ≤ 9223372036854775807
  count : 0 ≤ f.count
  count' : f.count ≤ 1000000
end Flt

def mInt (k : Int) : Value := .int .i64 k
def fltCells (f : Flt) (mb : Nat) : List Value := [.int .i64 f.dk, .int .i64 f.fr, .int .i64 f.til, .int .i64 f.each, .map (some mb), .int .i64 f.count]
def ptrTo (b : Nat) : Value := .pointer (some ⟨b, 0, none⟩)

structure FaultAt (w : World) (lo hi pb : Nat) (f : Flt) : Prop where
  fit : f.Fit
  plo : lo ≤ pb
  phi : pb < hi
  here : ∃ mb, lo ≤ mb ∧ mb < hi ∧ Blk w pb 66 (fltCells f mb) ∧ ∃ n, SetAt Try.prog 3 4 w mb f.set n

/-- At block p of w, and in blocks from lo on, below hi, stands a link of these faults. -/
structure LinkAt (w : World) (lo hi p : Nat) (pbs : List Nat) (fs : List Flt) : Prop where
  root : ∃ v, Blk w p 62 [v] ∧ w.ownsRow lo 63 1 v fs.length (pbs.map ptrTo) ∧ ∀ b, v.ownBlock = some b → b < hi
  plo : lo ≤ p
  phi : p < hi
  top : hi ≤ w.heap.size
  len : pbs.length = fs.length
  faults : ∀ (i pb : Nat) (f : Flt), pbs[i]? = some pb → fs[i]? = some f → FaultAt w lo hi pb f
  nodup : pbs.Nodup
  small : fs.length ≤ 1000000

theorem FaultAt.keeps {S : Nat → Prop} {w w' : World} {lo hi pb : Nat} {f : Flt} (h : FaultAt w lo hi pb f) (k : Keeps S w w') (hS : ∀ b, lo ≤ b → b < hi → ¬ S b) : FaultAt w' lo hi pb f := by
  obtain ⟨mb, h1, h2, h3, n, h4⟩ := h.here
  exact ⟨h.fit, h.plo, h.phi, mb, h1, h2, h3.keeps k (hS _ h.plo h.phi), n, h4.keeps k (hS _ h1 h2)⟩

theorem LinkAt.keeps {S : Nat → Prop} {w w' : World} {lo hi p : Nat} {pbs : List Nat} {fs : List Flt} (h : LinkAt w lo hi p pbs fs) (k : Keeps S w w') (hS : ∀ b, lo ≤ b → b < hi → ¬ S b) : LinkAt w' lo hi p pbs fs := by
  obtain ⟨v, h1, h2, h3⟩ := h.root
  refine ⟨⟨v, h1.keeps k (hS _ h.plo h.phi), ownsRow_keeps h2 k (fun b hb => hS b ((h2.lt b hb).1) (h3 b hb)), h3⟩, h.plo, h.phi, Nat.le_trans h.top k.size, h.len, fun i pb f a b => (h.faults i pb f a b).keeps k hS, h.nodup, h.small⟩

/-- The slice of a link's faults, cell by cell. -/
theorem LinkAt.row {w : World} {lo hi p : Nat} {pbs : List Nat} {fs : List Flt} (h : LinkAt w lo hi p pbs fs) :
    ∃ a cap, Blk w p 62 [.slice a fs.length cap] ∧ ∀ i pb, pbs[i]? = some pb → ∃ g, a = some ⟨g, 0, none⟩ ∧ w.cell? ⟨g, i, none⟩ = some (.pointer (some ⟨pb, 0, none⟩)) := by
  obtain ⟨v, h1, h2, h3⟩ := h.root
  rcases h2.2 with ⟨rfl, hn⟩ | ⟨g, cap, cur, rfl, hb, hg, hle, hm, hs, ht⟩
  · refine ⟨none, 0, by rw [hn]; exact h1, fun i pb hi => ?_⟩
    have := h.len
    have hl : i < pbs.length := (List.getElem?_eq_some_iff.1 hi).1
    omega
  · refine ⟨some ⟨g, 0, none⟩, cap, h1, fun i pb hi => ⟨g, rfl, ?_⟩⟩
    have hc := h2.cells (g := g) rfl i (ptrTo pb) (by simp [hi])
    have hadd : (⟨g, 0, none⟩ : Addr).add i = ⟨g, i, none⟩ := by unfold Addr.add; split <;> simp_all
    rwa [hadd] at hc

/-- .. where the slice is known. -/
theorem LinkAt.rowOf {w : World} {lo hi p : Nat} {pbs : List Nat} {fs : List Flt} (h : LinkAt w lo hi p pbs fs) {a : Option Addr} {n cap : Nat} (hb : Blk w p 62 [.slice a n cap]) {i pb : Nat} (hi : pbs[i]? = some pb) :
    ∃ g, a = some ⟨g, 0, none⟩ ∧ w.cell? ⟨g, i, none⟩ = some (.pointer (some ⟨pb, 0, none⟩)) := by
  obtain ⟨a', cap', h1, h2⟩ := h.row
  have e := h1.symm.trans hb
  simp at e
  obtain ⟨rfl, -, -⟩ := e
  exact h2 i pb hi

theorem LinkAt.root_ne {w : World} {lo hi p : Nat} {pbs : List Nat} {fs : List Flt} (h : LinkAt w lo hi p pbs fs) {k pb : Nat} {f : Flt} (hp : pbs[k]? = some pb) (hf : fs[k]? = some f) : p ≠ pb := by
  intro e
  subst e
  obtain ⟨v, h1, h2, h3⟩ := h.root
  obtain ⟨mb, m1, m2, m3, n, m4⟩ := (h.faults k _ f hp hf).here
  have := h1.symm.trans m3
  simp at this

/-! ### (*fault).there -/
set_option maxHeartbeats 400000 in
theorem there_any (b : Nat) (fr til r : Int) (w : World) (h1 : w.cell? ⟨b, 1, none⟩ = some (.int .i64 fr)) (h2 : w.cell? ⟨b, 2, none⟩ = some (.int .i64 til)) :
    Calls Try.prog 24 #[.pointer (some ⟨b, 0, none⟩), .int .i64 r] w fun e w' => e = .returned (.bool (decide (fr ≤ r ∧ r < til))) ∧ w = w' := by
  by_cases ha : fr ≤ r
  · by_cases hb : r < til
    · have hx : decide (fr ≤ r ∧ r < til) = true := by simp [ha, hb]
      rw [hx]; clear hx
      go_enter Try.func24, Try.ntmps24
      go_wp2
      go_ret
      exact ⟨rfl, rfl⟩
    · have hx : decide (fr ≤ r ∧ r < til) = false := by simp [hb]
      rw [hx]; clear hx
      go_enter Try.func24, Try.ntmps24
      go_wp2
      go_ret
      exact ⟨rfl, rfl⟩
  · have hx : decide (fr ≤ r ∧ r < til) = false := by simp [ha]
    rw [hx]; clear hx
    go_enter Try.func24, Try.ntmps24
    go_wp2
    go_ret
    exact ⟨rfl, rfl⟩

theorem there_yes (b : Nat) (fr til r : Int) (w : World) (h1 : w.cell? ⟨b, 1, none⟩ = some (.int .i64 fr)) (h2 : w.cell? ⟨b, 2, none⟩ = some (.int .i64 til)) (h : fr ≤ r ∧ r < til) :
    Calls Try.prog 24 #[.pointer (some ⟨b, 0, none⟩), .int .i64 r] w fun e w' => e = .returned (.bool true) ∧ w = w' := by
  have := there_any b fr til r w h1 h2
  rwa [decide_eq_true h] at this
theorem there_no (b : Nat) (fr til r : Int) (w : World) (h1 : w.cell? ⟨b, 1, none⟩ = some (.int .i64 fr)) (h2 : w.cell? ⟨b, 2, none⟩ = some (.int .i64 til)) (h : ¬ (fr ≤ r ∧ r < til)) :
    Calls Try.prog 24 #[.pointer (some ⟨b, 0, none⟩), .int .i64 r] w fun e w' => e = .returned (.bool false) ∧ w = w' := by
  have := there_any b fr til r w h1 h2
  rwa [decide_eq_false h] at this

/-! ### (*Link).Over -/
def lostTo (fs : List Flt) (r : Int) (k : Nat) : Bool := (fs.take k).any (Flt.lose r)
def twiceTo (fs : List Flt) (r : Int) (k : Nat) : Bool := (fs.take k).any (Flt.twice r)
def overVal (fs : List Flt) (r : Int) : Int := if fs.any (Flt.lose r) then 0 else if fs.any (Flt.twice r) then 2 else 1
def tickTo (fs : List Flt) (r : Int) (k : Nat) : List Flt := (fs.take k).map (Flt.tick r) ++ fs.drop k

theorem lostTo_succ {fs : List Flt} {k : Nat} {f : Flt} (h : fs[k]? = some f) (r : Int) : lostTo fs r (k + 1) = (lostTo fs r k || f.lose r) := by
  obtain ⟨hk, rfl⟩ := List.getElem?_eq_some_iff.1 h
  unfold lostTo
  rw [List.take_succ_eq_append_getElem hk, List.any_append]
  simp
theorem twiceTo_succ {fs : List Flt} {k : Nat} {f : Flt} (h : fs[k]? = some f) (r : Int) : twiceTo fs r (k + 1) = (twiceTo fs r k || f.twice r) := by
  obtain ⟨hk, rfl⟩ := List.getElem?_eq_some_iff.1 h
  unfold twiceTo
  rw [List.take_succ_eq_append_getElem hk, List.any_append]
  simp
theorem tickTo_at {fs : List Flt} {k i : Nat} (r : Int) : (tickTo fs r k)[i]? = if i < k then (fs[i]?).map (Flt.tick r) else fs[i]? := by
  unfold tickTo
  rw [List.getElem?_append]
  simp only [List.length_map, List.length_take, List.getElem?_map, List.getElem?_take, List.getElem?_drop]
  by_cases hi : i < fs.length
  · by_cases hk : i < k
    · rw [if_pos (by omega), if_pos hk, if_pos hk]
    · rw [if_neg (by omega), if_neg hk]
      congr 1; omega
  · rw [if_neg (by omega), List.getElem?_eq_none (by omega), List.getElem?_eq_none (by omega)]
    simp
theorem tickTo_length {fs : List Flt} {k : Nat} (r : Int) : (tickTo fs r k).length = fs.length := by simp [tickTo]; omega
theorem tickTo_all (fs : List Flt) (r : Int) : tickTo fs r fs.length = fs.map (Flt.tick r) := by simp [tickTo]
theorem tickTo_zero (fs : List Flt) (r : Int) : tickTo fs r 0 = fs := by simp [tickTo]
theorem tickTo_same {fs : List Flt} {k : Nat} {f : Flt} (h : fs[k]? = some f) {r : Int} (hc : f.counts r = false) : tickTo fs r (k + 1) = tickTo fs r k := by
  apply List.ext_getElem?
  intro i
  rw [tickTo_at, tickTo_at]
  by_cases hi : i = k
  · subst hi
    simp [h, Flt.tick, hc]
  · by_cases hlt : i < k
    · rw [if_pos hlt, if_pos (by omega)]
    · rw [if_neg hlt, if_neg (by omega)]
theorem tickTo_here {fs : List Flt} {k : Nat} {r : Int} : (tickTo fs r k)[k]? = fs[k]? := by rw [tickTo_at, if_neg (by omega)]

/-- One fault's number has been raised. -/
theorem LinkAt.raise {w : World} {lo hi p : Nat} {pbs : List Nat} {fs : List Flt} {r : Int} {k pb : Nat} {f : Flt} (h : LinkAt w lo hi p pbs (tickTo fs r k)) (hp : pbs[k]? = some pb) (hf : fs[k]? = some f) (hc : f.counts r = true) (hs : f.count < 1000000) :
    LinkAt (w.setCell ⟨pb, 5, none⟩ (.int .i64 (f.count + 1))) lo hi p pbs (tickTo fs r (k + 1)) := by
  have F := h.faults k pb f hp (by rw [tickTo_here]; exact hf)
  obtain ⟨v, h1, h2, h3⟩ := h.root
  obtain ⟨mb, m1, m2, m3, n, m4⟩ := F.here
  have hne : p ≠ pb := by
    intro e
    subst e
    have := h1.symm.trans m3
    simp at this
  have K : Keeps (fun b => b = pb) w (w.setCell ⟨pb, 5, none⟩ (.int .i64 (f.count + 1))) := (Keeps.refl (fun b => b = pb) w).setCell (p := ⟨pb, 5, none⟩) (fun _ => rfl) _
  have hlen : (tickTo fs r (k + 1)).length = (tickTo fs r k).length := by rw [tickTo_length, tickTo_length]
  refine ⟨⟨v, h1.setOther hne _, ?_, h3⟩, h.plo, h.phi, by simpa using h.top, by rw [hlen]; exact h.len, fun i pb' f' hi hf' => ?_, h.nodup, by rw [hlen]; exact h.small⟩
  · rw [hlen]
    refine ownsRow_keeps h2 K (fun b hb e => ?_)
    subst e
    rcases h2.2 with ⟨rfl, _⟩ | ⟨g, cap, cur, rfl, hbg, hg, _⟩
    · simp [Value.ownBlock] at hb
    · simp [Value.ownBlock] at hb
      subst hb
      have := hg.symm.trans m3
      simp at this
  · by_cases hik : i = k
    · subst hik
      rw [hp] at hi
      obtain rfl := Option.some.inj hi
      rw [tickTo_at, if_pos (by omega), hf] at hf'
      simp [Flt.tick, hc] at hf'
      subst hf'
      refine ⟨⟨F.fit.dk, F.fit.each, F.fit.each', by have := F.fit.count; simp; omega, by simp; omega⟩, F.plo, F.phi, mb, m1, m2, ?_, n, m4.keeps K (fun e => ?_)⟩
      · have := m3.set 5 (.int .i64 (f.count + 1))
        simpa [fltCells] using this
      · subst e
        obtain ⟨_, D, _, ⟨es, clock, hb, _⟩, _⟩ := m4
        have := hb.symm.trans m3
        simp at this
    · have hne' : pb' ≠ pb := by
        intro e
        subst e
        obtain ⟨a1, a2⟩ := List.getElem?_eq_some_iff.1 hi
        obtain ⟨b1, b2⟩ := List.getElem?_eq_some_iff.1 hp
        exact hik ((List.getElem_inj h.nodup).1 (a2.trans b2.symm))
      have hf2 : (tickTo fs r k)[i]? = some f' := by
        rw [tickTo_at] at hf' ⊢
        by_cases hlt : i < k
        · rw [if_pos hlt]; rw [if_pos (by omega)] at hf'; exact hf'
        · rw [if_neg hlt]; rw [if_neg (by omega)] at hf'; exact hf'
      have G := h.faults i pb' f' hi hf2
      obtain ⟨mb', m1', m2', m3', n', m4'⟩ := G.here
      refine ⟨G.fit, G.plo, G.phi, mb', m1', m2', m3'.setOther hne' _, n', m4'.keeps K (fun e => ?_)⟩
      subst e
      obtain ⟨_, D, _, ⟨es, clock, hb, _⟩, _⟩ := m4'
      have := hb.symm.trans m3
      simp at this

end Go.Proofs.Ytmgjccalpdlbbaa
