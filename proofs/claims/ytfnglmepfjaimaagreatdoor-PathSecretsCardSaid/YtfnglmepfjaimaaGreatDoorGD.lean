/- A machine of values over the model, fourth part: operations that tell a value and write nothing. -/
import Derived.Test.YtfnglmepfjaimaaGreatDoorGC
import Derived.Laws.Cells
namespace Go.Proofs.YtfnglmepfjaimaaGreatDoor
open Go.RowKit
set_option linter.unusedVariables false
section
variable {P : Program}

/-- What a piece of meaning comes to that looks at no world. -/
def spure {α : Type} (p : Program) : Sem α → Option α
  | .pure a => some a
  | .program k => spure p (k p)
  | _ => none
theorem spure_run {α : Type} {p : Program} : ∀ {s : Sem α} {a : α}, spure p s = some a → ∀ w, s.run p w = .ok a w
  | .pure b, a, h, w => by simp [spure] at h; subst h; rfl
  | .program k, a, h, w => by
    simp only [spure] at h
    exact spure_run (s := k p) h w
  | .load .., a, h, w | .store .., a, h, w | .new .., a, h, w | .shape .., a, h, w | .freeze .., a, h, w | .frozen .., a, h, w | .getObj .., a, h, w | .setObj .., a, h, w
  | .choose .., a, h, w | .sys .., a, h, w | .mark .., a, h, w | .halt .., a, h, w => by simp [spure] at h

def glits : List G → Option (List Value)
  | [] => some []
  | .lit v :: r => (glits r).map (v :: ·)
  | _ :: _ => none
def gval : G → Option Value
  | .lit v => some v
  | .agg l => (glits l).map fun us => .agg us.toArray
  | .clo fn [] [] => some (.func fn #[] #[])
  | _ => none
theorem glits_spec : ∀ {l : List G} {us : List Value}, glits l = some us → us.length = l.length ∧ ∀ (i : Nat) (g : G), l[i]? = some g → ∃ u, us[i]? = some u ∧ g = .lit u
  | [], us, h => by simp [glits] at h; subst h; simp
  | g :: r, us, h => by
    cases g with
    | lit v =>
      simp only [glits, Option.map_eq_some_iff] at h
      obtain ⟨us', h', rfl⟩ := h
      obtain ⟨h1, h2⟩ := glits_spec h'
      refine ⟨by simp [h1], fun i g hg => ?_⟩
      cases i with
      | zero => simp at hg; subst hg; exact ⟨v, rfl, rfl⟩
      | succ i => simpa using h2 i g (by simpa using hg)
    | _ => simp [glits] at h
theorem RV.arr {β : Bm} {S : Nat → Prop} {w : World} {l : List G} {us : List Value} (hl : glits l = some us) {xs : Array Value} (hs : xs.size = l.length) (h : ∀ (i : Nat) (g : G) (u : Value), l[i]? = some g → xs[i]? = some u → RV β S w g u) : xs = us.toArray := by
  obtain ⟨h1, h2⟩ := glits_spec hl
  apply Array.ext (by simp [hs, h1])
  intro i hi hi'
  have hl : i < l.length := by omega
  obtain ⟨u, hu, hg⟩ := h2 i l[i] (List.getElem?_eq_getElem hl)
  have := h i l[i] xs[i] (List.getElem?_eq_getElem hl) (by simp [hi])
  rw [hg] at this
  have e := this.lit_eq
  rw [e]
  simp at hi'
  simp [List.getElem?_eq_getElem hi'] at hu
  simp [hu]
theorem RV.val {β : Bm} {S : Nat → Prop} {w : World} {g : G} {u v : Value} (hg : gval g = some u) (h : RV β S w g v) : v = u := by
  cases g with
  | lit x => simp [gval] at hg; subst hg; exact h.lit_eq
  | agg l =>
    simp only [gval, Option.map_eq_some_iff] at hg
    obtain ⟨us, hl, rfl⟩ := hg
    cases h with
    | imm _ _ h =>
      cases h with
      | agg _ xs hs h1 h => rw [RV.arr (β := fun _ => none) (S := S) (w := w) hl hs (fun i g u a b => .imm _ _ (h i g u a b))]
    | agg _ xs hs h1 h => rw [RV.arr hl hs h]
  | clo fn f c =>
    cases f with
    | cons _ _ => simp [gval] at hg
    | nil =>
      cases c with
      | cons _ _ => simp [gval] at hg
      | nil =>
        simp [gval] at hg
        subst hg
        cases h with
        | imm _ _ h =>
          cases h with
          | clo _ _ _ fs cs hf hc _ _ =>
            have e1 : fs = #[] := Array.eq_empty_of_size_eq_zero (by simpa using hf)
            have e2 : cs = #[] := Array.eq_empty_of_size_eq_zero (by simpa using hc)
            rw [e1, e2]
        | clo _ _ _ fs cs hf hc _ _ =>
          have e1 : fs = #[] := Array.eq_empty_of_size_eq_zero (by simpa using hf)
          have e2 : cs = #[] := Array.eq_empty_of_size_eq_zero (by simpa using hc)
          rw [e1, e2]
  | _ => simp [gval] at hg

/-- An operation all of whose operands are plain. -/
def gplain (P : Program) (ρ : Operand → G) (o : Oper) : Option G :=
  if o.op.operands.all (fun x => (gval (ρ x)).isSome) then
    match spure P (execOp (fun x => (gval (ρ x)).getD undef) o) with
    | some (.value v) => some (glit v)
    | _ => none
  else none

def tagg (P : Program) (t : TypeId) : Option Bool := (P.underlying t).map fun | .struct _ | .array _ _ => true | _ => false
def telem (P : Program) (t : TypeId) : Option TypeId := (P.underlying t).bind fun | .slice e => some e | _ => none
def tarr (P : Program) (t : TypeId) : Option (Nat × TypeId) := (P.underlying t).bind fun | .array n e => some (n, e) | _ => none
def tsize (P : Program) (t : TypeId) : Option Nat := (P.info? t).map (·.size)
def tfield (P : Program) (t : TypeId) (k : Nat) : Option (Nat × TypeId) := (P.underlying t).bind fun | .struct fs => fs[k]?.map (fun f => (f.offset, f.type)) | _ => none

/-- A part of some cells, of a type. -/
def gpart (P : Program) (t : TypeId) (l : List G) (o : Nat) : Option G :=
  match tagg P t, tsize P t with
  | some true, some n => if o + n ≤ l.length then some (.agg ((l.drop o).take n)) else none
  | some false, _ => l[o]?
  | _, _ => none
def gload (P : Program) (σ : Sto) (t : TypeId) : G → Option G
  | .ref i o => (sget σ i).bind fun ob => gpart P t ob.l o
  | .ptr l o => gpart P t l o
  | _ => none
def gaddr (k : Nat) : G → Option G
  | .ref i o => some (.ref i (o + k))
  | .ptr l o => some (.ptr l (o + k))
  | _ => none
def gint : G → Option Int
  | .lit (.int _ n) => some n
  | _ => none
/-- Where an index leads. -/
def gindex (P : Program) (t : TypeId) (x : G) (i : Int) : Option G :=
  match x, telem P t, tarr P t with
  | .sl l n, some e, _ => (tsize P e).bind fun s => if 0 ≤ i ∧ i < n ∧ i.toNat * s < l.length then some (.ptr l (i.toNat * s)) else none
  | .rsl j o n, some e, _ => (tsize P e).bind fun s => if 0 ≤ i ∧ i < n then some (.ref j (o + i.toNat * s)) else none
  | x, none, some (n, e) => (tsize P e).bind fun s => if 0 ≤ i ∧ i < n then gaddr (i.toNat * s) x else none
  | _, _, _ => none
/-- 'x[lo:hi]'. -/
def gslice (P : Program) (t : TypeId) (x : G) (lo hi : Option Int) : Option G :=
  match x, telem P t with
  | .sl l n, some e => (tsize P e).bind fun s => match lo, hi with
    | none, none => some (.sl l n)
    | none, some h => if 0 ≤ h ∧ h ≤ n then some (.sl (l.take (h.toNat * s)) h.toNat) else none
    | some a, none => if 0 ≤ a ∧ a ≤ n ∧ l.length ≤ n * s then some (.sl (l.drop (a.toNat * s)) (n - a.toNat)) else none
    | some a, some h => if 0 ≤ a ∧ a ≤ h ∧ h ≤ n then some (.sl ((l.take (h.toNat * s)).drop (a.toNat * s)) (h.toNat - a.toNat)) else none
  | .rsl i o n, some e => (tsize P e).bind fun s => if s = 0 then none else match lo, hi with
    | none, none => some (.rsl i o n)
    | none, some h => if 0 ≤ h ∧ h ≤ n then some (.rsl i o h.toNat) else none
    | some a, none => if 0 ≤ a ∧ a ≤ n then some (.rsl i (o + a.toNat * s) (n - a.toNat)) else none
    | some a, some h => if 0 ≤ a ∧ a ≤ h ∧ h ≤ n then some (.rsl i (o + a.toNat * s) (h.toNat - a.toNat)) else none
  | _, _ => none
def glen : G → Option Int
  | .sl _ n => some n
  | .rsl _ _ n => some n
  | .lit (.slice _ n _) => some n
  | _ => none
def gbool : G → Option Bool
  | .lit (.bool b) => some b
  | _ => none
def optInt : Option G → Option (Option Int)
  | none => some none
  | some g => (gint g).map some
/-- The value that an operation tells. -/
def evVal (P : Program) (ρ : Operand → G) (σ : Sto) (o : Oper) : Option G :=
  match o.op with
  | .move x | .assign x => some (ρ x)
  | .pick c a b => (gbool (ρ c)).map fun t => if t then ρ a else ρ b
  | .load t x => gload P σ t (ρ x)
  | .nilCheck x => match ρ x with
    | .ref i o => some (.ref i o)
    | .ptr l o => some (.ptr l o)
    | .clo (.func f) a b => some (.clo (.func f) a b)
    | _ => none
  | .makeFunc fn f c => some (.clo fn (f.map ρ).toList (c.map ρ).toList)
  | .extract x k => match ρ x with
    | .tup l => l[k]?
    | _ => none
  | .makeInterface t x => (P.underlying t).bind fun | .interface _ => none | _ => some (.ifc t (ρ x))
  | .fieldAddr t x k => (tfield P t k).bind fun (off, ft) => (tsize P ft).bind fun n => if n = 0 then none else gaddr off (ρ x)
  | .field t x k => match ρ x with
    | .agg l => (tfield P t k).bind fun (off, ft) => gpart P ft l off
    | _ => none
  | .indexAddr t x i => (gint (ρ i)).bind fun k => gindex P t (ρ x) k
  | .index t x i => match ρ x with
    | .agg l => (tarr P t).bind fun (n, e) => (gint (ρ i)).bind fun k => (tsize P e).bind fun s => if 0 ≤ k ∧ k < n then gpart P e l (k.toNat * s) else none
    | _ => gplain P ρ o
  | .slice t x lo hi none => match ρ x with
    | .lit _ => gplain P ρ o
    | g => (optInt (lo.map ρ)).bind fun a => (optInt (hi.map ρ)).bind fun b => gslice P t g a b
  | .call { callee := .builtin .len, args, argTypes } => match args.toList, argTypes.toList with
    | [x], [t] => if (telem P t).isSome then (glen (ρ x)).map fun n => .lit (.int .i64 n) else gplain P ρ o
    | _, _ => none
  | .call { callee := .builtin .max, .. } | .call { callee := .builtin .min, .. } | .binOp .. | .unOp .. | .convert .. => gplain P ρ o
  | _ => none
end
end Go.Proofs.YtfnglmepfjaimaaGreatDoor
