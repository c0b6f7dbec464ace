/- A machine of values over the model, thirteenth part: the steps as a walk takes them. -/
import Derived.Test.YtfnglmepfjaimaaGreatDoorGL
import Derived.IntWalk
namespace Go.Proofs.YtfnglmepfjaimaaGreatDoor
open Go.RowKit
set_option linter.unusedVariables false
section
variable {P : Program} {rr : Bool}

theorem run_nil {ops : Array Oper} {K : St → Prop} {st : St} (h : K st) : Run P ops K [] st := h
theorem run_v {ops : Array Oper} {K : St → Prop} {op : Op} {ty : TypeId} {pos : String} {af : Array Edge} {rest : List Oper} {n : Nat} {gl : List (Nat × List G)} {fr : Fr} {σ : Sto} {c p : Nat} {g : G} {d : Nat} (he : evVal P (gev ⟨n, gl, fr, σ, c, p, rr⟩) σ ⟨some d, op, ty, pos, af, none⟩ = some g) (hd : d < n) (h : Run P ops K rest ⟨n, gl, (d, g) :: fr, σ, c, p, rr⟩) : Run P ops K (⟨some d, op, ty, pos, af, none⟩ :: rest) ⟨n, gl, fr, σ, c, p, rr⟩ :=
  .inl ⟨rfl, _, gs_val (fun _ e => by cases e; exact hd) he, h⟩
theorem rund_nil {ops : Array Oper} {bars : List Nat} {K : St → Prop} {j : Nat} {st : St} (h : K st) : RunD P ops bars K j [] st := h
theorem rund_v {ops : Array Oper} {bars : List Nat} {K : St → Prop} {op : Op} {ty : TypeId} {pos : String} {af : Array Edge} {rest : List Oper} {n j : Nat} {gl : List (Nat × List G)} {fr : Fr} {σ : Sto} {c p : Nat} {g : G} {d : Nat} (he : evVal P (gev ⟨n, gl, fr, σ, c, p, rr⟩) σ ⟨some d, op, ty, pos, af, none⟩ = some g) (hd : d < n) (h : RunD P ops bars K (j + 1) rest ⟨n, gl, (d, g) :: fr, σ, c, p, rr⟩) : RunD P ops bars K j (⟨some d, op, ty, pos, af, none⟩ :: rest) ⟨n, gl, fr, σ, c, p, rr⟩ :=
  .inl ⟨rfl, _, tg_val (fun _ e => by cases e; exact hd) he, h⟩

theorem tr_condT {c : Operand} {x y : Code} {st : St} {Q : Exit → St → Prop} (hc : gev st c = .lit (.bool true)) (h : Tr P x st Q) : Tr P (.cond c x y) st Q := tr_cond (t := true) hc h
theorem tr_condF {c : Operand} {x y : Code} {st : St} {Q : Exit → St → Prop} (hc : gev st c = .lit (.bool false)) (h : Tr P y st Q) : Tr P (.cond c x y) st Q := tr_cond (t := false) hc h
theorem tr_condP {c : Operand} {x y : Code} {st : St} {Q : Exit → St → Prop} {p : Prop} [Decidable p] (hc : gev st c = .lit (.bool (decide p))) (h1 : p → Tr P x st Q) (h2 : ¬ p → Tr P y st Q) : Tr P (.cond c x y) st Q :=
  tr_cond2 hc (fun h => h1 (of_decide_eq_true h)) (fun h => h2 (of_decide_eq_false h))

/-- Two operands. -/
def gbin (P : Program) (op : BinOp) (t : TypeId) (x y : Operand) (gx gy : G) : Option G := match gval gx, gval gy with
  | some u, some v => (spure P (do eqGuard op t x y u v; binOp op t u v)).map glit
  | _, _ => none
theorem spure_bind {α β : Type} {p : Program} : ∀ (s : Sem α) (f : α → Sem β), spure p (s >>= f) = (spure p s).bind fun a => spure p (f a)
  | .pure a, f => rfl
  | .program k, f => spure_bind (k p) f
  | .load .., f | .store .., f | .new .., f | .shape .., f | .freeze .., f | .frozen .., f | .getObj .., f | .setObj .., f
  | .choose .., f | .sys .., f | .mark .., f | .halt .., f => rfl
theorem ev_bin {ρ : Operand → G} {σ : Sto} {d : Option Tmp} {op : BinOp} {t t' ty : TypeId} {x y : Operand} {pos : String} {af : Array Edge} {gd : Option (Nat × Bool)} : evVal P ρ σ ⟨d, .binOp op t x y t', ty, pos, af, gd⟩ = gbin P op t x y (ρ x) (ρ y) := by
  simp only [evVal, gplain, gbin]
  cases hx : gval (ρ x) with
  | none => simp [Op.operands, hx]
  | some u =>
    cases hy : gval (ρ y) with
    | none => simp [Op.operands, hx, hy]
    | some v =>
      simp only [Op.operands, execOp, hx, hy, Option.getD_some]
      rw [if_pos (by simp [hx, hy])]
      have e := spure_bind (p := P) (do eqGuard op t x y u v; binOp op t u v : Sem Value) (fun r => (pure (Next.value r) : Sem Next))
      rw [e]
      cases spure P (do eqGuard op t x y u v; binOp op t u v) with
      | none => rfl
      | some r => rfl
def gun (P : Program) (op : UnOp) (gx : G) : Option G := match gval gx with
  | some u => (spure P (Op.unary op u)).map glit
  | _ => none
theorem ev_un {ρ : Operand → G} {σ : Sto} {d : Option Tmp} {op : UnOp} {t ty : TypeId} {x : Operand} {pos : String} {af : Array Edge} {gd : Option (Nat × Bool)} : evVal P ρ σ ⟨d, .unOp op t x, ty, pos, af, gd⟩ = gun P op (ρ x) := by
  simp only [evVal, gplain, gun]
  cases hx : gval (ρ x) with
  | none => simp [Op.operands, hx]
  | some u =>
    simp only [Op.operands, execOp, hx, Option.getD_some]
    rw [if_pos (by simp [hx])]
    have e := spure_bind (p := P) (Op.unary op u) (fun r => (pure (Next.value r) : Sem Next))
    rw [e]
    cases spure P (Op.unary op u) <;> rfl
theorem spure_pure {α : Type} {p : Program} (a : α) : spure p (pure a : Sem α) = some a := rfl

section
variable {t : TypeId} {x y : Operand} {k : IntKind} {a b : Int}
theorem gb_add : gbin P .add t x y (.lit (.int k a)) (.lit (.int k b)) = some (.lit (.int k (k.wrap (a + b)))) := by simp [gbin, gval, eqGuard, binOp, Op.intArith, spure_pure, glit]
theorem gb_sub : gbin P .sub t x y (.lit (.int k a)) (.lit (.int k b)) = some (.lit (.int k (k.wrap (a - b)))) := by simp [gbin, gval, eqGuard, binOp, Op.intArith, spure_pure, glit]
theorem gb_mul : gbin P .mul t x y (.lit (.int k a)) (.lit (.int k b)) = some (.lit (.int k (k.wrap (a * b)))) := by simp [gbin, gval, eqGuard, binOp, Op.intArith, spure_pure, glit]
theorem gb_lss : gbin P .lss t x y (.lit (.int k a)) (.lit (.int k b)) = some (.lit (.bool (decide (a < b)))) := by simp [gbin, gval, eqGuard, binOp, Op.intCmp, spure_pure, glit]
theorem gb_leq : gbin P .leq t x y (.lit (.int k a)) (.lit (.int k b)) = some (.lit (.bool (decide (a ≤ b)))) := by simp [gbin, gval, eqGuard, binOp, Op.intCmp, spure_pure, glit]
theorem gb_gtr : gbin P .gtr t x y (.lit (.int k a)) (.lit (.int k b)) = some (.lit (.bool (decide (b < a)))) := by simp [gbin, gval, eqGuard, binOp, Op.intCmp, spure_pure, glit]
theorem gb_geq : gbin P .geq t x y (.lit (.int k a)) (.lit (.int k b)) = some (.lit (.bool (decide (b ≤ a)))) := by simp [gbin, gval, eqGuard, binOp, Op.intCmp, spure_pure, glit]
theorem gb_eql : gbin P .eql t x y (.lit (.int k a)) (.lit (.int k b)) = some (.lit (.bool (decide (a = b)))) := by
  have e : (a == b) = decide (a = b) := by rw [Bool.eq_iff_iff]; simp
  simp [gbin, gval, eqGuard, binOp, Op.intCmp, spure_pure, glit, ← e]
theorem gb_neq : gbin P .neq t x y (.lit (.int k a)) (.lit (.int k b)) = some (.lit (.bool (decide (a ≠ b)))) := by
  have e : (a != b) = decide (a ≠ b) := by rw [Bool.eq_iff_iff]; simp
  rw [← e]
  simp [gbin, gval, eqGuard, binOp, Op.intCmp, spure_pure, glit]
theorem gb_quo (h : b ≠ 0) : gbin P .quo t x y (.lit (.int k a)) (.lit (.int k b)) = some (.lit (.int k (k.wrap (a.tdiv b)))) := by simp [gbin, gval, eqGuard, binOp, Op.intDiv, spure_pure, glit, h]
theorem gb_rem (h : b ≠ 0) : gbin P .rem t x y (.lit (.int k a)) (.lit (.int k b)) = some (.lit (.int k (a.tmod b))) := by simp [gbin, gval, eqGuard, binOp, Op.intDiv, spure_pure, glit, h]
theorem gu_not {b : Bool} : gun P .not (.lit (.bool b)) = some (.lit (.bool !b)) := rfl
theorem gu_neg : gun P .neg (.lit (.int k a)) = some (.lit (.int k (k.wrap (0 - a)))) := rfl
end
section
variable {ρ : Operand → G} {σ : Sto} {d : Option Tmp} {ty t : TypeId} {x y z : Operand} {pos : String} {af : Array Edge} {gd : Option (Nat × Bool)} {n k : Nat}
theorem ev_move : evVal P ρ σ ⟨d, .move x, ty, pos, af, gd⟩ = some (ρ x) := rfl
theorem ev_assign : evVal P ρ σ ⟨d, .assign x, ty, pos, af, gd⟩ = some (ρ x) := rfl
theorem ev_pick : evVal P ρ σ ⟨d, .pick x y z, ty, pos, af, gd⟩ = (gbool (ρ x)).map fun t => if t then ρ y else ρ z := rfl
theorem ev_load : evVal P ρ σ ⟨d, .load t x, ty, pos, af, gd⟩ = gload P σ t (ρ x) := rfl
def gnil : G → Option G
  | .ref i o => some (.ref i o)
  | .ptr l o => some (.ptr l o)
  | .clo (.func f) a b => some (.clo (.func f) a b)
  | _ => none
theorem ev_nil : evVal P ρ σ ⟨d, .nilCheck x, ty, pos, af, gd⟩ = gnil (ρ x) := rfl
theorem ev_clo {fn : Fn} {f c : Array Operand} : evVal P ρ σ ⟨d, .makeFunc fn f c, ty, pos, af, gd⟩ = some (.clo fn (f.map ρ).toList (c.map ρ).toList) := rfl
def gextract (k : Nat) : G → Option G
  | .tup l => l[k]?
  | _ => none
theorem ev_extract : evVal P ρ σ ⟨d, .extract x k, ty, pos, af, gd⟩ = gextract k (ρ x) := rfl
def gfield (P : Program) (t : TypeId) (k : Nat) : G → Option G
  | .agg l => (tfield P t k).bind fun (off, ft) => gpart P ft l off
  | _ => none
theorem ev_field : evVal P ρ σ ⟨d, .field t x k, ty, pos, af, gd⟩ = gfield P t k (ρ x) := rfl
def gfieldAddr (P : Program) (t : TypeId) (k : Nat) (g : G) : Option G := (tfield P t k).bind fun (off, ft) => (tsize P ft).bind fun n => if n = 0 then none else gaddr off g
theorem ev_fieldAddr : evVal P ρ σ ⟨d, .fieldAddr t x k, ty, pos, af, gd⟩ = gfieldAddr P t k (ρ x) := rfl
theorem ev_indexAddr : evVal P ρ σ ⟨d, .indexAddr t x y, ty, pos, af, gd⟩ = (gint (ρ y)).bind fun k => gindex P t (ρ x) k := rfl
theorem ev_len : evVal P ρ σ ⟨d, .call { callee := .builtin .len, args := #[x], argTypes := #[t] }, ty, pos, af, gd⟩ = if (telem P t).isSome then (glen (ρ x)).map fun n => .lit (.int .i64 n) else gplain P ρ ⟨d, .call { callee := .builtin .len, args := #[x], argTypes := #[t] }, ty, pos, af, gd⟩ := rfl
def gsliceOf (P : Program) (t : TypeId) (g : G) (a b : Option (Option Int)) : Option G := a.bind fun a => b.bind fun b => gslice P t g a b
theorem ev_slice_sl {lo hi : Option Operand} {l : List G} {n : Nat} (h : ρ x = .sl l n) : evVal P ρ σ ⟨d, .slice t x lo hi none, ty, pos, af, gd⟩ = gsliceOf P t (.sl l n) (optInt (lo.map ρ)) (optInt (hi.map ρ)) := by simp only [evVal, h]; rfl
theorem ev_slice_rsl {lo hi : Option Operand} {i o n : Nat} (h : ρ x = .rsl i o n) : evVal P ρ σ ⟨d, .slice t x lo hi none, ty, pos, af, gd⟩ = gsliceOf P t (.rsl i o n) (optInt (lo.map ρ)) (optInt (hi.map ρ)) := by simp only [evVal, h]; rfl
theorem gev_tmp {st : St} {t : Tmp} : gev st (.tmp t) = fget st.fr t := rfl
theorem gev_const {st : St} {v : Value} : gev st (.const v) = glit v := rfl
theorem gev_func {st : St} {f : FuncId} : gev st (.func f) = .clo (.func f) [] [] := rfl
theorem glit_int {k : IntKind} {n : Int} : glit (.int k n) = .lit (.int k n) := rfl
theorem glit_bool {b : Bool} : glit (.bool b) = .lit (.bool b) := rfl
theorem glit_str {s : ByteArray} : glit (.string s) = .lit (.string s) := rfl
theorem glit_slice {a : Option Addr} {n c : Nat} : glit (.slice a n c) = .lit (.slice a n c) := rfl
theorem glit_nilf : glit .nilFunc = .lit .nilFunc := rfl
theorem glit_ptr {a : Option Addr} : glit (.pointer a) = .lit (.pointer a) := rfl
theorem fget_nil {i : Nat} : fget [] i = .junk := rfl
theorem sget_nil {i : Nat} : sget [] i = none := rfl
end
theorem w64 {x : Int} (h : -9223372036854775808 ≤ x ∧ x ≤ 9223372036854775807) : IntKind.i64.wrap x = x := IntWalk.i64_in x h
theorem wu64 {x : Int} (h : 0 ≤ x ∧ x ≤ 18446744073709551615) : IntKind.u64.wrap x = x := IntWalk.u64_in x h
theorem wu8 {x : Int} (h : 0 ≤ x ∧ x ≤ 255) : IntKind.u8.wrap x = x := IntWalk.u8_in x h

/-! ### numbers, and rows of them -/
abbrev gI (z : Int) : G := .lit (.int .i64 z)
abbrev gB (b : Bool) : G := .lit (.bool b)
def gInts (zs : List Int) : G := .sl (zs.map gI) zs.length
end
end Go.Proofs.YtfnglmepfjaimaaGreatDoor
