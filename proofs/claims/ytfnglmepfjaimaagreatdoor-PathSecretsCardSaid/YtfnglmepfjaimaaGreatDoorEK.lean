/- Running code on known values: what the kernel runs most, made light. -/
import Derived.Test.YtfnglmepfjaimaaGreatDoorEF
namespace Go.Proofs.YtfnglmepfjaimaaGreatDoor
open Go.RowKit
set_option linter.unusedVariables false
section
variable {P : Program}

/-! ### frames -/
noncomputable def kget (fr : Fr) (i : Nat) : G := List.rec G.junk (fun q _ ih => bif Nat.beq q.1 i then q.2 else ih) fr
theorem kget_eq : ∀ (fr : Fr) (i : Nat), kget fr i = fget fr i
  | [], i => rfl
  | (d, g) :: r, i => by
    show (bif Nat.beq d i then g else kget r i) = (bif Nat.beq d i then g else fget r i)
    rw [kget_eq r i]
noncomputable def kput (fr : Fr) (d : Nat) (g : G) : Fr := List.rec [(d, g)] (fun q r ih => bif Nat.beq q.1 d then (d, g) :: r else q :: ih) fr
theorem kput_eq : ∀ (fr : Fr) (d : Nat) (g : G), kput fr d g = fput fr d g
  | [], d, g => rfl
  | (e, h) :: r, d, g => by
    show (bif Nat.beq e d then (d, g) :: r else (e, h) :: kput r d g) = (bif Nat.beq e d then (d, g) :: r else (e, h) :: fput r d g)
    rw [kput_eq r d g]
/-- Slots below a bound. -/
noncomputable def kcut (lo : Nat) (fr : Fr) : Fr := List.rec [] (fun q _ ih => bif Nat.blt q.1 lo then q :: ih else ih) fr
theorem fget_kcut (lo : Nat) : ∀ (fr : Fr) (i : Nat), fget (kcut lo fr) i = if i < lo then fget fr i else .junk
  | [], i => by show G.junk = _; split <;> rfl
  | (d, g) :: r, i => by
    show fget (bif Nat.blt d lo then (d, g) :: kcut lo r else kcut lo r) i = _
    cases h : Nat.blt d lo with
    | true =>
      have hd : d < lo := Nat.le_of_ble_eq_true h
      rw [cond_true, fget_cons, fget_cons, fget_kcut lo r i]
      by_cases e : d = i
      · subst e; simp [hd]
      · simp [e]
    | false =>
      have hd : ¬ d < lo := fun x => by rw [show Nat.blt d lo = true from Nat.ble_eq_true_of_le x] at h; cases h
      rw [cond_false, fget_kcut lo r i, fget_cons]
      by_cases e : d = i
      · subst e; simp [hd]
      · simp [e]
/-- A frame behind a region: what was ahead of it, below a bound, and what the region leaves. -/
noncomputable def ktrim (ks : List Tmp) (fr1 : Fr) : Fr → Fr := List.rec (fun fr => fr) (fun k _ ih fr => ih (kput fr k (kget fr1 k))) ks
theorem fget_ktrim (fr1 : Fr) (i : Nat) : ∀ (ks : List Tmp) (fr : Fr), fget (ktrim ks fr1 fr) i = if i ∈ ks then fget fr1 i else fget fr i
  | [], fr => by show fget fr i = _; simp
  | k :: r, fr => by
    show fget (ktrim r fr1 (kput fr k (kget fr1 k))) i = _
    rw [fget_ktrim fr1 i r, kput_eq, fget_fput, kget_eq]
    by_cases e : k = i
    · subst e; simp
    · have : i ≠ k := fun x => e x.symm
      simp [e, this]
noncomputable def forceFr {α : Type} (fr : Fr) : (Fr → α) → α := List.rec (fun k => k []) (fun q _ ih k => ih fun r => k (q :: r)) fr
theorem forceFr_eq {α : Type} : ∀ (fr : Fr) (k : Fr → α), forceFr fr k = k fr
  | [], k => rfl
  | q :: r, k => by
    show forceFr r (fun r => k (q :: r)) = k (q :: r)
    rw [forceFr_eq r]
/-- A slot is forgotten. -/
noncomputable def kdel (d : Nat) (fr : Fr) : Fr := List.rec [] (fun q _ ih => bif Nat.beq q.1 d then ih else q :: ih) fr
theorem fget_kdel (d : Nat) : ∀ (fr : Fr) (i : Nat), fget (kdel d fr) i = if d = i then .junk else fget fr i
  | [], i => by show G.junk = _; split <;> rfl
  | (e, g) :: r, i => by
    show fget (bif Nat.beq e d then kdel d r else (e, g) :: kdel d r) i = _
    by_cases h : e = d
    · subst h
      rw [Nat.beq_refl, cond_true, fget_kdel e r i, fget_cons]
      split <;> rfl
    · have : Nat.beq e d = false := by
        cases hb : Nat.beq e d with
        | false => rfl
        | true => exact absurd (Nat.eq_of_beq_eq_true hb) h
      rw [this, cond_false, fget_cons, fget_kdel d r i, fget_cons]
      by_cases h1 : e = i
      · subst h1
        have : ¬ d = e := fun x => h x.symm
        simp [this]
      · simp [h1]
theorem le_fr {st : St} {fr : Fr} (h : ∀ i, fget fr i = fget st.fr i ∨ fget fr i = .junk) : Le P st { st with fr := fr } := by
  rintro cx a w ⟨β, r⟩
  refine ⟨β, { r with fr := fun i => ?_ }⟩
  rcases h i with e | e
  · show RV β _ w (fget fr i) _
    rw [e]; exact r.fr i
  · show RV β _ w (fget fr i) _
    rw [e]; exact .junk _

/-! ### which slots a region leaves -/
def isAsg : Op → Bool
  | .assign _ | .alloc _ | .box .. | .range .. => true
  | _ => false
def readsAt (l : List Oper) (d : Tmp) : Bool := l.any fun o => o.op.operands.any fun x => match x with
  | .tmp t => Nat.beq t d
  | _ => false
/-- Where a loop over a row begins. -/
def isHead (l : List Oper) : Bool := l.any fun o => match o.op with
  | .move (.const _) => true
  | _ => false
/-- What a region writes and does not use itself. -/
def keptGo (all : Bool) : List Oper → List Tmp
  | [] => []
  | o :: r => match o.dst with
    | some d => bif all || isAsg o.op || !readsAt r d then (bif (keptGo all r).any (Nat.beq d) then keptGo all r else d :: keptGo all r) else keptGo all r
    | none => keptGo all r
def keptOf (l : List Oper) : List Tmp := keptGo (isHead l) l
def lowOf (l : List Oper) (ks : List Tmp) : Nat := l.foldl (fun m o => match o.dst with
  | some d => bif ks.any (Nat.beq d) then m else lmin d m
  | none => m) 1000000
def trimOk (l : List Oper) (ks : List Tmp) (lo : Nat) : Bool := l.all fun o => match o.dst with
  | some d => ks.any (Nat.beq d) || Nat.ble lo d
  | none => true
noncomputable def xtrim (l : List Oper) (fr0 fr1 : Fr) : Fr := (fun ks => (fun lo => bif trimOk l ks lo then ktrim ks fr1 (kcut lo fr0) else fr1) (lowOf l ks)) (keptOf l)
theorem fget_xtrim {l : List Oper} {fr0 fr1 : Fr} (h : ∀ i, (∀ o ∈ l, o.dst ≠ some i) → fget fr1 i = fget fr0 i) (i : Nat) : fget (xtrim l fr0 fr1) i = fget fr1 i ∨ fget (xtrim l fr0 fr1) i = .junk := by
  show fget (bif trimOk l (keptOf l) (lowOf l (keptOf l)) then ktrim (keptOf l) fr1 (kcut (lowOf l (keptOf l)) fr0) else fr1) i = _ ∨ fget (bif trimOk l (keptOf l) (lowOf l (keptOf l)) then ktrim (keptOf l) fr1 (kcut (lowOf l (keptOf l)) fr0) else fr1) i = _
  cases ht : trimOk l (keptOf l) (lowOf l (keptOf l)) with
  | false => exact .inl rfl
  | true =>
    simp only [cond_true]
    rw [fget_ktrim, fget_kcut]
    split
    · exact .inl rfl
    · rename_i hk
      split
      · rename_i hlt
        refine .inl (h i fun o ho hd => ?_).symm
        have := List.all_eq_true.1 ht o ho
        rw [hd] at this
        simp only [Bool.or_eq_true] at this
        rcases this with h1 | h1
        · obtain ⟨x, hx, hb⟩ := List.any_eq_true.1 h1
          rw [Nat.eq_of_beq_eq_true hb] at hk
          exact hk hx
        · have := Nat.le_of_ble_eq_true h1
          omega
      · exact .inr rfl

/-! ### values, worked out -/
def forceG {α : Type} (g : G) (k : G → α) : α := match g with
  | .lit v => (match v with
    | .int t n => forceI n fun n => k (.lit (.int t n))
    | .bool b => (match b with
      | true => k (.lit (.bool true))
      | false => k (.lit (.bool false)))
    | v => k (.lit v))
  | .agg l => k (.agg l)
  | .tup l => k (.tup l)
  | .ptr l o => forceN o fun o => k (.ptr l o)
  | .sl l n => forceN n fun n => k (.sl l n)
  | .clo f a b => k (.clo f a b)
  | .ifc t g => k (.ifc t g)
  | .ref i o => forceN i fun i => forceN o fun o => k (.ref i o)
  | .rsl i o n => forceN i fun i => forceN o fun o => forceN n fun n => k (.rsl i o n)
  | .mref i => forceN i fun i => k (.mref i)
  | .yld i => k (.yld i)
  | .junk => k .junk
theorem forceG_eq {α : Type} (g : G) (k : G → α) : forceG g k = k g := by
  unfold forceG
  split
  · rename_i v
    split
    · rw [forceI_eq]
    · rename_i b; cases b <;> rfl
    · rfl
  all_goals simp only [forceN_eq]
def fG {α : Type} (E : XEnv) (g : G) (k : G → α) : α := bif E.fv then forceG g k else k g
theorem fG_eq {α : Type} (E : XEnv) (g : G) (k : G → α) : fG E g k = k g := by
  unfold fG
  cases E.fv with
  | true => exact forceG_eq g k
  | false => rfl
noncomputable def gevF (gl : List (Nat × List G)) (fr : Fr) : Operand → G
  | .tmp t => kget fr t
  | .const v => glit v
  | .global g => (match gl.lookup g with | some l => .ptr l 0 | none => .junk)
  | .func f => .clo (.func f) [] []
theorem gevF_eq (s : St) (fr : Fr) (x : Operand) : gevF s.gl fr x = gev { s with fr := fr } x := by
  cases x with
  | tmp t => exact kget_eq fr t
  | const v => rfl
  | global g => rfl
  | func f => rfl

/-! ### light ways to common operations -/
noncomputable def ksget (σ : Sto) (i : Nat) : Option Ob := List.rec none (fun q _ ih => bif Nat.beq q.1 i then q.2 else ih) σ
theorem ksget_eq : ∀ (σ : Sto) (i : Nat), ksget σ i = sget σ i
  | [], i => rfl
  | (d, g) :: r, i => by
    show (bif Nat.beq d i then g else ksget r i) = (bif Nat.beq d i then g else sget r i)
    rw [ksget_eq r i]
noncomputable def knth (l : List G) : Nat → Option G := List.rec (fun _ => none) (fun x _ ih n => Nat.rec (some x) (fun m _ => ih m) n) l
theorem knth_eq : ∀ (l : List G) (n : Nat), knth l n = l[n]?
  | [], n => by simp [knth]
  | x :: r, 0 => rfl
  | x :: r, n + 1 => by
    show knth r n = _
    rw [knth_eq r n]; rfl
noncomputable def kpart (P : Program) (t : TypeId) (l : List G) (o : Nat) : Option G := match tagg P t with
  | some false => knth l o
  | _ => gpart P t l o
theorem kpart_eq (t : TypeId) (l : List G) (o : Nat) : kpart P t l o = gpart P t l o := by
  unfold kpart
  split
  · rename_i h
    unfold gpart
    rw [h, knth_eq]
  · rfl
noncomputable def kload (P : Program) (σ : Sto) (t : TypeId) : G → Option G
  | .ref i o => match ksget σ i with
    | some ob => kpart P t ob.l o
    | none => none
  | .ptr l o => kpart P t l o
  | _ => none
theorem kload_eq (σ : Sto) (t : TypeId) (g : G) : kload P σ t g = gload P σ t g := by
  cases g with
  | ref i o =>
    show (match ksget σ i with | some ob => kpart P t ob.l o | none => none) = (sget σ i).bind _
    rw [ksget_eq]
    cases sget σ i with
    | none => rfl
    | some ob => exact kpart_eq t ob.l o
  | ptr l o => exact kpart_eq t l o
  | _ => rfl
def faOff (P : Program) (t : TypeId) (k : Nat) : Option Nat := (tfield P t k).bind fun (off, ft) => (tsize P ft).bind fun n => if n = 0 then none else some off
def kaddr (off : Option Nat) (g : G) : Option G := match off with
  | some k => (match g with
    | .ref i o => some (.ref i (o + k))
    | .ptr l o => some (.ptr l (o + k))
    | _ => none)
  | none => none
theorem kaddr_eq {t : TypeId} {k : Nat} {x g : G} (h : kaddr (faOff P t k) x = some g) : gfieldAddr P t k x = some g := by
  unfold kaddr at h
  split at h
  · rename_i off ho
    unfold faOff at ho
    simp only [Option.bind_eq_some_iff] at ho
    obtain ⟨⟨off', ft⟩, h1, n, h2, h3⟩ := ho
    split at h3
    · cases h3
    · rename_i hn
      cases h3
      unfold gfieldAddr
      rw [h1]
      simp only [Option.bind_some, h2, if_neg hn]
      unfold gaddr
      exact h
  · cases h
def esz (P : Program) (t : TypeId) : Option Nat := (telem P t).bind fun e => tsize P e
def kindex (P : Program) (t : TypeId) (x i : G) : Option G := match i with
  | .lit (.int _ (.ofNat m)) => (match x with
    | .rsl j o n => (match esz P t with
      | some s => bif Nat.blt m n then some (.ref j (o + m * s)) else none
      | none => none)
    | .sl l n => (match esz P t with
      | some s => bif Nat.blt m n then (bif Nat.blt (m * s) l.length then some (.ptr l (m * s)) else none) else none
      | none => none)
    | _ => none)
  | _ => none
theorem blt_lt {a b : Nat} (h : Nat.blt a b = true) : a < b := Nat.le_of_ble_eq_true h
theorem kindex_eq {t : TypeId} {x i g : G} (h : kindex P t x i = some g) : (gint i).bind (fun k => gindex P t x k) = some g := by
  unfold kindex at h
  split at h
  · rename_i k m
    show gindex P t x (Int.ofNat m) = some g
    split at h
    · rename_i j o n
      split at h
      · rename_i s hs
        simp only [esz, Option.bind_eq_some_iff] at hs
        obtain ⟨e, he, hs⟩ := hs
        cases hb : Nat.blt m n with
        | false => rw [hb] at h; cases h
        | true =>
          rw [hb] at h
          have hlt := blt_lt hb
          unfold gindex
          rw [he]
          simp only [hs, Option.bind_some]
          rw [if_pos ⟨Int.natCast_nonneg m, Int.ofNat_lt.2 hlt⟩]
          exact h
      · cases h
    · rename_i l n
      split at h
      · rename_i s hs
        simp only [esz, Option.bind_eq_some_iff] at hs
        obtain ⟨e, he, hs⟩ := hs
        cases hb : Nat.blt m n with
        | false => rw [hb] at h; cases h
        | true =>
          rw [hb] at h
          simp only [cond_true] at h
          cases hb2 : Nat.blt (m * s) l.length with
          | false => rw [hb2] at h; cases h
          | true =>
            rw [hb2] at h
            have hlt := blt_lt hb
            have hlt2 := blt_lt hb2
            unfold gindex
            rw [he]
            simp only [hs, Option.bind_some]
            rw [if_pos ⟨Int.natCast_nonneg m, Int.ofNat_lt.2 hlt, hlt2⟩]
            exact h
      · cases h
    · cases h
  · cases h
def klen (P : Program) (t : TypeId) (g : G) : Option G := match telem P t with
  | some _ => (match g with
    | .rsl _ _ n => some (.lit (.int .i64 (Int.ofNat n)))
    | .sl _ n => some (.lit (.int .i64 (Int.ofNat n)))
    | _ => none)
  | none => none
def knot : G → Option G
  | .lit (.bool b) => some (.lit (.bool (!b)))
  | _ => none
def kpick (c x y : G) : Option G := match c with
  | .lit (.bool b) => some (match b with
    | true => x
    | false => y)
  | _ => none
noncomputable def kext (k : Nat) (g : G) : Option G := match g with
  | .tup l => knth l k
  | _ => none
noncomputable def kfield (P : Program) (t : TypeId) (k : Nat) (g : G) : Option G := match g with
  | .agg l => (match tfield P t k with
    | some q => kpart P q.2 l q.1
    | none => none)
  | _ => none
inductive PK where
  | mv (x : Operand)
  | bin (op : BinOp) (x y : Operand)
  | ld (t : TypeId) (x : Operand)
  | fa (off : Option Nat) (x : Operand)
  | ia (t : TypeId) (x y : Operand)
  | ex (k : Nat) (x : Operand)
  | ln (t : TypeId) (x : Operand)
  | nt (x : Operand)
  | pk (c x y : Operand)
  | fd (t : TypeId) (k : Nat) (x : Operand)
  | val
def pkOf (P : Program) : Op → PK
  | .move x => .mv x
  | .assign x => .mv x
  | .binOp op _ x y _ => .bin op x y
  | .load t x => .ld t x
  | .fieldAddr t x k => .fa (faOff P t k) x
  | .indexAddr t x y => .ia t x y
  | .extract x k => .ex k x
  | .call { callee := .builtin .len, args := ⟨[x]⟩, argTypes := ⟨[t]⟩ } => .ln t x
  | .unOp .not _ x => .nt x
  | .pick c x y => .pk c x y
  | .field t x k => .fd t k x
  | _ => .val
noncomputable def kval (P : Program) (gl : List (Nat × List G)) (fr : Fr) (σ : Sto) : PK → Option G
  | .mv x => some (gevF gl fr x)
  | .bin op x y => xbin op (gevF gl fr x) (gevF gl fr y)
  | .ld t x => kload P σ t (gevF gl fr x)
  | .fa off x => kaddr off (gevF gl fr x)
  | .ia t x y => kindex P t (gevF gl fr x) (gevF gl fr y)
  | .ex k x => kext k (gevF gl fr x)
  | .ln t x => klen P t (gevF gl fr x)
  | .nt x => knot (gevF gl fr x)
  | .pk c x y => kpick (gevF gl fr c) (gevF gl fr x) (gevF gl fr y)
  | .fd t k x => kfield P t k (gevF gl fr x)
  | .val => none
theorem kval_xval {E : XEnv} {run : XRun} {o : Oper} {s : St} {fr : Fr} {g : G} (h : kval P s.gl fr s.σ (pkOf P o.op) = some g) : xval P E run o { s with fr := fr } = some g := by
  obtain ⟨dst, op, ty, pos, af, gd⟩ := o
  unfold pkOf at h
  dsimp only at h
  split at h
  · simp only [kval, gevF_eq] at h
    exact h
  · simp only [kval, gevF_eq] at h
    exact h
  · simp only [kval, gevF_eq] at h
    unfold xval
    simp only [h]
  · simp only [kval, gevF_eq, kload_eq] at h
    exact h
  · simp only [kval, gevF_eq] at h
    exact kaddr_eq h
  · simp only [kval, gevF_eq] at h
    exact kindex_eq h
  · rename_i x k
    simp only [kval, gevF_eq] at h
    show (match gev { s with fr := fr } x with | .tup l => l[k]? | _ => none) = some g
    unfold kext at h
    split at h
    · rename_i l hx
      rw [knth_eq] at h
      exact h
    · cases h
  · rename_i x t
    simp only [kval, gevF_eq] at h
    unfold xval
    dsimp only
    unfold klen at h
    split at h
    · rename_i e he
      split at h
      · rename_i i o n hx
        rw [hx]
        have : gmlen P s.σ t (.rsl i o n) = none := by unfold gmlen; split <;> rfl
        rw [this]
        simp only
        rw [ev_len, hx, he]
        exact h
      · rename_i l n hx
        rw [hx]
        have : gmlen P s.σ t (.sl l n) = none := by unfold gmlen; split <;> rfl
        rw [this]
        simp only
        rw [ev_len, hx, he]
        exact h
      · cases h
    · cases h
  · rename_i t x
    simp only [kval, gevF_eq] at h
    unfold xval
    dsimp only
    rw [ev_un]
    unfold knot at h
    split at h
    · rename_i b hx
      rw [hx, gu_not]
      exact h
    · cases h
  · rename_i c x y
    simp only [kval, gevF_eq] at h
    show (gbool (gev { s with fr := fr } c)).map _ = some g
    unfold kpick at h
    split at h
    · rename_i b hc
      rw [hc]
      cases b with
      | true => exact h
      | false => exact h
    · cases h
  · rename_i t x k
    simp only [kval, gevF_eq] at h
    show (match gev { s with fr := fr } x with | .agg l => (tfield P t k).bind fun (off, ft) => gpart P ft l off | _ => none) = some g
    unfold kfield at h
    split at h
    · rename_i l hx
      split at h
      · rename_i q hq
        rw [hq]
        rw [kpart_eq] at h
        exact h
      · cases h
    · cases h
  · cases h
/-- What an operation tells that writes nothing: the light way, else xval. -/
noncomputable def xvalK (P : Program) (E : XEnv) (run : XRun) (o : Oper) (s : St) : Option G := match kval P s.gl s.fr s.σ (pkOf P o.op) with
  | some g => fG E g some
  | none => xval P E run o s
theorem xvalK_spec {E : XEnv} {run : XRun} {o : Oper} {s : St} {g : G} (h : xvalK P E run o s = some g) : xval P E run o s = some g := by
  unfold xvalK at h
  split at h
  · rename_i g' hg
    rw [fG_eq] at h
    cases h
    exact kval_xval hg
  · exact h

theorem xvalK_eq {E : XEnv} {run : XRun} {o : Oper} {s : St} : xvalK P E run o s = xval P E run o s := by
  unfold xvalK
  split
  · rename_i g hg
    rw [fG_eq]
    exact (kval_xval hg).symm
  · rfl

/-! ### regions that write nothing -/
inductive PG where
  | no
  | out
  | at (d : Tmp) (want : Bool)
structure XQO where
  g : PG
  d : Option Tmp
  k : PK
  o : Oper
def pgOf (ops : Array Oper) (o : Oper) : PG := match o.guard with
  | none => .no
  | some (j, want) => match (ops[j]?).bind (·.dst) with
    | some d => .at d want
    | none => .out
def preOps (P : Program) (ops : Array Oper) (l : List Oper) : List XQO := l.map fun o => ⟨pgOf ops o, o.dst, pkOf P o.op, o⟩
noncomputable def gtest (fr : Fr) : PG → Option Bool
  | .no => some true
  | .out => some false
  | .at d want => match kget fr d with
    | .lit (.bool b) => some (b == want)
    | .lit _ => some false
    | _ => none
theorem gtest_eq (s : St) (fr : Fr) (ops : Array Oper) (o : Oper) : gtest fr (pgOf ops o) = gwant { s with fr := fr } ops o := by
  unfold pgOf gwant
  cases o.guard with
  | none => rfl
  | some q =>
    obtain ⟨j, want⟩ := q
    dsimp only
    cases (ops[j]?).bind (·.dst) with
    | none => rfl
    | some d => simp only [gtest, kget_eq]; rfl
def qcons (d : Option Tmp) (g : G) (fr : Fr) : Fr := match d with
  | some d => (d, g) :: fr
  | none => fr
theorem qcons_eq (s : St) (fr : Fr) (d : Option Tmp) (g : G) : { s with fr := qcons d g fr } = ({ s with fr := fr } : St).xput d g := by
  cases d <;> rfl
def qslow (P : Program) (E : XEnv) (run : XRun) (s : St) (o : Oper) (fr : Fr) (k : G → Option Fr) : Option Fr := match xval P E run o { s with fr := fr } with
  | some g => fG E g k
  | none => none
noncomputable def qop (P : Program) (E : XEnv) (run : XRun) (s : St) (x : XQO) (fr : Fr) (k : G → Option Fr) : Option Fr := match kval P s.gl fr s.σ x.k with
  | some g => fG E g k
  | none => qslow P E run s x.o fr k
noncomputable def xrunQ (P : Program) (E : XEnv) (run : XRun) (s : St) (l : List XQO) : Fr → Option Fr := List.rec (fun fr => some fr) (fun x _ ih fr => match gtest fr x.g with
  | some true => qop P E run s x fr fun g => ih (qcons x.d g fr)
  | some false => ih (qcons x.d (.lit undef) fr)
  | none => none) l
theorem qop_spec {E : XEnv} {run : XRun} {s : St} {ops : Array Oper} {o : Oper} {fr : Fr} {k : G → Option Fr} {r : Fr} (h : qop P E run s ⟨pgOf ops o, o.dst, pkOf P o.op, o⟩ fr k = some r) : ∃ g, xval P E run o { s with fr := fr } = some g ∧ k g = some r := by
  unfold qop at h
  split at h
  · rename_i g hg
    rw [fG_eq] at h
    exact ⟨g, kval_xval hg, h⟩
  · unfold qslow at h
    split at h
    · rename_i g hg
      rw [fG_eq] at h
      exact ⟨g, hg, h⟩
    · cases h
theorem xrunQ_frame {E : XEnv} {run : XRun} {s : St} {ops : Array Oper} : ∀ (l : List Oper) (fr fr1 : Fr), xrunQ P E run s (preOps P ops l) fr = some fr1 → ∀ i, (∀ o ∈ l, o.dst ≠ some i) → fget fr1 i = fget fr i
  | [], fr, fr1, h, i, hi => by
    have h : some fr = some fr1 := h
    cases h; rfl
  | o :: r, fr, fr1, h, i, hi => by
    have h : (match gtest fr (pgOf ops o) with
      | some true => qop P E run s ⟨pgOf ops o, o.dst, pkOf P o.op, o⟩ fr fun g => xrunQ P E run s (preOps P ops r) (qcons o.dst g fr)
      | some false => xrunQ P E run s (preOps P ops r) (qcons o.dst (.lit undef) fr)
      | none => none) = some fr1 := h
    have hq : ∀ g, fget (qcons o.dst g fr) i = fget fr i := fun g => by
      cases hd : o.dst with
      | none => rfl
      | some d =>
        show fget ((d, g) :: fr) i = _
        rw [fget_cons, if_neg (fun e => hi o (by simp) (by rw [hd, e]))]
    split at h
    · obtain ⟨g, _, h2⟩ := qop_spec h
      exact (xrunQ_frame r _ _ h2 i fun o ho => hi o (by simp [ho])).trans (hq g)
    · exact (xrunQ_frame r _ _ h i fun o ho => hi o (by simp [ho])).trans (hq _)
    · cases h
def allPure (E : XEnv) (l : List Oper) : Bool := l.all fun o => xpure E o.op
def dokAll (n : Nat) (l : List Oper) : Bool := l.all fun o => dok n o.dst
end
end Go.Proofs.YtfnglmepfjaimaaGreatDoor
