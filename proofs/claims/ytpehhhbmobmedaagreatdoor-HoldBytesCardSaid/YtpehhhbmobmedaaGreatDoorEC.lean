/- Running code on known values: what the kernel runs most, made light. -/
import Derived.Test.YtpehhhbmobmedaaGreatDoorEF
namespace Go.Proofs.YtpehhhbmobmedaaGreatDoor
set_option linter.unusedVariables false
set_option linter.unusedSimpArgs false
set_option linter.unusedSectionVars false
section
open Go.RowKit
section
variable {P:Program}

/-! ### frames -/
noncomputable def kget (fr:Fr) (i:Nat):G:=List.rec G.junk (fun q _ ih => bif Nat.beq q.1 i then q.2 else ih) fr
theorem kget_eq:∀ (fr:Fr) (i:Nat),kget fr i = fget fr i
 | [],i => rfl
 | (d,g) :: r,i => by
  show (bif Nat.beq d i then g else kget r i) = (bif Nat.beq d i then g else fget r i)
  rw [kget_eq r i]
noncomputable def kput (fr:Fr) (d:Nat) (g:G):Fr:=List.rec [(d,g)] (fun q r ih => bif Nat.beq q.1 d then (d,g) :: r else q :: ih) fr
theorem kput_eq:∀ (fr:Fr) (d:Nat) (g:G),kput fr d g = fput fr d g
 | [],d,g => rfl
 | (e,h) :: r,d,g => by
  show (bif Nat.beq e d then (d,g) :: r else (e,h) :: kput r d g) = (bif Nat.beq e d then (d,g) :: r else (e,h) :: fput r d g)
  rw [kput_eq r d g]
/-- Slots below a bound. -/
noncomputable def kcut (lo:Nat) (fr:Fr):Fr:=List.rec [] (fun q _ ih => bif Nat.blt q.1 lo then q :: ih else ih) fr
theorem fget_kcut (lo:Nat):∀ (fr:Fr) (i:Nat),fget (kcut lo fr) i = if i < lo then fget fr i else .junk
 | [],i => by show G.junk = _; split <;> rfl
 | (d,g) :: r,i => by
  show fget (bif Nat.blt d lo then (d,g) :: kcut lo r else kcut lo r) i = _
  cases h:Nat.blt d lo with
  | true =>
   have hd:d < lo:=Nat.le_of_ble_eq_true h
   rw [cond_true,fget_cons,fget_cons,fget_kcut lo r i]
   by_cases e:d = i
   ·subst e; simp [hd]
   ·simp [e]
  | false =>
   have hd:¬ d < lo:=fun x => by rw [show Nat.blt d lo = true from Nat.ble_eq_true_of_le x] at h; cases h
   rw [cond_false,fget_kcut lo r i,fget_cons]
   by_cases e:d = i
   ·subst e; simp [hd]
   ·simp [e]
/-- A frame behind a region: what was ahead of it, below a bound, and what the region leaves. -/
noncomputable def ktrim (ks:List Tmp) (fr1:Fr):Fr → Fr:=List.rec (fun fr => fr) (fun k _ ih fr => ih (kput fr k (kget fr1 k))) ks
theorem fget_ktrim (fr1:Fr) (i:Nat):∀ (ks:List Tmp) (fr:Fr),fget (ktrim ks fr1 fr) i = if i ∈ ks then fget fr1 i else fget fr i
 | [],fr => by show fget fr i = _; simp
 | k :: r,fr => by
  show fget (ktrim r fr1 (kput fr k (kget fr1 k))) i = _
  rw [fget_ktrim fr1 i r,kput_eq,fget_fput,kget_eq]
  by_cases e:k = i
  ·subst e; simp
  ·have:i ≠ k:=fun x => e x.symm
   simp [e,this]
noncomputable def forceFr {α:Type} (fr:Fr):(Fr → α) → α:=List.rec (fun k => k []) (fun q _ ih k => ih fun r => k (q :: r)) fr
theorem forceFr_eq {α:Type}:∀ (fr:Fr) (k:Fr → α),forceFr fr k = k fr
 | [],k => rfl
 | q :: r,k => by
  show forceFr r (fun r => k (q :: r)) = k (q :: r)
  rw [forceFr_eq r]
/-- A slot is forgotten. -/
noncomputable def kdel (d:Nat) (fr:Fr):Fr:=List.rec [] (fun q _ ih => bif Nat.beq q.1 d then ih else q :: ih) fr
theorem fget_kdel (d:Nat):∀ (fr:Fr) (i:Nat),fget (kdel d fr) i = if d = i then .junk else fget fr i
 | [],i => by show G.junk = _; split <;> rfl
 | (e,g) :: r,i => by
  show fget (bif Nat.beq e d then kdel d r else (e,g) :: kdel d r) i = _
  by_cases h:e = d
  ·subst h
   rw [Nat.beq_refl,cond_true,fget_kdel e r i,fget_cons]
   split <;> rfl
  ·have:Nat.beq e d = false:=by
    cases hb:Nat.beq e d with
    | false => rfl
    | true => exact absurd (Nat.eq_of_beq_eq_true hb) h
   rw [this,cond_false,fget_cons,fget_kdel d r i,fget_cons]
   by_cases h1:e = i
   ·subst h1
    have:¬ d = e:=fun x => h x.symm
    simp [this]
   ·simp [h1]
theorem le_fr {st:St} {fr:Fr} (h:∀ i,fget fr i = fget st.fr i ∨ fget fr i = .junk):Le P st { st with fr:=fr }:=by
 rintro cx a w ⟨β,r⟩
 refine ⟨β,{ r with fr:=fun i => ?_ }⟩
 rcases h i with e | e
 ·show RV β _ w (fget fr i) _
  rw [e]; exact r.fr i
 ·show RV β _ w (fget fr i) _
  rw [e]; exact .junk _

/-! ### which slots a region leaves -/
def isAsg:Op → Bool
 | .assign _ | .alloc _ | .box .. | .range .. => true
 | _ => false
def readsAt (l:List Oper) (d:Tmp):Bool:=l.any fun o => o.op.operands.any fun x => match x with
 | .tmp t => Nat.beq t d
 | _ => false
def isHead (l:List Oper):Bool:=l.any fun o => match o.op with
 | .move (.const _) => true
 | _ => false
def keptGo (all:Bool):List Oper → List Tmp
 | [] => []
 | o :: r => match o.dst with
  | some d => bif all || isAsg o.op || !readsAt r d then (bif (keptGo all r).any (Nat.beq d) then keptGo all r else d :: keptGo all r) else keptGo all r
  | none => keptGo all r
def keptOf (l:List Oper):List Tmp:=keptGo (isHead l) l
def lowOf (l:List Oper) (ks:List Tmp):Nat:=l.foldl (fun m o => match o.dst with
 | some d => bif ks.any (Nat.beq d) then m else lmin d m
 | none => m) 1000000
def trimOk (l:List Oper) (ks:List Tmp) (lo:Nat):Bool:=l.all fun o => match o.dst with
 | some d => ks.any (Nat.beq d) || Nat.ble lo d
 | none => true
noncomputable def xtrim (l:List Oper) (fr0 fr1:Fr):Fr:=(fun ks => (fun lo => bif trimOk l ks lo then ktrim ks fr1 (kcut lo fr0) else fr1) (lowOf l ks)) (keptOf l)
theorem fget_xtrim {l:List Oper} {fr0 fr1:Fr} (h:∀ i,(∀ o ∈ l,o.dst ≠ some i) → fget fr1 i = fget fr0 i) (i:Nat):fget (xtrim l fr0 fr1) i = fget fr1 i ∨ fget (xtrim l fr0 fr1) i = .junk:=by
 show fget (bif trimOk l (keptOf l) (lowOf l (keptOf l)) then ktrim (keptOf l) fr1 (kcut (lowOf l (keptOf l)) fr0) else fr1) i = _ ∨ fget (bif trimOk l (keptOf l) (lowOf l (keptOf l)) then ktrim (keptOf l) fr1 (kcut (lowOf l (keptOf l)) fr0) else fr1) i = _
 cases ht:trimOk l (keptOf l) (lowOf l (keptOf l)) with
 | false => exact .inl rfl
 | true =>
  simp only [cond_true]
  rw [fget_ktrim,fget_kcut]
  split
  ·exact .inl rfl
  ·rename_i hk
   split
   ·rename_i hlt
    refine .inl (h i fun o ho hd => ?_).symm
    have:=List.all_eq_true.1 ht o ho
    rw [hd] at this
    simp only [Bool.or_eq_true] at this
    rcases this with h1 | h1
    ·obtain ⟨x,hx,hb⟩:=List.any_eq_true.1 h1
     rw [Nat.eq_of_beq_eq_true hb] at hk
     exact hk hx
    ·have:=Nat.le_of_ble_eq_true h1
     omega
   ·exact .inr rfl

/-! ### values, worked out -/
def forceG {α:Type} (g:G) (k:G → α):α:=match g with
 | .lit v => (match v with
  | .int t n => forceI n fun n => k (.lit (.int t n))
  | .bool b => (match b with
   | true => k (.lit (.bool true))
   | false => k (.lit (.bool false)))
  | v => k (.lit v))
 | .agg l => k (.agg l)
 | .tup l => k (.tup l)
 | .ptr l o => forceN o fun o => k (.ptr l o)
 | .sl l n => forceN n fun n => k (.sl l n)
 | .clo f a b => k (.clo f a b)
 | .ifc t g => k (.ifc t g)
 | .ref i o => forceN i fun i => forceN o fun o => k (.ref i o)
 | .rsl i o n => forceN i fun i => forceN o fun o => forceN n fun n => k (.rsl i o n)
 | .mref i => forceN i fun i => k (.mref i)
 | .yld i => k (.yld i)
 | .junk => k .junk
theorem forceG_eq {α:Type} (g:G) (k:G → α):forceG g k = k g:=by
 unfold forceG
 split
 ·rename_i v
  split
  ·rw [forceI_eq]
  ·rename_i b; cases b <;> rfl
  ·rfl
 all_goals simp only [forceN_eq]
def fG {α:Type} (E:XEnv) (g:G) (k:G → α):α:=bif E.fv then forceG g k else k g
theorem fG_eq {α:Type} (E:XEnv) (g:G) (k:G → α):fG E g k = k g:=by
 unfold fG
 cases E.fv with
 | true => exact forceG_eq g k
 | false => rfl
noncomputable def gevF (gl:List (Nat × List G)) (fr:Fr):Operand → G
 | .tmp t => kget fr t
 | .const v => glit v
 | .global g => (match gl.lookup g with | some l => .ptr l 0 | none => .junk)
 | .func f => .clo (.func f) [] []
theorem gevF_eq (s:St) (fr:Fr) (x:Operand):gevF s.gl fr x = gev { s with fr:=fr } x:=by
 cases x with
 | tmp t => exact kget_eq fr t
 | const v => rfl
 | global g => rfl
 | func f => rfl

/-! ### light ways to common operations -/
noncomputable def ksget (σ:Sto) (i:Nat):Option Ob:=List.rec none (fun q _ ih => bif Nat.beq q.1 i then q.2 else ih) σ
theorem ksget_eq:∀ (σ:Sto) (i:Nat),ksget σ i = sget σ i
 | [],i => rfl
 | (d,g) :: r,i => by
  show (bif Nat.beq d i then g else ksget r i) = (bif Nat.beq d i then g else sget r i)
  rw [ksget_eq r i]
noncomputable def knth (l:List G):Nat → Option G:=List.rec (fun _ => none) (fun x _ ih n => Nat.rec (some x) (fun m _ => ih m) n) l
theorem knth_eq:∀ (l:List G) (n:Nat),knth l n = l[n]?
 | [],n => by simp [knth]
 | x :: r,0 => rfl
 | x :: r,n + 1 => by
  show knth r n = _
  rw [knth_eq r n]; rfl
noncomputable def kpart (P:Program) (t:TypeId) (l:List G) (o:Nat):Option G:=match tagg P t with
 | some false => knth l o
 | _ => gpart P t l o
theorem kpart_eq (t:TypeId) (l:List G) (o:Nat):kpart P t l o = gpart P t l o:=by
 unfold kpart
 split
 ·rename_i h
  unfold gpart
  rw [h,knth_eq]
 ·rfl
noncomputable def kload (P:Program) (σ:Sto) (t:TypeId):G → Option G
 | .ref i o => match ksget σ i with
  | some ob => kpart P t ob.l o
  | none => none
 | .ptr l o => kpart P t l o
 | _ => none
theorem kload_eq (σ:Sto) (t:TypeId) (g:G):kload P σ t g = gload P σ t g:=by
 cases g with
 | ref i o =>
  show (match ksget σ i with | some ob => kpart P t ob.l o | none => none) = (sget σ i).bind _
  rw [ksget_eq]
  cases sget σ i with
  | none => rfl
  | some ob => exact kpart_eq t ob.l o
 | ptr l o => exact kpart_eq t l o
 | _ => rfl
def faOff (P:Program) (t:TypeId) (k:Nat):Option Nat:=(tfield P t k).bind fun (off,ft) => (tsize P ft).bind fun n => if n = 0 then none else some off
def kaddr (off:Option Nat) (g:G):Option G:=match off with
 | some k => (match g with
  | .ref i o => some (.ref i (o + k))
  | .ptr l o => some (.ptr l (o + k))
  | _ => none)
 | none => none
theorem kaddr_eq {t:TypeId} {k:Nat} {x g:G} (h:kaddr (faOff P t k) x = some g):gfieldAddr P t k x = some g:=by
 unfold kaddr at h
 split at h
 ·rename_i off ho
  unfold faOff at ho
  simp only [Option.bind_eq_some_iff] at ho
  obtain ⟨⟨off',ft⟩,h1,n,h2,h3⟩:=ho
  split at h3
  ·cases h3
  ·rename_i hn
   cases h3
   unfold gfieldAddr
   rw [h1]
   simp only [Option.bind_some,h2,if_neg hn]
   unfold gaddr
   exact h
 ·cases h
def esz (P:Program) (t:TypeId):Option Nat:=(telem P t).bind fun e => tsize P e
def kindex (P:Program) (t:TypeId) (x i:G):Option G:=match i with
 | .lit (.int _ (.ofNat m)) => (match x with
  | .rsl j o n => (match esz P t with
   | some s => bif Nat.blt m n then some (.ref j (o + m * s)) else none
   | none => none)
  | .sl l n => (match esz P t with
   | some s => bif Nat.blt m n then (bif Nat.blt (m * s) l.length then some (.ptr l (m * s)) else none) else none
   | none => none)
  | _ => none)
 | _ => none
theorem blt_lt {a b:Nat} (h:Nat.blt a b = true):a < b:=Nat.le_of_ble_eq_true h
theorem kindex_eq {t:TypeId} {x i g:G} (h:kindex P t x i = some g):(gint i).bind (fun k => gindex P t x k) = some g:=by
 unfold kindex at h
 split at h
 ·rename_i k m
  show gindex P t x (Int.ofNat m) = some g
  split at h
  ·rename_i j o n
   split at h
   ·rename_i s hs
    simp only [esz,Option.bind_eq_some_iff] at hs
    obtain ⟨e,he,hs⟩:=hs
    cases hb:Nat.blt m n with
    | false => rw [hb] at h; cases h
    | true =>
     rw [hb] at h
     have hlt:=blt_lt hb
     unfold gindex
     rw [he]
     simp only [hs,Option.bind_some]
     rw [if_pos ⟨Int.natCast_nonneg m,Int.ofNat_lt.2 hlt⟩]
     exact h
   ·cases h
  ·rename_i l n
   split at h
   ·rename_i s hs
    simp only [esz,Option.bind_eq_some_iff] at hs
    obtain ⟨e,he,hs⟩:=hs
    cases hb:Nat.blt m n with
    | false => rw [hb] at h; cases h
    | true =>
     rw [hb] at h
     simp only [cond_true] at h
     cases hb2:Nat.blt (m * s) l.length with
     | false => rw [hb2] at h; cases h
     | true =>
      rw [hb2] at h
      have hlt:=blt_lt hb
      have hlt2:=blt_lt hb2
      unfold gindex
      rw [he]
      simp only [hs,Option.bind_some]
      rw [if_pos ⟨Int.natCast_nonneg m,Int.ofNat_lt.2 hlt,hlt2⟩]
      exact h
   ·cases h
  ·cases h
 ·cases h
def klen (P:Program) (t:TypeId) (g:G):Option G:=match telem P t with
 | some _ => (match g with
  | .rsl _ _ n => some (.lit (.int .i64 (Int.ofNat n)))
  | .sl _ n => some (.lit (.int .i64 (Int.ofNat n)))
  | _ => none)
 | none => none
def knot:G → Option G
 | .lit (.bool b) => some (.lit (.bool (!b)))
 | _ => none
def kpick (c x y:G):Option G:=match c with
 | .lit (.bool b) => some (match b with
  | true => x
  | false => y)
 | _ => none
noncomputable def kext (k:Nat) (g:G):Option G:=match g with
 | .tup l => knth l k
 | _ => none
noncomputable def kfield (P:Program) (t:TypeId) (k:Nat) (g:G):Option G:=match g with
 | .agg l => (match tfield P t k with
  | some q => kpart P q.2 l q.1
  | none => none)
 | _ => none
inductive PK where
 | mv (x:Operand)
 | bin (op:BinOp) (x y:Operand)
 | ld (t:TypeId) (x:Operand)
 | fa (off:Option Nat) (x:Operand)
 | ia (t:TypeId) (x y:Operand)
 | ex (k:Nat) (x:Operand)
 | ln (t:TypeId) (x:Operand)
 | nt (x:Operand)
 | pk (c x y:Operand)
 | fd (t:TypeId) (k:Nat) (x:Operand)
 | val
def pkOf (P:Program):Op → PK
 | .move x => .mv x
 | .assign x => .mv x
 | .binOp op _ x y _ => .bin op x y
 | .load t x => .ld t x
 | .fieldAddr t x k => .fa (faOff P t k) x
 | .indexAddr t x y => .ia t x y
 | .extract x k => .ex k x
 | .call { callee:=.builtin .len,args:=⟨[x]⟩,argTypes:=⟨[t]⟩ } => .ln t x
 | .unOp .not _ x => .nt x
 | .pick c x y => .pk c x y
 | .field t x k => .fd t k x
 | _ => .val
noncomputable def kval (P:Program) (gl:List (Nat × List G)) (fr:Fr) (σ:Sto):PK → Option G
 | .mv x => some (gevF gl fr x)
 | .bin op x y => xbin op (gevF gl fr x) (gevF gl fr y)
 | .ld t x => kload P σ t (gevF gl fr x)
 | .fa off x => kaddr off (gevF gl fr x)
 | .ia t x y => kindex P t (gevF gl fr x) (gevF gl fr y)
 | .ex k x => kext k (gevF gl fr x)
 | .ln t x => klen P t (gevF gl fr x)
 | .nt x => knot (gevF gl fr x)
 | .pk c x y => kpick (gevF gl fr c) (gevF gl fr x) (gevF gl fr y)
 | .fd t k x => kfield P t k (gevF gl fr x)
 | .val => none
theorem kval_xval {E:XEnv} {run:XRun} {o:Oper} {s:St} {fr:Fr} {g:G} (h:kval P s.gl fr s.σ (pkOf P o.op) = some g):xval P E run o { s with fr:=fr } = some g:=by
 obtain ⟨dst,op,ty,pos,af,gd⟩:=o
 unfold pkOf at h
 dsimp only at h
 split at h
 ·simp only [kval,gevF_eq] at h
  exact h
 ·simp only [kval,gevF_eq] at h
  exact h
 ·simp only [kval,gevF_eq] at h
  unfold xval
  simp only [h]
 ·simp only [kval,gevF_eq,kload_eq] at h
  exact h
 ·simp only [kval,gevF_eq] at h
  exact kaddr_eq h
 ·simp only [kval,gevF_eq] at h
  exact kindex_eq h
 ·rename_i x k
  simp only [kval,gevF_eq] at h
  show (match gev { s with fr:=fr } x with | .tup l => l[k]? | _ => none) = some g
  unfold kext at h
  split at h
  ·rename_i l hx
   rw [knth_eq] at h
   exact h
  ·cases h
 ·rename_i x t
  simp only [kval,gevF_eq] at h
  unfold xval
  dsimp only
  unfold klen at h
  split at h
  ·rename_i e he
   split at h
   ·rename_i i o n hx
    rw [hx]
    have:gmlen P s.σ t (.rsl i o n) = none:=by unfold gmlen; split <;> rfl
    rw [this]
    simp only
    rw [ev_len,hx,he]
    exact h
   ·rename_i l n hx
    rw [hx]
    have:gmlen P s.σ t (.sl l n) = none:=by unfold gmlen; split <;> rfl
    rw [this]
    simp only
    rw [ev_len,hx,he]
    exact h
   ·cases h
  ·cases h
 ·rename_i t x
  simp only [kval,gevF_eq] at h
  unfold xval
  dsimp only
  rw [ev_un]
  unfold knot at h
  split at h
  ·rename_i b hx
   rw [hx,gu_not]
   exact h
  ·cases h
 ·rename_i c x y
  simp only [kval,gevF_eq] at h
  show (gbool (gev { s with fr:=fr } c)).map _ = some g
  unfold kpick at h
  split at h
  ·rename_i b hc
   rw [hc]
   cases b with
   | true => exact h
   | false => exact h
  ·cases h
 ·rename_i t x k
  simp only [kval,gevF_eq] at h
  show (match gev { s with fr:=fr } x with | .agg l => (tfield P t k).bind fun (off,ft) => gpart P ft l off | _ => none) = some g
  unfold kfield at h
  split at h
  ·rename_i l hx
   split at h
   ·rename_i q hq
    rw [hq]
    rw [kpart_eq] at h
    exact h
   ·cases h
  ·cases h
 ·cases h
/-- What an operation tells that writes nothing: the light way, else xval. -/
noncomputable def xvalK (P:Program) (E:XEnv) (run:XRun) (o:Oper) (s:St):Option G:=match kval P s.gl s.fr s.σ (pkOf P o.op) with
 | some g => fG E g some
 | none => xval P E run o s
theorem xvalK_spec {E:XEnv} {run:XRun} {o:Oper} {s:St} {g:G} (h:xvalK P E run o s = some g):xval P E run o s = some g:=by
 unfold xvalK at h
 split at h
 ·rename_i g' hg
  rw [fG_eq] at h
  cases h
  exact kval_xval hg
 ·exact h

theorem xvalK_eq {E:XEnv} {run:XRun} {o:Oper} {s:St}:xvalK P E run o s = xval P E run o s:=by
 unfold xvalK
 split
 ·rename_i g hg
  rw [fG_eq]
  exact (kval_xval hg).symm
 ·rfl

/-! ### regions that write nothing -/
inductive PG where
 | no
 | out
 | at (d:Tmp) (want:Bool)
structure XQO where
 g:PG
 d:Option Tmp
 k:PK
 o:Oper
def pgOf (ops:Array Oper) (o:Oper):PG:=match o.guard with
 | none => .no
 | some (j,want) => match (ops[j]?).bind (·.dst) with
  | some d => .at d want
  | none => .out
def preOps (P:Program) (ops:Array Oper) (l:List Oper):List XQO:=l.map fun o => ⟨pgOf ops o,o.dst,pkOf P o.op,o⟩
noncomputable def gtest (fr:Fr):PG → Option Bool
 | .no => some true
 | .out => some false
 | .at d want => match kget fr d with
  | .lit (.bool b) => some (b == want)
  | .lit _ => some false
  | _ => none
theorem gtest_eq (s:St) (fr:Fr) (ops:Array Oper) (o:Oper):gtest fr (pgOf ops o) = gwant { s with fr:=fr } ops o:=by
 unfold pgOf gwant
 cases o.guard with
 | none => rfl
 | some q =>
  obtain ⟨j,want⟩:=q
  dsimp only
  cases (ops[j]?).bind (·.dst) with
  | none => rfl
  | some d => simp only [gtest,kget_eq]; rfl
def qcons (d:Option Tmp) (g:G) (fr:Fr):Fr:=match d with
 | some d => (d,g) :: fr
 | none => fr
theorem qcons_eq (s:St) (fr:Fr) (d:Option Tmp) (g:G):{ s with fr:=qcons d g fr } = ({ s with fr:=fr }:St).xput d g:=by
 cases d <;> rfl
def qslow (P:Program) (E:XEnv) (run:XRun) (s:St) (o:Oper) (fr:Fr) (k:G → Option Fr):Option Fr:=match xval P E run o { s with fr:=fr } with
 | some g => fG E g k
 | none => none
noncomputable def qop (P:Program) (E:XEnv) (run:XRun) (s:St) (x:XQO) (fr:Fr) (k:G → Option Fr):Option Fr:=match kval P s.gl fr s.σ x.k with
 | some g => fG E g k
 | none => qslow P E run s x.o fr k
noncomputable def xrunQ (P:Program) (E:XEnv) (run:XRun) (s:St) (l:List XQO):Fr → Option Fr:=List.rec (fun fr => some fr) (fun x _ ih fr => match gtest fr x.g with
 | some true => qop P E run s x fr fun g => ih (qcons x.d g fr)
 | some false => ih (qcons x.d (.lit undef) fr)
 | none => none) l
theorem qop_spec {E:XEnv} {run:XRun} {s:St} {ops:Array Oper} {o:Oper} {fr:Fr} {k:G → Option Fr} {r:Fr} (h:qop P E run s ⟨pgOf ops o,o.dst,pkOf P o.op,o⟩ fr k = some r):∃ g,xval P E run o { s with fr:=fr } = some g ∧ k g = some r:=by
 unfold qop at h
 split at h
 ·rename_i g hg
  rw [fG_eq] at h
  exact ⟨g,kval_xval hg,h⟩
 ·unfold qslow at h
  split at h
  ·rename_i g hg
   rw [fG_eq] at h
   exact ⟨g,hg,h⟩
  ·cases h
theorem xrunQ_frame {E:XEnv} {run:XRun} {s:St} {ops:Array Oper}:∀ (l:List Oper) (fr fr1:Fr),xrunQ P E run s (preOps P ops l) fr = some fr1 → ∀ i,(∀ o ∈ l,o.dst ≠ some i) → fget fr1 i = fget fr i
 | [],fr,fr1,h,i,hi => by
  have h:some fr = some fr1:=h
  cases h; rfl
 | o :: r,fr,fr1,h,i,hi => by
  have h:(match gtest fr (pgOf ops o) with
   | some true => qop P E run s ⟨pgOf ops o,o.dst,pkOf P o.op,o⟩ fr fun g => xrunQ P E run s (preOps P ops r) (qcons o.dst g fr)
   | some false => xrunQ P E run s (preOps P ops r) (qcons o.dst (.lit undef) fr)
   | none => none) = some fr1:=h
  have hq:∀ g,fget (qcons o.dst g fr) i = fget fr i:=fun g => by
   cases hd:o.dst with
   | none => rfl
   | some d =>
    show fget ((d,g) :: fr) i = _
    rw [fget_cons,if_neg (fun e => hi o (by simp) (by rw [hd,e]))]
  split at h
  ·obtain ⟨g,_,h2⟩:=qop_spec h
   exact (xrunQ_frame r _ _ h2 i fun o ho => hi o (by simp [ho])).trans (hq g)
  ·exact (xrunQ_frame r _ _ h i fun o ho => hi o (by simp [ho])).trans (hq _)
  ·cases h
def allPure (E:XEnv) (l:List Oper):Bool:=l.all fun o => xpure E o.op
def dokAll (n:Nat) (l:List Oper):Bool:=l.all fun o => dok n o.dst
end
end
section
open Go.RowKit
section
variable {P:Program}
theorem gs_lendR {o:Oper} {st:St} {f:Operand} {xs:Array Operand} {ats:Array TypeId} {fid:FuncId} {fst cap gs:List G} {t:TypeId} {m:Nat} {l:List G} (ho:o.op = .call { callee:=.value f,args:=xs,argTypes:=ats }) (hd:∀ d,o.dst = some d → d < st.n) (hf:gev st f = .clo (.func fid) fst cap) (hc:callable P fid = true)
  (hl:gs.length = (fst ++ xs.toList.map (gev st) ++ cap).length) (hi:∀ (i:Nat) (g g':G),(fst ++ xs.toList.map (gev st) ++ cap)[i]? = some g → gs[i]? = some g' → Frz P st g g') (hF:FnR P st.gl fid gs t m l) (hlit:∀ g ∈ l,∃ v,g = .lit v) :
  GS P o st ({ st with σ:=(st.c,some ⟨t,l,none⟩) :: st.σ,c:=st.c + 1 }.put o.dst (.rsl st.c 0 m)):=by
 intro cx a w K R ⟨β,h⟩ hK
 obtain ⟨vs,hrun,hsz,hv⟩:=run_call h ho hf hc
 refine h.loose.oper (fun c hc => by rw [ho] at hc; cases hc) ?_
 unfold Oper.wp
 rw [hrun]
 have hav:∀ b,Av cx.S0 (fun _ => none) [] b → cx.S0 b:=by
  rintro b (hx | ⟨i,ob,C,hob,_⟩)
  ·exact hx
  ·cases hob
 refine (hF w (fun _ => none) cx.S0 vs (fun b hb => h.keep.lt (h.old b hb)) (fun _ _ => rfl) (fun g l hl => (h.glob g l hl).sub fun b _ x => .inl (hav b x)) ⟨fun i o ho => by (cases ho),fun i j o o' b C D ho => by (cases ho),fun i o b C ho => by (cases ho)⟩ (by omega) (fun i g u hg hu => ?_)).mono ?_
 ·have hlt:=(List.getElem?_eq_some_iff.1 hg).1
  have hx:(fst ++ xs.toList.map (gev st) ++ cap)[i]? = some ((fst ++ xs.toList.map (gev st) ++ cap)[i]'(by omega)):=by rw [List.getElem?_eq_getElem]
  exact .imm _ _ ((hi i _ g hx hg cx a w β h u (hv i _ u hx hu)).sub fun b _ x => hav b x)
 ·rintro e w' ⟨v,β',rfl,hp⟩
  have hkeep:Keeps (fun _ => False) w w':=hp.keep.mono (by rintro k _ ⟨i,ob,C,hob,_⟩; cases hob)
  have hob:=hp.rs.ob 0 _ rfl
  have hval:=hp.val
  rcases hob with ⟨h1,h2,_⟩ | ⟨b,x,o',h1,_⟩ | ⟨b,C,cur,_,h1,h2,h3,h4,h5,h6⟩
  ·obtain ⟨hv0,hm0⟩:v = .slice none 0 0 ∧ m = 0:=by
    rcases hval.rsl_form with ⟨_,e1,e2⟩ | ⟨b,C,o',cap,e1,_⟩
    ·exact ⟨e1,e2⟩
    ·rw [h1] at e1; cases e1
   subst hv0; subst hm0
   have hl0:l = []:=h2
   subst hl0
   exact hK _ _ ⟨_,((h.world hkeep).virt t (Nat.le_refl _)).put o.dst hd (.rsl0 _ _ (by simp))⟩
  ·cases h1
  ·have hb:w.heap.size ≤ b:=by
    rcases hp.old b ⟨0,_,C,rfl,h1⟩ with ⟨i,ob,D,hob,_⟩ | hb
    ·cases hob
    ·exact hb
   have hrel:=h.alloc (k:=st.c) (ob:=⟨t,l,none⟩) hkeep hb h2 h3 h4 h5 rfl (fun j g hj => by
    obtain ⟨u,hu,h7,h8⟩:=h6 j g hj
    obtain ⟨v',rfl⟩:=hlit g (List.mem_of_getElem? hj)
    exact ⟨u,hu,h7,by rw [h8.lit_eq]; exact .imm _ _ (.lit _)⟩) (Nat.le_refl _)
   refine hK _ _ ⟨_,hrel.put o.dst hd ?_⟩
   rcases hval.rsl_form with ⟨_,rfl,rfl⟩ | ⟨b',C',o',cap,e1,rfl,e3,e4,e5,e6⟩
   ·exact .rsl0 _ _ (by simp)
   ·rw [h1] at e1
    cases e1
    exact .rsl _ _ _ b C o' cap (by simp) e3 e4 e5 e6

def KfSem (P:Program) (fid:FuncId) (gs:List G) (gl:List (Nat × List G)) (R:List Nat) (σR:Sto) (c:Nat) (x:XF):Prop :=
 ∀ (o:Oper) (st:St) (y:Operand) (xs:Array Operand) (ats:Array TypeId) (fst cap:List G),o.op = .call { callee:=.value y,args:=xs,argTypes:=ats } → (∀ d,o.dst = some d → d < st.n) → gev st y = .clo (.func fid) fst cap → fst ++ xs.toList.map (gev st) ++ cap = gs → st.gl = gl → xmark st.σ 0 1000000 gs [] = R → (R.map fun i => (i,sget st.σ i)) = σR → st.c = c →
  BGF P o st x.1 x.2.1 x.2.2.1 x.2.2.2.1 x.2.2.2.2 ∧ x.2.2.2.1 = true
theorem xcallFR_cu {run:XRun} {fid:FuncId} {gs:List G} {gl:List (Nat × List G)} {R:List Nat} {σR:Sto} {c:Nat} {x:XF} (h:xcallFR P run fid gs gl R σR c = some x):x.2.2.2.1 = true:=by
 unfold xcallFR at h
 split at h
 ·split at h
  ·cases hcond:(callable P fid && Nat.ble gs.length _) with
   | false => rw [hcond] at h; cases h
   | true =>
    rw [hcond] at h
    simp only [cond_true] at h
    split at h
    ·rename_i m _
     have hall:=xfAll_spec h
     cases m with
     | nil => cases h
     | cons q r =>
      have:=hall q List.mem_cons_self
      unfold xfOne at this
      split at this
      ·simp only [Option.some.injEq] at this
       rw [← this]
      ·cases this
    ·cases h
  ·cases h
 ·cases h
theorem kfSem_run {run:XRun} (hr:RunOk P run) {fid:FuncId} {gs:List G} {gl:List (Nat × List G)} {R:List Nat} {σR:Sto} {c:Nat} {x:XF} (h:xcallFR P run fid gs gl R σR c = some x):KfSem P fid gs gl R σR c x:=by
 intro o st y xs ats fst cap ho hd hy hgs hgl hR hσ hc
 subst hgs; subst hgl; subst hc; subst hR; subst hσ
 exact ⟨xcallF_bg (g:=x.1) (U:=x.2.1) (R:=x.2.2.1) (cu:=x.2.2.2.1) (c:=x.2.2.2.2) hr ho hd hy (by unfold xcallF; exact h),xcallFR_cu h⟩
end
end
section
open Go.RowKit
section
variable {P:Program}

/-! ### what an operation leaves as it was -/
theorem sget_sput_lt {σ:Sto} {i j:Nat} {ob:Option Ob} (h:j < i):sget (sput σ i ob) j = sget σ j:=by rw [sget_sput,if_neg (by omega)]
theorem sget_cons_lt {σ:Sto} {i j:Nat} {ob:Option Ob} (h:j < i):sget ((i,ob) :: σ) j = sget σ j:=by rw [sget_cons,if_neg (by omega)]
theorem xcallR_inv {run:XRun} (hr:RunOk P run) {fid:FuncId} {gs:List G} {gl:List (Nat × List G)} {σ:Sto} {c:Nat} {l:List XR} (h:xcallR P run fid gs gl σ c = some l):∀ q ∈ l,∀ i,i < q.2.2.2 → sget q.2.1 i = sget σ i:=by
 unfold xcallR at h
 split at h
 ·rename_i fn hfn
  split at h
  ·rename_i body hb
   cases hcond:(callable P fid && Nat.ble gs.length fn.ntmps) with
   | false => rw [hcond] at h; cases h
   | true =>
    rw [hcond] at h
    simp only [cond_true] at h
    split at h
    ·rename_i m hm
     obtain ⟨l0,h',hl⟩:=Option.map_eq_some_iff.1 h
     obtain ⟨_,h2⟩:=optFlat_spec h'
     intro q hq
     obtain ⟨x,hx,r,hr1,hq2⟩:=h2 q (xdedup_mem.1 q (by rw [hl]; exact hq))
     split at hr1
     ·cases hr1
      obtain rfl:=List.mem_singleton.1 hq2
      exact xgc_low (hr.inv _ _ _ _ hm x hx).2.2
     ·cases hr1
    ·cases h
  ·cases h
 ·cases h
theorem xroundR_inv {run:XRun} (hr:RunOk P run) {k:Nat} {xs:List G} {gl:List (Nat × List G)} {σ:Sto} {c:Nat} {l:List XR} (h:xroundR P run k xs gl σ c = some l):∀ q ∈ l,∀ i,i < q.2.2.2 → sget q.2.1 i = sget σ i:=by
 unfold xroundR at h
 split at h
 ·rename_i t pe n fr ps as bd hob
  cases hcond:(Nat.beq xs.length ps.size && nlt n ps.toList) with
  | false => rw [hcond] at h; cases h
  | true =>
   rw [hcond] at h
   simp only [cond_true] at h
   split at h
   ·rename_i m hm
    obtain ⟨_,h2⟩:=optFlat_spec h
    intro q hq
    obtain ⟨x,hx,r,hr1,hq2⟩:=h2 q hq
    obtain ⟨_,a1,a2⟩:=hr.inv _ _ _ _ hm x hx
    split at hr1
    ·split at hr1
     ·rename_i l2 hl2
      obtain ⟨_,g2⟩:=optFlat_spec hr1
      obtain ⟨y,hy,r2,hr2,hq3⟩:=g2 q hq2
      obtain ⟨_,b1,b2⟩:=hr.inv _ _ _ _ hl2 y hy
      split at hr2
      ·cases hr2
       obtain rfl:=List.mem_singleton.1 hq3
       intro i hi
       have hi1:i < k:=Nat.lt_of_lt_of_le hi (lmin_l _ _)
       have hi2:i < y.2.2:=Nat.lt_of_lt_of_le hi (lmin_r _ _)
       show sget (sput y.2.1.σ k _) i = _
       rw [sget_sput_lt hi1,b2 i hi2]
       show sget (sput x.2.1.σ k _) i = _
       rw [sget_sput_lt hi1,a2 i (Nat.lt_of_lt_of_le hi2 b1)]
      ·cases hr2
     ·cases hr1
    ·cases hr1
   ·cases h
 ·cases h
theorem xeff_inv {run:XRun} (hr:RunOk P run) {o:Oper} {st:St} {l:List XR} (h:xeff P run o st = some l):∀ q ∈ l,∀ i,i < q.2.2.2 → sget q.2.1 i = sget st.σ i:=by
 obtain ⟨dst,op,ty,pos,af,gd⟩:=o
 have one:∀ {g:G} {σ:Sto} {c lo:Nat},(∀ i,i < lo → sget σ i = sget st.σ i) → ∀ q ∈ [((g,σ,c,lo):XR)],∀ i,i < q.2.2.2 → sget q.2.1 i = sget st.σ i:=fun h q hq => by
  obtain rfl:=List.mem_singleton.1 hq
  exact h
 unfold xeff at h
 dsimp only at h
 split at h
 ·simp only [Option.map_eq_some_iff] at h
  obtain ⟨⟨e,l⟩,hg,rfl⟩:=h
  exact one fun i hi => sget_cons_lt hi
 ·simp only [Option.map_eq_some_iff] at h
  obtain ⟨⟨e,l,n⟩,hg,rfl⟩:=h
  exact one fun i hi => sget_cons_lt hi
 ·simp only [Option.map_eq_some_iff] at h
  obtain ⟨l,hg,rfl⟩:=h
  exact one fun i hi => sget_cons_lt hi
 ·simp only [Option.map_eq_some_iff] at h
  obtain ⟨l,hg,rfl⟩:=h
  exact one fun i hi => sget_cons_lt hi
 ·simp only [Option.map_eq_some_iff] at h
  obtain ⟨⟨i,ob⟩,hg,rfl⟩:=h
  exact one fun i hi => sget_sput_lt hi
 ·split at h
  ·exact xcallR_inv hr h
  ·exact xroundR_inv hr h
  ·cases h
 ·simp only [Option.map_eq_some_iff] at h
  obtain ⟨⟨e,k,m,l⟩,hg,rfl⟩:=h
  refine one fun i hi => ?_
  have h1:=Nat.lt_of_lt_of_le hi (lmin_l _ _)
  have h2:=Nat.lt_of_lt_of_le hi (lmin_r _ _)
  rw [sget_cons_lt h2,sget_sdel,if_neg (by omega)]
 ·simp only [Option.map_eq_some_iff] at h
  obtain ⟨⟨i,ob⟩,hg,rfl⟩:=h
  exact one fun i hi => sget_sput_lt hi
 ·simp only [Option.map_eq_some_iff] at h
  obtain ⟨⟨i,ob⟩,hg,rfl⟩:=h
  exact one fun i hi => sget_sput_lt hi
 ·simp only [Option.map_eq_some_iff] at h
  obtain ⟨⟨i,ob,n⟩,hg,rfl⟩:=h
  exact one fun i hi => sget_sput_lt hi
 ·rename_i t r
  cases hg:gmakeMap P t (r.map (gev st)) with
  | false => rw [hg] at h; cases h
  | true =>
   rw [hg] at h
   cases h
   exact one fun i hi => sget_cons_lt hi
 ·simp only [Option.map_eq_some_iff] at h
  obtain ⟨⟨i,ob⟩,hg,rfl⟩:=h
  exact one fun i hi => sget_sput_lt hi
 ·simp only [Option.map_eq_some_iff] at h
  obtain ⟨⟨i,ob⟩,hg,rfl⟩:=h
  exact one fun i hi => sget_sput_lt hi
 ·simp only [Option.map_eq_some_iff] at h
  obtain ⟨⟨i,ob,g⟩,hg,rfl⟩:=h
  exact one fun i hi => sget_sput_lt hi
 ·simp only [Option.map_eq_some_iff] at h
  obtain ⟨⟨i,ob⟩,hg,rfl⟩:=h
  exact one fun i hi => sget_sput_lt hi
 ·simp only [Option.map_eq_some_iff] at h
  obtain ⟨ob,hg,rfl⟩:=h
  exact one fun i hi => sget_cons_lt hi
 ·split at h
  ·cases h
   exact one fun i hi => rfl
  ·split at h
   ·rename_i i t j since seen last hi _ _ _ es clock hm
    cases hok:gnextOk es seen last with
    | false => rw [hok] at h; cases h
    | true =>
     rw [hok] at h
     cases h
     intro q hq k hk
     obtain ⟨x,_,rfl⟩:=List.mem_map.1 hq
     cases x with
     | none => rfl
     | some y => exact sget_sput_lt hk
   ·cases h
  ·cases h
 ·cases h
theorem xeff_congr {run:XRun} {o:Oper} {st st':St} (hgl:st'.gl = st.gl) (hσ:st'.σ = st.σ) (hc:st'.c = st.c) (hx:∀ x ∈ o.op.operands,gev st' x = gev st x):xeff P run o st' = xeff P run o st:=by
 obtain ⟨dst,op,ty,pos,af,gd⟩:=o
 unfold xeff
 dsimp only
 rw [hσ,hc,hgl]
 split
 ·rw [ops_mem (fun x hx' => hx x (by simpa [Op.operands] using hx'))]
 ·rename_i t x y
  rw [hx x (by simp [Op.operands]),hx y (by simp [Op.operands])]
 ·rename_i t x
  rw [hx x (by simp [Op.operands])]
 ·rfl
 ·rename_i t x y
  rw [hx x (by simp [Op.operands]),hx y (by simp [Op.operands])]
 ·rename_i x xs ats
  rw [hx x (by simp [Op.operands,Call.operands]),arg_mem (fun y hy => hx y (by simp [Op.operands,Call.operands,hy]))]
 ·rename_i x y t u
  rw [hx x (by simp [Op.operands,Call.operands]),hx y (by simp [Op.operands,Call.operands])]
 ·rename_i x y t u
  rw [hx x (by simp [Op.operands,Call.operands]),hx y (by simp [Op.operands,Call.operands])]
 ·rename_i x t
  rw [hx x (by simp [Op.operands,Call.operands])]
 ·rename_i x y t u
  rw [hx x (by simp [Op.operands,Call.operands]),hx y (by simp [Op.operands,Call.operands])]
 ·rename_i t r
  cases r with
  | none => rfl
  | some x => simp only [Option.map_some]; rw [hx x (by simp [Op.operands])]
 ·rename_i t x y z
  rw [hx x (by simp [Op.operands]),hx y (by simp [Op.operands]),hx z (by simp [Op.operands])]
 ·rename_i t x y z
  rw [hx x (by simp [Op.operands]),hx y (by simp [Op.operands]),hx z (by simp [Op.operands])]
 ·rename_i t x y
  rw [hx x (by simp [Op.operands]),hx y (by simp [Op.operands])]
 ·rename_i t x y z
  rw [hx x (by simp [Op.operands]),hx y (by simp [Op.operands]),hx z (by simp [Op.operands])]
 ·rename_i t x
  rw [hx x (by simp [Op.operands])]
 ·rename_i x
  rw [hx x (by simp [Op.operands])]
 ·rfl

/-! ### calls that are known -/
def KcOk (P:Program) (E:XEnv):Prop:=(∀ fid gs gl σ c l,E.kc fid gs gl σ c = some l → ∃ run,RunOk P run ∧ xcallR P run fid gs gl σ c = some l) ∧ ∀ fid gs gl R σ c x,E.kcF fid gs gl R σ c = some x → KfSem P fid gs gl R σ c x
def xeffC (P:Program) (E:XEnv) (run:XRun) (o:Oper) (st:St) (fid:FuncId) (gs:List G):Option (List XR):=match E.kc fid gs st.gl st.σ st.c with
 | some l => some l
 | none => xeff P run o st
def xeffK (P:Program) (E:XEnv) (run:XRun) (o:Oper) (st:St):Option (List XR):=match o.op with
 | .call { callee:=.value x,args:=xs,argTypes:=_ } => match gev st x with
  | .clo (.func fid) fst cap => xeffC P E run o st fid (fst ++ xs.toList.map (gev st) ++ cap)
  | _ => xeff P run o st
 | _ => xeff P run o st
theorem xeffK_as {E:XEnv} {run:XRun} (hr:RunOk P run) (hk:KcOk P E) {o:Oper} {st:St} {l:List XR} (h:xeffK P E run o st = some l):∃ run',RunOk P run' ∧ xeff P run' o st = some l:=by
 unfold xeffK at h
 split at h
 ·rename_i x xs ats ho
  split at h
  ·rename_i fid fst cap hx
   unfold xeffC at h
   split at h
   ·rename_i l' hl
    cases h
    obtain ⟨run',hr',h'⟩:=hk.1 _ _ _ _ _ _ hl
    refine ⟨run',hr',?_⟩
    obtain ⟨dst,op,ty,pos,af,gd⟩:=o
    obtain rfl:op = _:=ho
    unfold xeff
    simp only [hx]
    exact h'
   ·exact ⟨run,hr,h⟩
  ·exact ⟨run,hr,h⟩
 ·exact ⟨run,hr,h⟩

def xcallKR (P:Program) (E:XEnv) (run:XRun) (fid:FuncId) (gs:List G) (gl:List (Nat × List G)) (R:List Nat) (σR:Sto) (c:Nat):Option XF:=match E.kcF fid gs gl R σR c with
 | some x => some x
 | none => xcallFR P run fid gs gl R σR c
def xcallKF (P:Program) (E:XEnv) (run:XRun) (fid:FuncId) (gs:List G) (st:St):Option XF:=(fun R => xcallKR P E run fid gs st.gl R (R.map fun i => (i,sget st.σ i)) st.c) (xmark st.σ 0 1000000 gs [])
def xeffKF (P:Program) (E:XEnv) (run:XRun) (o:Oper) (st:St) (k:Nat):Option XF:=match o.op with
 | .call { callee:=.value x,args:=xs,argTypes:=_ } => match gev st x with
  | .clo (.func fid) fst cap => xcallKF P E run fid (fst ++ xs.toList.map (gev st) ++ cap) st
  | _ => none
 | _ => xeffF P run o st k
theorem xeffKF_bg {E:XEnv} {run:XRun} (hr:RunOk P run) (hk:KcOk P E) {o:Oper} {st:St} {k:Nat} {g:G} {U:Sto} {R:List Nat} {cu:Bool} {c:Nat} (hd:∀ d,o.dst = some d → d < st.n) (h:xeffKF P E run o st k = some (g,U,R,cu,c)):BGF P o st g U R cu c ∧ (cu = false → c = st.c):=by
 unfold xeffKF at h
 split at h
 ·rename_i x xs ats ho
  obtain ⟨dst,op,ty,pos,af,gd⟩:=o
  obtain rfl:op = _:=ho
  split at h
  ·rename_i fid fst cap hx
   unfold xcallKF xcallKR at h
   dsimp only at h
   split at h
   ·rename_i x hl
    cases h
    obtain ⟨h1,h2⟩:=hk.2 _ _ _ _ _ _ _ hl _ st _ _ _ _ _ rfl hd hx rfl rfl rfl rfl rfl
    have h2:cu = true:=h2
    exact ⟨h1,fun hf => by rw [hf] at h2; cases h2⟩
   ·refine xeffF_bg hr hd (k:=k) ?_
    unfold xeffF
    simp only [hx]
    exact h
  ·cases h
 ·exact xeffF_bg hr hd h

/-! ### regions in the text's order -/
def RunN (P:Program) (ops:Array Oper) (K:St → Prop):List Oper → St → Prop
 | [],st => K st
 | o :: rest,st => (gwant st ops o = some true ∧ GSn P o st (RunN P ops K rest)) ∨ (gwant st ops o = some false ∧ (∀ d,o.dst = some d → d < st.n) ∧ RunN P ops K rest (st.put o.dst (.lit undef)))
theorem runN_sound {ops:Array Oper} {K:St → Prop} {cx:Cx} {Q:Exit → Act → World → Prop} (hK:∀ st a w,K st → Rel P cx st a w → Q .normal a w):∀ (l:List Oper) (st:St) (a:Act) (w:World),RunN P ops K l st → Rel P cx st a w → wpListIn cx.F cx.nn P ops Q l a w
 | [],st,a,w,h,r => wpListIn_nil (hK st a w h r)
 | o :: rest,st,a,w,h,r => by
  obtain ⟨β,rb⟩:=r
  rcases h with ⟨hg,hs⟩ | ⟨hg,hd,hr⟩
  ·refine wpListIn_step fun K' hK' => ?_
   rw [if_pos (gwant_spec rb hg)]
   exact hs cx a w K' Q ⟨β,rb⟩ fun s hs' a' w' r' => hK' _ _ (runN_sound hK rest s a' w' hs' r')
  ·refine wpListIn_step fun K' hK' => ?_
   rw [if_neg (by rw [gwant_spec rb hg]; simp)]
   exact ⟨fun f _ => rb.loose.fn f,hK' _ _ (runN_sound hK rest _ _ w hr ⟨β,rb.put o.dst hd (.imm _ _ (.lit _))⟩)⟩
theorem tr_regionN {id:Nat} {l:List Oper} {st:St} {Q:Exit → St → Prop} (h:RunN P l.toArray (Q .normal) l st):Tr P (.region id l.toArray false) st Q:=fun cx a w R r k =>
 wpIn_region_lit (runN_sound (fun st' a' w' q r' => k _ st' a' w' q r') l st a w h r)
noncomputable def xrun (P:Program) (E:XEnv) (run:XRun) (ops:Array Oper):List Oper → St → Nat → Option (List (St × Nat))
 | [],s,low => some [(s,low)]
 | o :: r,s,low => match gwant s ops o with
  | some true => bif dok s.n o.dst then
    (bif xpure E o.op then (match xvalK P E run o s with
     | some g => xrun P E run ops r (s.xput o.dst g) low
     | none => none)
    else match xeffK P E run o s with
     | some l => optFlat (fun q => forceN q.2.2.1 fun c => forceN (lmin low q.2.2.2) fun low' => xrun P E run ops r ({ s with σ:=q.2.1,c:=c }.xput o.dst q.1) low') l
     | none => none)
   else none
  | some false => bif dok s.n o.dst then xrun P E run ops r (s.xput o.dst (.lit undef)) low else none
  | none => none
theorem Eqv.want {st s:St} (e:Eqv st s) (ops:Array Oper) (o:Oper):gwant s ops o = gwant st ops o:=by
 unfold gwant
 split
 ·rfl
 ·split
  ·rw [e.fr]
  ·rfl
theorem GSn.le {o:Oper} {st s:St} {S:St → Prop} (h:GSn P o s S) (l:Le P st s):GSn P o st S:=fun cx a w K R r k => h cx a w K R (l cx a w r) k
theorem xrun_sound {E:XEnv} {run:XRun} (hr:RunOk P run) (ht:PureOk P E.tp) (hk:KcOk P E) {ops:Array Oper}:∀ (l:List Oper) (s:St) (low:Nat) (L:List (St × Nat)),xrun P E run ops l s low = some L → ∀ st,Eqv st s → RunN P ops (fun s' => ∃ q ∈ L,Eqv s' q.1) l st
 | [],s,low,L,h,st,e => by
  simp only [xrun,Option.some.injEq] at h
  subst h
  exact ⟨_,List.mem_singleton.2 rfl,e⟩
 | o :: r,s,low,L,h,st,e => by
  unfold xrun at h
  split at h
  ·rename_i hw
   rw [e.want] at hw
   cases hd:dok s.n o.dst with
   | false => rw [hd] at h; cases h
   | true =>
    rw [hd] at h
    simp only [cond_true] at h
    have hd':=dok_spec hd
    cases hp:xpure E o.op with
    | true =>
     rw [hp] at h
     simp only [cond_true] at h
     split at h
     ·rename_i g hg
      refine .inl ⟨hw,((xval_gs hr ht hd' (xvalK_spec hg)).gsn.le e.le).eqv fun s' hs' => ⟨s.put o.dst g,?_,by rw [hs']; exact Eqv.refl _⟩⟩
      exact xrun_sound hr ht hk r _ _ L h _ (eqv_xput (Eqv.refl s) _ _)
     ·cases h
    | false =>
     rw [hp] at h
     simp only [cond_false] at h
     split at h
     ·rename_i m hm
      simp only [forceN_eq] at h
      obtain ⟨h1,_⟩:=optFlat_spec h
      obtain ⟨run',hr',hm'⟩:=xeffK_as hr hk hm
      refine .inl ⟨hw,((xeff_gsn hr' hd' hm').le e.le).eqv fun s' hs' => ?_⟩
      obtain ⟨q,hq,rfl⟩:=hs'
      obtain ⟨L',hL',hsub⟩:=h1 q hq
      refine ⟨_,?_,Eqv.refl _⟩
      have:=xrun_sound hr ht hk r _ _ L' hL' _ (eqv_xput (Eqv.refl { s with σ:=q.2.1,c:=q.2.2.1 }) o.dst q.1)
      exact runN_mono (fun s' ⟨x,hx,he⟩ => ⟨x,hsub x hx,he⟩) _ _ this
     ·cases h
  ·rename_i hw
   rw [e.want] at hw
   cases hd:dok s.n o.dst with
   | false => rw [hd] at h; cases h
   | true =>
    rw [hd] at h
    exact .inr ⟨hw,by rw [← e.n]; exact dok_spec hd,xrun_sound hr ht hk r _ _ L h _ (eqv_xput e _ _)⟩
  ·cases h
where
 runN_mono {ops:Array Oper} {K K':St → Prop} (hk:∀ s,K s → K' s):∀ (l:List Oper) (st:St),RunN P ops K l st → RunN P ops K' l st
  | [],st,h => hk st h
  | o :: r,st,h => by
   rcases h with ⟨h1,h2⟩ | ⟨h1,h2,h3⟩
   ·exact .inl ⟨h1,h2.eqv fun s hs => ⟨s,runN_mono hk r s hs,Eqv.refl s⟩⟩
   ·exact .inr ⟨h1,h2,runN_mono hk r _ h3⟩
theorem xput_gl (s:St) (d:Option Tmp) (g:G):(s.xput d g).gl = s.gl ∧ (s.xput d g).σ = s.σ:=by cases d <;> exact ⟨rfl,rfl⟩
theorem xrun_inv {E:XEnv} {run:XRun} (hr:RunOk P run) (hk:KcOk P E) {ops:Array Oper}:∀ (l:List Oper) (s:St) (low:Nat) (L:List (St × Nat)),xrun P E run ops l s low = some L → ∀ q ∈ L,q.1.gl = s.gl ∧ q.2 ≤ low ∧ ∀ i,i < q.2 → sget q.1.σ i = sget s.σ i
 | [],s,low,L,h,q,hq => by
  simp only [xrun,Option.some.injEq] at h
  subst h
  obtain rfl:=List.mem_singleton.1 hq
  exact ⟨rfl,Nat.le_refl _,fun _ _ => rfl⟩
 | o :: r,s,low,L,h,q,hq => by
  unfold xrun at h
  split at h
  ·cases hd:dok s.n o.dst with
   | false => rw [hd] at h; cases h
   | true =>
    rw [hd] at h
    simp only [cond_true] at h
    cases hp:xpure E o.op with
    | true =>
     rw [hp] at h
     simp only [cond_true] at h
     split at h
     ·rename_i g hg
      obtain ⟨a,b,c⟩:=xrun_inv hr hk r _ _ L h q hq
      rw [(xput_gl s o.dst g).1] at a
      rw [(xput_gl s o.dst g).2] at c
      exact ⟨a,b,c⟩
     ·cases h
    | false =>
     rw [hp] at h
     simp only [cond_false] at h
     split at h
     ·rename_i m hm
      simp only [forceN_eq] at h
      obtain ⟨_,h2⟩:=optFlat_spec h
      obtain ⟨x,hx,L',hL',hq'⟩:=h2 q hq
      obtain ⟨a,b,c⟩:=xrun_inv hr hk r _ _ L' hL' q hq'
      rw [(xput_gl _ o.dst x.1).1] at a
      rw [(xput_gl _ o.dst x.1).2] at c
      obtain ⟨run',hr',hm'⟩:=xeffK_as hr hk hm
      refine ⟨a,Nat.le_trans b (lmin_l _ _),fun i hi => (c i hi).trans (xeff_inv hr' hm' x hx i (Nat.lt_of_lt_of_le hi (Nat.le_trans b (lmin_r _ _))))⟩
     ·cases h
  ·cases hd:dok s.n o.dst with
   | false => rw [hd] at h; cases h
   | true =>
    rw [hd] at h
    simp only [cond_true] at h
    obtain ⟨a,b,c⟩:=xrun_inv hr hk r _ _ L h q hq
    rw [(xput_gl _ o.dst _).1] at a
    rw [(xput_gl _ o.dst _).2] at c
    exact ⟨a,b,c⟩
  ·cases h

/-! ### regions that draw -/
noncomputable def xrunD (P:Program) (E:XEnv) (run:XRun) (ops:Array Oper):List Oper → St → Nat → Option (St × Nat × List OI)
 | [],s,low => some (s,low,[])
 | o :: r,s,low => match gwant s ops o with
  | some true => bif dok s.n o.dst then
    (bif xpure E o.op then (match xvalK P E run o s with
     | some g => forceN (bif isFree o then 0 else xfoot s o) fun f => match xrunD P E run ops r (s.xput o.dst g) low with
      | some (s',lo,inf) => some (s',lo,.rd f :: inf)
      | none => none
     | none => none)
    else bif isFree o then none else match xeffK P E run o s with
     | some [(g,σ,c,lo)] => forceN c fun c => forceN lo fun lo => forceN (lmin low lo) fun low' => match xrunD P E run ops r ({ s with σ:=σ,c:=c }.xput o.dst g) low' with
      | some (s',lo',inf) => some (s',lo',.wr lo :: inf)
      | none => none
     | _ => none)
   else none
  | some false => match xrunD P E run ops r (s.xput o.dst (.lit undef)) low with
   | some (s',lo,inf) => some (s',lo,.rd 0 :: inf)
   | none => none
  | none => none
theorem Sm.put {st s:St} (e:Sm st s) (σ:Sto) (c:Nat) (d:Option Tmp) (g:G):Sm ({ st with σ:=σ,c:=c }.put d g) ({ s with σ:=σ,c:=c }.xput d g):=by
 cases d with
 | none => exact ⟨e.n,e.gl,rfl,rfl,e.p,e.r,e.fr⟩
 | some d => exact ⟨e.n,e.gl,rfl,rfl,e.p,e.r,fun i => by show fget ((d,g) :: s.fr) i = fget ((d,g) :: st.fr) i; rw [fget_cons,fget_cons,e.fr]⟩
theorem Sm.put' {st s:St} (e:Sm st s) (d:Option Tmp) (g:G):Sm (st.put d g) (s.xput d g):=by
 cases d with
 | none => exact ⟨e.n,e.gl,e.σ,e.c,e.p,e.r,e.fr⟩
 | some d => exact ⟨e.n,e.gl,e.σ,e.c,e.p,e.r,fun i => by show fget ((d,g) :: s.fr) i = fget ((d,g) :: st.fr) i; rw [fget_cons,fget_cons,e.fr]⟩
theorem xrunD_sound {E:XEnv} {run:XRun} (hr:RunOk P run) (ht:PureOk P E.tp) (hk:KcOk P E) {ops:Array Oper} {K:St → Prop}:∀ (l:List Oper) (s:St) (low:Nat) (s':St) (lo:Nat) (inf:List OI),xrunD P E run ops l s low = some (s',lo,inf) → ∀ st,Sm st s → (∀ st',Sm st' s' → K st') → RunR P ops K l inf st
 | [],s,low,s',lo,inf,h,st,e,k => by
  simp only [xrunD,Option.some.injEq,Prod.mk.injEq] at h
  obtain ⟨rfl,_,rfl⟩:=h
  exact k st e
 | o :: r,s,low,s',lo,inf,h,st,e,k => by
  unfold xrunD at h
  split at h
  ·rename_i hw
   rw [e.eqv.want] at hw
   cases hd:dok s.n o.dst with
   | false => rw [hd] at h; cases h
   | true =>
    rw [hd] at h
    simp only [cond_true] at h
    have hd':=dok_spec hd
    cases hp:xpure E o.op with
    | true =>
     rw [hp] at h
     simp only [cond_true] at h
     split at h
     ·rename_i g hg
      rw [forceN_eq] at h
      split at h
      ·rename_i s2 lo2 inf2 h2
       cases h
       refine ⟨g,st.put o.dst g,⟨fun hf => by rw [hf]; rfl,.inl ⟨hw,.inr ⟨_,rfl,rfl,fun st' h1 h2' h3 h4 => ?_⟩⟩⟩,xrunD_sound hr ht hk r _ _ s' _ _ h2 _ (e.put' o.dst g) k⟩
       have hgs:∀ x,gev st' x = gev s x ∨ True:=fun x => .inr trivial
       refine xval_gs hr ht (by rw [h1,← e.n]; exact hd') ?_
       cases hfr:isFree o with
       | true =>
        have:xval P E run o st' = xval P E run o s:=by
         refine xval_congr (h2'.trans e.gl.symm) (fun i hi => ?_) (fun x hx => by rw [h4 x hx,e.eqv.gev])
         exfalso
         obtain ⟨dst,op,ty,pos,af,gd⟩:=o
         unfold isFree at hfr
         unfold xfoot at hi
         cases op with
         | call c =>
          obtain ⟨cal,args,ats⟩:=c
          cases cal with
          | builtin b => cases b <;> simp_all
          | value x => simp at hfr
          | invoke r m => simp at hfr
         | _ => simp_all
        rw [this]; exact xvalK_spec hg
       | false =>
        rw [hfr] at h3
        have:xval P E run o st' = xval P E run o s:=xval_congr (h2'.trans e.gl.symm) (fun i hi => (h3 i hi).trans (by rw [e.σ])) (fun x hx => by rw [h4 x hx,e.eqv.gev])
        rw [this]; exact xvalK_spec hg
      ·cases h
     ·cases h
    | false =>
     rw [hp] at h
     simp only [cond_false] at h
     cases hfr:isFree o with
     | true => rw [hfr] at h; cases h
     | false =>
      rw [hfr] at h
      simp only [cond_false] at h
      split at h
      ·rename_i g σ c lo0 hm
       obtain ⟨run',hr',hm'⟩:=xeffK_as hr hk hm
       simp only [forceN_eq] at h
       split at h
       ·rename_i s2 lo2 inf2 h2
        cases h
        refine ⟨g,{ st with σ:=σ,c:=c }.put o.dst g,⟨(fun hf => by rw [hfr] at hf; cases hf),.inl ⟨hw,.inl ⟨lo0,σ,c,rfl,rfl,fun st' hl hx => ?_,fun i hi => (xeff_inv hr' hm' _ (List.mem_singleton.2 rfl) i hi).trans (by rw [e.σ])⟩⟩⟩,xrunD_sound hr ht hk r _ _ s' _ _ h2 _ (e.put σ c o.dst g) k⟩
        obtain ⟨h1,h2',h3,h4,h5⟩:=hl
        have:xeff P run' o st' = some [(g,σ,c,lo0)]:=by
         rw [← hm']
         exact xeff_congr (h2'.trans e.gl.symm) (h3.trans e.σ.symm) (h4.trans e.c.symm) (fun x hx' => by rw [hx x hx',e.eqv.gev])
        refine (xeff_gsn hr' (by rw [h1,← e.n]; exact hd') this).gs fun s3 hs3 => ?_
        obtain ⟨q,hq,rfl⟩:=hs3
        obtain rfl:=List.mem_singleton.1 hq
        rfl
       ·cases h
      ·cases h
  ·rename_i hw
   rw [e.eqv.want] at hw
   split at h
   ·rename_i s2 lo2 inf2 h2
    cases h
    exact ⟨.lit undef,_,⟨fun _ => rfl,.inr ⟨hw,rfl,rfl,rfl⟩⟩,xrunD_sound hr ht hk r _ _ s' _ _ h2 _ (e.put' o.dst _) k⟩
   ·cases h
  ·cases h
theorem xrunD_inv {E:XEnv} {run:XRun} (hr:RunOk P run) (hk:KcOk P E) {ops:Array Oper}:∀ (l:List Oper) (s:St) (low:Nat) (s':St) (lo:Nat) (inf:List OI),xrunD P E run ops l s low = some (s',lo,inf) → s'.gl = s.gl ∧ lo ≤ low ∧ ∀ i,i < lo → sget s'.σ i = sget s.σ i
 | [],s,low,s',lo,inf,h => by
  simp only [xrunD,Option.some.injEq,Prod.mk.injEq] at h
  obtain ⟨rfl,rfl,_⟩:=h
  exact ⟨rfl,Nat.le_refl _,fun _ _ => rfl⟩
 | o :: r,s,low,s',lo,inf,h => by
  unfold xrunD at h
  split at h
  ·cases hd:dok s.n o.dst with
   | false => rw [hd] at h; cases h
   | true =>
    rw [hd] at h
    simp only [cond_true] at h
    cases hp:xpure E o.op with
    | true =>
     rw [hp] at h
     simp only [cond_true] at h
     split at h
     ·rename_i g hg
      rw [forceN_eq] at h
      split at h
      ·rename_i s2 lo2 inf2 h2
       cases h
       obtain ⟨a,b,c⟩:=xrunD_inv hr hk r _ _ _ _ _ h2
       rw [(xput_gl s o.dst g).1] at a
       rw [(xput_gl s o.dst g).2] at c
       exact ⟨a,b,c⟩
      ·cases h
     ·cases h
    | false =>
     rw [hp] at h
     simp only [cond_false] at h
     cases hfr:isFree o with
     | true => rw [hfr] at h; cases h
     | false =>
      rw [hfr] at h
      simp only [cond_false] at h
      split at h
      ·rename_i g σ c lo0 hm
       obtain ⟨run',hr',hm'⟩:=xeffK_as hr hk hm
       simp only [forceN_eq] at h
       split at h
       ·rename_i s2 lo2 inf2 h2
        cases h
        obtain ⟨a,b,d⟩:=xrunD_inv hr hk r _ _ _ _ _ h2
        rw [(xput_gl _ o.dst g).1] at a
        rw [(xput_gl _ o.dst g).2] at d
        exact ⟨a,Nat.le_trans b (lmin_l _ _),fun i hi => (d i hi).trans (xeff_inv hr' hm' _ (List.mem_singleton.2 rfl) i (Nat.lt_of_lt_of_le hi (Nat.le_trans b (lmin_r _ _))))⟩
       ·cases h
      ·cases h
  ·split at h
   ·rename_i s2 lo2 inf2 h2
    cases h
    obtain ⟨a,b,c⟩:=xrunD_inv hr hk r _ _ _ _ _ h2
    rw [(xput_gl _ o.dst _).1] at a
    rw [(xput_gl _ o.dst _).2] at c
    exact ⟨a,b,c⟩
   ·cases h
  ·cases h

/-! ### regions that draw, by what is read and written -/
def xlay (c:Nat):Sto → Sto → Sto
 | [],σ => σ
 | (i,ob) :: U,σ => bif Nat.ble c i then (i,ob) :: xlay c U σ else sput (xlay c U σ) i ob
theorem sget_xlay (c:Nat) (i:Nat):∀ (U σ:Sto),sget (xlay c U σ) i = sget (U ++ σ) i
 | [],σ => rfl
 | (j,ob) :: U,σ => by
  unfold xlay
  rw [List.cons_append,sget_cons]
  cases Nat.ble c j with
  | true => rw [cond_true,sget_cons,sget_xlay c i U σ]
  | false => rw [cond_false,sget_sput,sget_xlay c i U σ]
theorem sget_app_congr {a b:Sto} (i:Nat) (h:sget a i = sget b i):∀ (V:Sto),sget (V ++ a) i = sget (V ++ b) i
 | [] => h
 | (j,ob) :: V => by rw [List.cons_append,List.cons_append,sget_cons,sget_cons,sget_app_congr i h V]
def kmin:Sto → Nat → Nat
 | [],m => m
 | (i,_) :: U,m => kmin U (lmin i m)
theorem kmin_le:∀ (U:Sto) (m:Nat),kmin U m ≤ m
 | [],m => Nat.le_refl _
 | (i,_) :: U,m => Nat.le_trans (kmin_le U _) (lmin_r _ _)
theorem kmin_out:∀ (U:Sto) (m:Nat) {x:Nat},x < kmin U m → x ∉ U.map (·.1)
 | [],m,x,h => by simp
 | (i,ob) :: U,m,x,h => fun hx => by
  rcases List.mem_cons.1 hx with e | hx
  ·have h1:=Nat.le_trans (kmin_le U (lmin i m)) (lmin_l i m)
   have h2:x < kmin U (lmin i m):=h
   have e:x = i:=e
   omega
  ·exact kmin_out U (lmin i m) h hx
def xck (P:Program) (E:XEnv) (run:XRun) (s:St) (o:Oper) (g:G) (V:Sto):Bool:=(match xval P E run o { s with σ:=V ++ s.σ } with
 | some g' => gbeq g' g
 | none => false) && (xreads { s with σ:=V ++ s.σ } o).all fun i => (xreads s o).any (Nat.beq i)
def xolds (U σ:Sto):Sto:=(U.map (·.1)).map fun i => (i,sget σ i)
def xmkN (o:Oper) (k:Nat):Nat:=bif isMk o then k + 1 else k
noncomputable def xrunF (P:Program) (E:XEnv) (run:XRun) (ops:Array Oper):List Oper → St → Nat → Nat → Option (St × Nat × List DI)
 | [],s,low,k => some (s,low,[])
 | o :: r,s,low,k => match gwant s ops o with
  | some true => bif dok s.n o.dst then
    (bif xpure E o.op then (match xvalK P E run o s with
     | some g => match xrunF P E run ops r (s.xput o.dst g) low k with
      | some (s',lo,inf) => some (s',lo,.rd (xreads s o) (xck P E run s o g) :: inf)
      | none => none
     | none => none)
    else bif isFree o then none else match xeffKF P E run o s k with
     | some (g,U,R,cu,c) => forceN c fun c => forceN (kmin U low) fun low' => forceN (xmkN o k) fun k' => match xrunF P E run ops r ({ s with σ:=xlay s.c U s.σ,c:=c }.xput o.dst g) low' k' with
      | some (s',lo,inf) => some (s',lo,.wr R U (xolds U s.σ) cu :: inf)
      | none => none
     | none => none)
   else none
  | some false => bif dok s.n o.dst then (forceN (xmkN o k) fun k' => match xrunF P E run ops r (s.xput o.dst (.lit undef)) low k' with
   | some (s',lo,inf) => some (s',lo,.rd [] (fun _ => false) :: inf)
   | none => none) else none
  | none => none
theorem eqv_lay {st s:St} (e:Eqv st s) (U:Sto) (c:Nat):Eqv { st with σ:=U ++ st.σ,c:=c } { s with σ:=xlay s.c U s.σ,c:=c } :=
 ⟨e.n,e.gl,e.fr,fun i => by
  show sget (xlay s.c U s.σ) i = sget (U ++ st.σ) i
  rw [sget_xlay]
  exact sget_app_congr i (e.σ i) U,rfl,e.p,e.r⟩
theorem xrunF_sound {E:XEnv} {run:XRun} (hr:RunOk P run) (ht:PureOk P E.tp) (hkc:KcOk P E) {ops:Array Oper} {K:St → Prop}:∀ (l:List Oper) (s:St) (low k:Nat) (s':St) (lo:Nat) (inf:List DI),xrunF P E run ops l s low k = some (s',lo,inf) → ∀ st,Eqv st s → (∀ st',Eqv st' s' → K st') → RunF P ops K l inf st
 | [],s,low,k,s',lo,inf,h,st,e,hK => by
  simp only [xrunF,Option.some.injEq,Prod.mk.injEq] at h
  obtain ⟨rfl,_,rfl⟩:=h
  exact hK st e
 | o :: r,s,low,k,s',lo,inf,h,st,e,hK => by
  unfold xrunF at h
  split at h
  ·rename_i hw
   rw [e.want] at hw
   cases hd:dok s.n o.dst with
   | false => rw [hd] at h; cases h
   | true =>
    rw [hd] at h
    simp only [cond_true] at h
    have hd':=dok_spec hd
    cases hp:xpure E o.op with
    | true =>
     rw [hp] at h
     simp only [cond_true] at h
     split at h
     ·rename_i g hg
      split at h
      ·rename_i s2 lo2 inf2 h2
       cases h
       refine ⟨g,st.put o.dst g,⟨fun hf => ⟨_,by rw [xreads_free hf]⟩,.inl ⟨hw,.inr ⟨_,_,rfl,rfl,fun V hV st'' h1 h2' h3 h4 => ?_⟩⟩⟩,xrunF_sound hr ht hkc r _ _ _ s' _ _ h2 _ (eqv_xput e o.dst g) hK⟩
       have key:xval P E run o { s with σ:=V ++ s.σ } = some g ∧ ∀ i ∈ xreads { s with σ:=V ++ s.σ } o,i ∈ xreads s o:=by
        rcases hV with rfl | hV
        ·exact ⟨xvalK_spec hg,fun i hi => hi⟩
        ·unfold xck at hV
         simp only [Bool.and_eq_true] at hV
         obtain ⟨hV1,hV2⟩:=hV
         refine ⟨?_,fun i hi => ?_⟩
         ·split at hV1
          ·rename_i g' hg'
           rw [hg',gbeq_spec hV1]
          ·cases hV1
         ·obtain ⟨x,hx,hb⟩:=List.any_eq_true.1 (List.all_eq_true.1 hV2 i hi)
          rw [Nat.eq_of_beq_eq_true hb]
          exact hx
       refine xval_gs hr ht (by rw [h1,← e.n]; exact hd') ?_
       have:xval P E run o st'' = xval P E run o { s with σ:=V ++ s.σ }:=xval_congrL (h2'.trans e.gl.symm) (fun i hi => (h3 i (key.2 i hi)).trans (sget_app_congr i (e.σ i).symm V)) (fun x hx => by rw [h4 x hx,← e.gev]; cases x <;> rfl)
       rw [this]
       exact key.1
      ·cases h
     ·cases h
    | false =>
     rw [hp] at h
     simp only [cond_false] at h
     cases hfr:isFree o with
     | true => rw [hfr] at h; cases h
     | false =>
      rw [hfr] at h
      simp only [cond_false] at h
      split at h
      ·rename_i g U R cu c hm
       simp only [forceN_eq] at h
       split at h
       ·rename_i s2 lo2 inf2 h2
        cases h
        obtain ⟨hbg,hcc⟩:=xeffKF_bg hr hkc hd' hm
        refine ⟨g,{ st with σ:=U ++ st.σ,c:=c }.put o.dst g,⟨(fun hf => by rw [hfr] at hf; cases hf),.inl ⟨hw,.inl ⟨R,U,_,cu,c,rfl,rfl,(fun hf => (hcc hf).trans e.c),fun x hx => ?_,?_,fun st'' e1 e2 e3 e4 e5 e6 => ?_⟩⟩⟩,xrunF_sound hr ht hkc r _ _ _ s' _ _ h2 _ (eqv_xput (eqv_lay e U c) o.dst g) hK⟩
        ·unfold xolds
         rw [sget_map,if_pos hx]
         exact e.σ x
        ·unfold xolds
         simp
        ·refine hbg st'' (e1.trans e.n.symm) (e2.trans e.gl.symm) (e3.trans ?_) (fun hc => (e4 hc).trans e.c.symm) (fun x hx => (e5 x hx).trans (e.σ x).symm) (fun x hx => (e6 x hx).trans (by rw [e.gev]))
         simp only [St.pr,e.p,e.r]
       ·cases h
      ·cases h
  ·rename_i hw
   rw [e.want] at hw
   cases hd:dok s.n o.dst with
   | false => rw [hd] at h; cases h
   | true =>
    rw [hd] at h
    simp only [cond_true,forceN_eq] at h
    split at h
    ·rename_i s2 lo2 inf2 h2
     cases h
     exact ⟨.lit undef,_,⟨fun _ => ⟨_,rfl⟩,.inr ⟨hw,rfl,rfl,_,rfl⟩⟩,xrunF_sound hr ht hkc r _ _ _ s' _ _ h2 _ (eqv_xput e o.dst _) hK⟩
    ·cases h
  ·cases h
theorem xrunF_inv {E:XEnv} {run:XRun} {ops:Array Oper}:∀ (l:List Oper) (s:St) (low k:Nat) (s':St) (lo:Nat) (inf:List DI),xrunF P E run ops l s low k = some (s',lo,inf) → s'.gl = s.gl ∧ lo ≤ low ∧ ∀ i,i < lo → sget s'.σ i = sget s.σ i
 | [],s,low,k,s',lo,inf,h => by
  simp only [xrunF,Option.some.injEq,Prod.mk.injEq] at h
  obtain ⟨rfl,rfl,_⟩:=h
  exact ⟨rfl,Nat.le_refl _,fun _ _ => rfl⟩
 | o :: r,s,low,k,s',lo,inf,h => by
  unfold xrunF at h
  split at h
  ·cases hd:dok s.n o.dst with
   | false => rw [hd] at h; cases h
   | true =>
    rw [hd] at h
    simp only [cond_true] at h
    cases hp:xpure E o.op with
    | true =>
     rw [hp] at h
     simp only [cond_true] at h
     split at h
     ·rename_i g hg
      split at h
      ·rename_i s2 lo2 inf2 h2
       cases h
       obtain ⟨a,b,c⟩:=xrunF_inv r _ _ _ _ _ _ h2
       rw [(xput_gl s o.dst g).1] at a
       rw [(xput_gl s o.dst g).2] at c
       exact ⟨a,b,c⟩
      ·cases h
     ·cases h
    | false =>
     rw [hp] at h
     simp only [cond_false] at h
     cases hfr:isFree o with
     | true => rw [hfr] at h; cases h
     | false =>
      rw [hfr] at h
      simp only [cond_false] at h
      split at h
      ·rename_i g U R cu c hm
       simp only [forceN_eq] at h
       split at h
       ·rename_i s2 lo2 inf2 h2
        cases h
        obtain ⟨a,b,d⟩:=xrunF_inv r _ _ _ _ _ _ h2
        rw [(xput_gl _ o.dst g).1] at a
        rw [(xput_gl _ o.dst g).2] at d
        refine ⟨a,Nat.le_trans b (kmin_le U low),fun i hi => (d i hi).trans ?_⟩
        show sget (xlay s.c U s.σ) i = _
        rw [sget_xlay,sget_append_out (kmin_out U low (Nat.lt_of_lt_of_le hi b))]
       ·cases h
      ·cases h
  ·cases hd:dok s.n o.dst with
   | false => rw [hd] at h; cases h
   | true =>
    rw [hd] at h
    simp only [cond_true,forceN_eq] at h
    split at h
    ·rename_i s2 lo2 inf2 h2
     cases h
     obtain ⟨a,b,c⟩:=xrunF_inv r _ _ _ _ _ _ h2
     rw [(xput_gl _ o.dst _).1] at a
     rw [(xput_gl _ o.dst _).2] at c
     exact ⟨a,b,c⟩
    ·cases h
  ·cases h
def xresv:Nat → St → St
 | 0,s => s
 | n + 1,s => forceN (s.c + 1) fun c => xresv n { s with σ:=(s.c,some resvOb) :: s.σ,c:=c }
theorem xresv_eq:∀ (n:Nat) (s:St),xresv n s = addResv n s
 | 0,s => rfl
 | n + 1,s => by unfold xresv addResv; rw [forceN_eq]; exact xresv_eq n _
theorem addResv_n:∀ (n:Nat) (s:St),(addResv n s).n = s.n ∧ (addResv n s).gl = s.gl ∧ s.c ≤ (addResv n s).c ∧ ∀ i,i < s.c → sget (addResv n s).σ i = sget s.σ i
 | 0,s => ⟨rfl,rfl,Nat.le_refl _,fun _ _ => rfl⟩
 | n + 1,s => by
  obtain ⟨a,b,c,d⟩:=addResv_n n { s with σ:=(s.c,some resvOb) :: s.σ,c:=s.c + 1 }
  have hc:s.c + 1 ≤ (addResv n { s with σ:=(s.c,some resvOb) :: s.σ,c:=s.c + 1 }).c:=c
  refine ⟨a,b,by unfold addResv; omega,fun i hi => ?_⟩
  unfold addResv
  rw [d i (by show i < s.c + 1; omega)]
  exact sget_cons_lt hi
def nMk:List Oper → Nat
 | [] => 0
 | o :: r => xmkN o (nMk r)
noncomputable def xregF (P:Program) (E:XEnv) (run:XRun) (ops:Array Oper) (s:St) (low:Nat):Option (List (Exit × St × Nat)) :=
 match xrunF P E run ops ops.toList (xresv (nMk ops.toList) s) (lmin low s.c) s.c with
 | some (s',lo,inf) => bif (forceN s.n fun n => drawOk4 ops.toList inf n) then some [(.normal,s',lo)] else none
 | none => none
def okKindF (E:XEnv) (o:Oper):Bool:=xpure E o.op || (match o.op with
 | .alloc _ | .box .. | .buildSlice .. | .makeSlice .. | .store .. | .mapUpdate .. | .insert .. | .mapEntry .. | .entryStore .. => true
 | .call { callee:=.builtin .append,.. } => true
 | .call { callee:=.value _,.. } => true
 | _ => false)
def wrAt (E:XEnv) (l:List Oper) (i:Nat):Bool:=match l[i]? with
 | some o => !xpure E o.op
 | none => false
def useF (E:XEnv) (l:List Oper):Bool:=l.all (okKindF E) && (drawPairs l).any fun q => wrAt E l q.1 || wrAt E l q.2

/-! ### frames behind regions -/
theorem xput_fr (s:St) (d:Option Tmp) (g:G) (i:Nat) (h:d ≠ some i):fget (s.xput d g).fr i = fget s.fr i:=by
 cases d with
 | none => rfl
 | some d =>
  show fget ((d,g) :: s.fr) i = _
  rw [fget_cons,if_neg (fun e => h (by rw [e]))]
theorem xrun_frame {E:XEnv} {run:XRun} {ops:Array Oper}:∀ (l:List Oper) (s:St) (low:Nat) (L:List (St × Nat)),xrun P E run ops l s low = some L → ∀ q ∈ L,∀ i,(∀ o ∈ l,o.dst ≠ some i) → fget q.1.fr i = fget s.fr i
 | [],s,low,L,h,q,hq,i,hi => by
  simp only [xrun,Option.some.injEq] at h
  subst h
  obtain rfl:=List.mem_singleton.1 hq
  rfl
 | o :: r,s,low,L,h,q,hq,i,hi => by
  have ho:=hi o (by simp)
  have hr:∀ o ∈ r,o.dst ≠ some i:=fun o ho => hi o (by simp [ho])
  unfold xrun at h
  split at h
  ·cases hd:dok s.n o.dst with
   | false => rw [hd] at h; cases h
   | true =>
    rw [hd] at h
    simp only [cond_true] at h
    cases hp:xpure E o.op with
    | true =>
     rw [hp] at h
     simp only [cond_true] at h
     split at h
     ·exact (xrun_frame r _ _ L h q hq i hr).trans (xput_fr s o.dst _ i ho)
     ·cases h
    | false =>
     rw [hp] at h
     simp only [cond_false] at h
     split at h
     ·simp only [forceN_eq] at h
      obtain ⟨_,h2⟩:=optFlat_spec h
      obtain ⟨x,hx,L',hL',hq'⟩:=h2 q hq
      exact (xrun_frame r _ _ L' hL' q hq' i hr).trans (xput_fr _ o.dst _ i ho)
     ·cases h
  ·cases hd:dok s.n o.dst with
   | false => rw [hd] at h; cases h
   | true =>
    rw [hd] at h
    simp only [cond_true] at h
    exact (xrun_frame r _ _ L h q hq i hr).trans (xput_fr s o.dst _ i ho)
  ·cases h
theorem xrunD_frame {E:XEnv} {run:XRun} {ops:Array Oper}:∀ (l:List Oper) (s:St) (low:Nat) (s':St) (lo:Nat) (inf:List OI),xrunD P E run ops l s low = some (s',lo,inf) → ∀ i,(∀ o ∈ l,o.dst ≠ some i) → fget s'.fr i = fget s.fr i
 | [],s,low,s',lo,inf,h,i,hi => by
  simp only [xrunD,Option.some.injEq,Prod.mk.injEq] at h
  obtain ⟨rfl,rfl,_⟩:=h
  rfl
 | o :: r,s,low,s',lo,inf,h,i,hi => by
  have ho:=hi o (by simp)
  have hr:∀ o ∈ r,o.dst ≠ some i:=fun o ho => hi o (by simp [ho])
  unfold xrunD at h
  split at h
  ·cases hd:dok s.n o.dst with
   | false => rw [hd] at h; cases h
   | true =>
    rw [hd] at h
    simp only [cond_true] at h
    cases hp:xpure E o.op with
    | true =>
     rw [hp] at h
     simp only [cond_true] at h
     split at h
     ·rw [forceN_eq] at h
      split at h
      ·rename_i s2 lo2 inf2 h2
       cases h
       exact (xrunD_frame r _ _ _ _ _ h2 i hr).trans (xput_fr s o.dst _ i ho)
      ·cases h
     ·cases h
    | false =>
     rw [hp] at h
     simp only [cond_false] at h
     cases hfr:isFree o with
     | true => rw [hfr] at h; cases h
     | false =>
      rw [hfr] at h
      simp only [cond_false] at h
      split at h
      ·simp only [forceN_eq] at h
       split at h
       ·rename_i s2 lo2 inf2 h2
        cases h
        exact (xrunD_frame r _ _ _ _ _ h2 i hr).trans (xput_fr _ o.dst _ i ho)
       ·cases h
      ·cases h
  ·split at h
   ·rename_i s2 lo2 inf2 h2
    cases h
    exact (xrunD_frame r _ _ _ _ _ h2 i hr).trans (xput_fr s o.dst _ i ho)
   ·cases h
  ·cases h
theorem xrunF_frame {E:XEnv} {run:XRun} {ops:Array Oper}:∀ (l:List Oper) (s:St) (low k:Nat) (s':St) (lo:Nat) (inf:List DI),xrunF P E run ops l s low k = some (s',lo,inf) → ∀ i,(∀ o ∈ l,o.dst ≠ some i) → fget s'.fr i = fget s.fr i
 | [],s,low,k,s',lo,inf,h,i,hi => by
  simp only [xrunF,Option.some.injEq,Prod.mk.injEq] at h
  obtain ⟨rfl,rfl,_⟩:=h
  rfl
 | o :: r,s,low,k,s',lo,inf,h,i,hi => by
  have ho:=hi o (by simp)
  have hr:∀ o ∈ r,o.dst ≠ some i:=fun o ho => hi o (by simp [ho])
  unfold xrunF at h
  split at h
  ·cases hd:dok s.n o.dst with
   | false => rw [hd] at h; cases h
   | true =>
    rw [hd] at h
    simp only [cond_true] at h
    cases hp:xpure E o.op with
    | true =>
     rw [hp] at h
     simp only [cond_true] at h
     split at h
     ·split at h
      ·rename_i s2 lo2 inf2 h2
       cases h
       exact (xrunF_frame r _ _ _ _ _ _ h2 i hr).trans (xput_fr s o.dst _ i ho)
      ·cases h
     ·cases h
    | false =>
     rw [hp] at h
     simp only [cond_false] at h
     cases hfr:isFree o with
     | true => rw [hfr] at h; cases h
     | false =>
      rw [hfr] at h
      simp only [cond_false] at h
      split at h
      ·simp only [forceN_eq] at h
       split at h
       ·rename_i s2 lo2 inf2 h2
        cases h
        exact (xrunF_frame r _ _ _ _ _ _ h2 i hr).trans (xput_fr _ o.dst _ i ho)
       ·cases h
      ·cases h
  ·cases hd:dok s.n o.dst with
   | false => rw [hd] at h; cases h
   | true =>
    rw [hd] at h
    simp only [cond_true,forceN_eq] at h
    split at h
    ·rename_i s2 lo2 inf2 h2
     cases h
     exact (xrunF_frame r _ _ _ _ _ _ h2 i hr).trans (xput_fr s o.dst _ i ho)
    ·cases h
  ·cases h
theorem addResv_fr:∀ (n:Nat) (s:St),(addResv n s).fr = s.fr
 | 0,s => rfl
 | n + 1,s => by unfold addResv; exact addResv_fr n _

/-! ### regions that write nothing -/
theorem xrunQ_run {E:XEnv} {run:XRun} {s:St} {ops:Array Oper} (low:Nat):∀ (l:List Oper) (fr fr1:Fr),allPure E l = true → dokAll s.n l = true → xrunQ P E run s (preOps P ops l) fr = some fr1 → xrun P E run ops l { s with fr:=fr } low = some [({ s with fr:=fr1 },low)]
 | [],fr,fr1,hp,hd,h => by
  have h:some fr = some fr1:=h
  cases h; rfl
 | o :: r,fr,fr1,hp,hd,h => by
  have h:(match gtest fr (pgOf ops o) with
   | some true => qop P E run s ⟨pgOf ops o,o.dst,pkOf P o.op,o⟩ fr fun g => xrunQ P E run s (preOps P ops r) (qcons o.dst g fr)
   | some false => xrunQ P E run s (preOps P ops r) (qcons o.dst (.lit undef) fr)
   | none => none) = some fr1:=h
  simp only [allPure,dokAll,List.all_cons,Bool.and_eq_true] at hp hd
  unfold xrun
  rw [← gtest_eq]
  have hdk:dok ({ s with fr:=fr }:St).n o.dst = true:=hd.1
  split at h
  ·rename_i hg
   obtain ⟨g,h1,h2⟩:=qop_spec h
   simp only [hdk,hp.1,cond_true,xvalK_eq,h1]
   have:=xrunQ_run low r _ _ hp.2 hd.2 h2
   rw [qcons_eq] at this
   exact this
  ·rename_i hg
   simp only [hdk,cond_true]
   have:=xrunQ_run low r _ _ hp.2 hd.2 h
   rw [qcons_eq] at this
   exact this
  ·cases h
theorem xrunQ_runD {E:XEnv} {run:XRun} {s:St} {ops:Array Oper} (low:Nat):∀ (l:List Oper) (fr fr1:Fr),allPure E l = true → dokAll s.n l = true → xrunQ P E run s (preOps P ops l) fr = some fr1 → ∃ inf,xrunD P E run ops l { s with fr:=fr } low = some ({ s with fr:=fr1 },low,inf) ∧ ∀ q ∈ inf,∃ f,q = .rd f
 | [],fr,fr1,hp,hd,h => by
  have h:some fr = some fr1:=h
  cases h
  exact ⟨[],rfl,by simp⟩
 | o :: r,fr,fr1,hp,hd,h => by
  have h:(match gtest fr (pgOf ops o) with
   | some true => qop P E run s ⟨pgOf ops o,o.dst,pkOf P o.op,o⟩ fr fun g => xrunQ P E run s (preOps P ops r) (qcons o.dst g fr)
   | some false => xrunQ P E run s (preOps P ops r) (qcons o.dst (.lit undef) fr)
   | none => none) = some fr1:=h
  simp only [allPure,dokAll,List.all_cons,Bool.and_eq_true] at hp hd
  have hdk:dok ({ s with fr:=fr }:St).n o.dst = true:=hd.1
  split at h
  ·rename_i hg
   obtain ⟨g,h1,h2⟩:=qop_spec h
   obtain ⟨inf,h3,h4⟩:=xrunQ_runD low r _ _ hp.2 hd.2 h2
   rw [qcons_eq] at h3
   refine ⟨.rd (bif isFree o then 0 else xfoot { s with fr:=fr } o) :: inf,?_,fun q hq => ?_⟩
   ·unfold xrunD
    rw [← gtest_eq,hg]
    simp only [hdk,hp.1,cond_true,xvalK_eq,h1,forceN_eq,h3]
   ·rcases List.mem_cons.1 hq with rfl | hq
    ·exact ⟨_,rfl⟩
    ·exact h4 q hq
  ·rename_i hg
   obtain ⟨inf,h3,h4⟩:=xrunQ_runD low r _ _ hp.2 hd.2 h
   rw [qcons_eq] at h3
   refine ⟨.rd 0 :: inf,?_,fun q hq => ?_⟩
   ·unfold xrunD
    rw [← gtest_eq,hg]
    simp only [h3]
   ·rcases List.mem_cons.1 hq with rfl | hq
    ·exact ⟨_,rfl⟩
    ·exact h4 q hq
  ·cases h
def xisQ (E:XEnv) (l:List Oper) (draw:Bool) (n:Nat):Bool:=allPure E l && dokAll n l && (!draw || drawStat l n)
noncomputable def xregQ (P:Program) (E:XEnv) (run:XRun) (ops:Array Oper) (s:St) (low:Nat):Option (List (Exit × St × Nat)):=match s with
 | ⟨n,gl,fr,σ,c,p,rr⟩ => match xrunQ P E run ⟨n,gl,fr,σ,c,p,rr⟩ (preOps P ops ops.toList) fr with
  | some fr1 => forceFr (xtrim ops.toList fr fr1) fun fr2 => some [(.normal,⟨n,gl,fr2,σ,c,p,rr⟩,low)]
  | none => none
noncomputable def xtrimL (ops:Array Oper) (s:St) (l:Option (List (Exit × St × Nat))):Option (List (Exit × St × Nat)):=match l with
 | some l => some (l.map fun q => (q.1,{ q.2.1 with fr:=xtrim ops.toList s.fr q.2.1.fr },q.2.2))
 | none => none
/-- A slot that a branch looked at. -/
noncomputable def xdrop (x:Operand) (s:St):St:=match x with
 | .tmp t => { s with fr:=kdel t s.fr }
 | _ => s
theorem le_xdrop (x:Operand) (s:St):Le P s (xdrop x s):=by
 cases x with
 | tmp t => exact le_fr fun i => by rw [fget_kdel]; split <;> first | exact .inr rfl | exact .inl rfl
 | _ => exact Le.refl s
theorem xdrop_same (x:Operand) (s:St):(xdrop x s).gl = s.gl ∧ (xdrop x s).σ = s.σ:=by cases x <;> exact ⟨rfl,rfl⟩

/-! ### code -/
def lidle:LoopState → Bool
 | .busy => false
 | _ => true
def xrange (P:Program) (run:XRun) (g:Operand) (ps:Array Tmp) (as bd:Code) (s:St) (low:Nat):Option (List (Exit × St × Nat)):=bif s.r then none else match gev s g with
 | .clo (.func fid) fst cap => match P.funcs[fid]? with
  | some fn => match fn.body,fn.results.toList with
   | some body,[] => bif callable P fid && Nat.ble (fst ++ [G.yld s.c] ++ cap).length fn.ntmps then
     (forceN s.c fun c => match run body ⟨fn.ntmps,s.gl,enterFr 0 (fst ++ [G.yld c] ++ cap),(c,some ⟨0,[],some (.loop .ready none s.n s.fr ps as bd)⟩) :: s.σ,c + 1,c + 1,false⟩ noLow with
     | some l => optFlat (fun q => match xend q.1,sget q.2.1.σ c with
      | true,some ⟨_,[],some (.loop ls pe _ _ _ _ _)⟩ => bif lidle ls then
        (match pe with
        | none => some [(.normal,{ s with σ:=sdel q.2.1.σ c,c:=q.2.1.c },lmin low (lmin c q.2.2))]
        | some cd => run cd { s with σ:=sdel q.2.1.σ c,c:=q.2.1.c } (lmin low (lmin c q.2.2)))
       else none
      | _,_ => none) l
     | none => none)
    else none
   | _,_ => none
  | none => none
 | _ => none
def xsThen (run:XRun) (b:Code) (q:Exit × St × Nat):Option (List (Exit × St × Nat)):=match q.1 with
 | .normal => run b q.2.1 q.2.2
 | _ => some [q]
def xsSeq (run:XRun) (b:Code) (m:Option (List (Exit × St × Nat))):Option (List (Exit × St × Nat)):=match m with
 | some l => optFlat (xsThen run b) l
 | none => none
def xsBlk (id:Nat) (q:Exit × St × Nat):Exit × St × Nat:=match q.1 with | .exit i => bif Nat.beq i id then (.normal,q.2) else q | _ => q
def xsBlock (id:Nat) (m:Option (List (Exit × St × Nat))):Option (List (Exit × St × Nat)):=match m with
 | some l => some (l.map (xsBlk id))
 | none => none
def xsScope (m:Option (List (Exit × St × Nat))):Option (List (Exit × St × Nat)):=match m with
 | some l => bif l.all fun q => !isGoto q.1 then some l else none
 | none => none
noncomputable def xsCond (run:XRun) (x:Operand) (a b:Code) (s:St) (low:Nat):Option (List (Exit × St × Nat)):=match gevF s.gl s.fr x with
 | .lit (.bool t) => match t with
  | true => run a (xdrop x s) low
  | false => run b (xdrop x s) low
 | _ => none
noncomputable def xregN (P:Program) (E:XEnv) (run:XRun) (ops:Array Oper) (s:St) (low:Nat):Option (List (Exit × St × Nat)):=match xrun P E run ops ops.toList s low with
 | some l => some (l.map fun q => (.normal,q.1,q.2))
 | none => none
noncomputable def xregD (P:Program) (E:XEnv) (run:XRun) (ops:Array Oper) (s:St) (low:Nat):Option (List (Exit × St × Nat)):=match xrunD P E run ops ops.toList s low with
 | some (s',lo,inf) => bif (forceN s.n fun n => drawOk3 ops.toList inf n) then some [(.normal,s',lo)] else none
 | none => none
noncomputable def xreg (P:Program) (E:XEnv) (run:XRun) (ops:Array Oper) (draw:Bool) (s:St) (low:Nat):Option (List (Exit × St × Nat)):=bif forceN s.n (xisQ E ops.toList draw) then xregQ P E run ops s low else xtrimL ops s (match draw with
 | false => xregN P E run ops s low
 | true => bif useF E ops.toList then xregF P E run ops s low else xregD P E run ops s low)
noncomputable def xstep (P:Program) (E:XEnv) (run:XRun):XRun:=fun c s low => match c with
 | .skip | .label _ => some [(.normal,s,low)]
 | .exit i => some [(.exit i,s,low)]
 | .ret => some [(.ret,s,low)]
 | .seq a b => xsSeq run b (run a s low)
 | .block id a => xsBlock id (run a s low)
 | .loop a => xsSeq run (.loop a) (run a s low)
 | .cond x a b => xsCond run x a b s low
 | .region _ ops draw => xreg P E run ops draw s low
 | .rangeFunc g ps as bd => xrange P run g ps as bd s low
 | .scope a => xsScope (run a s low)
 | _ => none
def xnever:XRun:=fun _ _ _ => none
/-- The runner, of so much fuel. -/
noncomputable def xcode (P:Program) (E:XEnv) (k:Nat):XRun:=Nat.rec xnever (fun _ r => xstep P E r) k

/-! ### that it is right -/
structure RunOkL (P:Program) (run:XRun):Prop extends RunOk P run where
 loop:∀ a s low l,run (.loop a) s low = some l → ∃ n,TrN P a (Post l) n s
theorem thn_mono {K K':St → Prop} {Q Q':Exit → St → Prop} (hk:∀ s,K s → K' s) (hq:∀ e s,Q e s → Q' e s) {e:Exit} {s:St} (h:Thn K Q e s):Thn K' Q' e s:=by
 cases e <;> simp only [Thn] at h ⊢ <;> first | exact hk s h | exact hq _ s h
theorem TrN.mono {c:Code} {Q Q':Exit → St → Prop} (hq:∀ e s,Q e s → Q' e s):∀ {n m:Nat} {st:St},n ≤ m → TrN P c Q n st → TrN P c Q' m st
 | 0,m,st,_,h => h.elim
 | n + 1,0,st,hle,h => by omega
 | n + 1,m + 1,st,hle,h => Tr.mono h fun e s hs => thn_mono (fun s hs => TrN.mono hq (by omega) hs) hq hs
theorem TrN.le {c:Code} {Q:Exit → St → Prop}:∀ {n:Nat} {st s:St},Le P st s → TrN P c Q n s → TrN P c Q n st
 | 0,_,_,_,h => h.elim
 | n + 1,_,_,l,h => Tr.le (P:=P) h l
theorem post_sub {l m:List (Exit × St × Nat)} (h:∀ q ∈ l,q ∈ m) {e:Exit} {s:St} (hp:Post l e s):Post m e s:=by
 obtain ⟨q,hq,h1,h2⟩:=hp
 exact ⟨q,h q hq,h1,h2⟩
theorem thn_x {K:St → Prop} {Q:Exit → St → Prop} {e:Exit} {st:St} (he:e ≠ .normal) (h:Q e st):Thn K Q e st:=by
 cases e with
 | normal => exact absurd rfl he
 | _ => simp only [Thn]; exact h
theorem blk_x {id:Nat} {Q:Exit → St → Prop} {e:Exit} {st:St} (he:e ≠ .exit id) (h:Q e st):Blk' id Q e st:=by
 cases e with
 | exit i => simp only [Blk']; rw [if_neg (fun x => he (by rw [x]))]; exact h
 | _ => simp only [Blk']; exact h
theorem bound_all {α:Type} {p:α → Nat → Prop} (hm:∀ x n m,n ≤ m → p x n → p x m):∀ (l:List α),(∀ x ∈ l,∃ n,p x n) → ∃ N,∀ x ∈ l,p x N
 | [],_ => ⟨0,fun _ h => by cases h⟩
 | x :: r,h => by
  obtain ⟨n,hn⟩:=h x (by simp)
  obtain ⟨N,hN⟩:=bound_all hm r fun y hy => h y (by simp [hy])
  refine ⟨max n N,fun y hy => ?_⟩
  rcases List.mem_cons.1 hy with rfl | hy
  ·exact hm _ _ _ (Nat.le_max_left _ _) hn
  ·exact hm _ _ _ (Nat.le_max_right _ _) (hN y hy)
theorem xrange_tr {run:XRun} (hr:RunOk P run) {g:Operand} {ps:Array Tmp} {as bd:Code} {s:St} {low:Nat} {l:List (Exit × St × Nat)} (h:xrange P run g ps as bd s low = some l):Tr P (.rangeFunc g ps as bd) s (Post l) ∧ ∀ q ∈ l,q.2.1.gl = s.gl ∧ q.2.2 ≤ low ∧ ∀ i,i < q.2.2 → sget q.2.1.σ i = sget s.σ i:=by
 unfold xrange at h
 cases hsr:s.r with
 | true => rw [hsr] at h; cases h
 | false =>
  rw [hsr] at h
  simp only [cond_false] at h
  split at h
  ·rename_i fid fst cap hg
   split at h
   ·rename_i fn hfn
    split at h
    ·rename_i body hb hres
     cases hcond:(callable P fid && Nat.ble (fst ++ [G.yld s.c] ++ cap).length fn.ntmps) with
     | false => rw [hcond] at h; cases h
     | true =>
      rw [hcond] at h
      simp only [Bool.and_eq_true] at hcond
      simp only [cond_true,forceN_eq] at h
      split at h
      ·rename_i m hm
       obtain ⟨h1,h2⟩:=optFlat_spec h
       have hs0:∀ i,i < s.c → sget ((s.c,some (⟨0,[],some (.loop .ready none s.n s.fr ps as bd)⟩:Ob)) :: s.σ) i = sget s.σ i:=fun i hi => sget_cons_lt hi
       refine ⟨tr_rangeFunc hsr hg hcond.1 hfn hb (Nat.le_of_ble_eq_true hcond.2) hres ((hr.tr _ _ _ _ hm).mono ?_),fun q hq => ?_⟩
       ·rintro e s' ⟨q,hqm,rfl,he⟩
        obtain ⟨r,hr1,hr2⟩:=h1 q hqm
        have hgl:=(hr.inv _ _ _ _ hm q hqm).1
        split at hr1
        ·rename_i t ls pe n fr ps' as' bd' hx hob
         cases hli:lidle ls with
         | false => rw [hli] at hr1; cases hr1
         | true =>
          rw [hli] at hr1
          simp only [cond_true] at hr1
          have hidle:ls ≠ .busy:=fun x => by rw [x] at hli; cases hli
          have hE:∀ x,Eqv { s with σ:=(s.c,none) :: (s.c,some x) :: s'.σ,c:=s'.c } { n:=s.n,gl:=s.gl,fr:=s.fr,σ:=sdel q.2.1.σ s.c,c:=q.2.1.c,p:=s.p,r:=false }:=fun x => ⟨rfl,rfl,fun _ => rfl,fun i => by
           show sget (sdel q.2.1.σ s.c) i = sget ((s.c,none) :: (s.c,some x) :: s'.σ) i
           rw [sget_sdel,sget_cons,sget_cons]
           split
           ·rfl
           ·exact he.σ i,he.c,rfl,hsr.symm⟩
          refine ⟨xend_spec hx,he.gl.symm.trans hgl,t,ls,pe,n,fr,ps',as',bd',by rw [← he.σ]; exact hob,hidle,?_⟩
          cases pe with
          | none =>
           simp only at hr1 ⊢
           cases hr1
           exact ⟨_,hr2 _ (List.mem_singleton.2 rfl),rfl,hE _⟩
          | some cd =>
           simp only at hr1 ⊢
           exact ((hr.tr _ _ _ _ hr1).mono fun e s hp => post_sub hr2 hp).le (hE _).le
        ·cases hr1
       ·obtain ⟨x,hx,r,hr1,hq2⟩:=h2 q hq
        obtain ⟨_,_,a2⟩:=hr.inv _ _ _ _ hm x hx
        have key:∀ i,i < lmin low (lmin s.c x.2.2) → sget (sdel x.2.1.σ s.c) i = sget s.σ i:=fun i hi => by
         have e1:=Nat.lt_of_lt_of_le hi (lmin_r _ _)
         have e2:=Nat.lt_of_lt_of_le e1 (lmin_l _ _)
         have e3:=Nat.lt_of_lt_of_le e1 (lmin_r _ _)
         rw [sget_sdel,if_neg (by omega),a2 i e3]
         exact hs0 i e2
        split at hr1
        ·rename_i t ls pe n fr ps' as' bd' hx' hob
         cases hli:lidle ls with
         | false => rw [hli] at hr1; cases hr1
         | true =>
          rw [hli] at hr1
          simp only [cond_true] at hr1
          cases pe with
          | none =>
           simp only at hr1
           cases hr1
           obtain rfl:=List.mem_singleton.1 hq2
           exact ⟨rfl,lmin_l _ _,key⟩
          | some cd =>
           simp only at hr1
           obtain ⟨b1,b2,b3⟩:=hr.inv _ _ _ _ hr1 q hq2
           exact ⟨b1,Nat.le_trans b2 (lmin_l _ _),fun i hi => (b3 i hi).trans (key i (Nat.lt_of_lt_of_le hi b2))⟩
        ·cases hr1
      ·cases h
    ·cases h
   ·cases h
  ·cases h
theorem xregF_tr (hm:P.follows .mixedOrders = true) {E:XEnv} {run:XRun} (hr:RunOk P run) (ht:PureOk P E.tp) (hkc:KcOk P E) {id:Nat} {ops:Array Oper} {s:St} {low:Nat} {l:List (Exit × St × Nat)} (h:xregF P E run ops s low = some l):Tr P (.region id ops true) s (Post l):=by
 have ho:ops = ops.toList.toArray:=by simp
 unfold xregF at h
 split at h
 ·rename_i s1 lo1 inf hma
  rw [forceN_eq] at h
  cases hk:drawOk4 ops.toList inf s.n with
  | false => rw [hk] at h; cases h
  | true =>
   rw [hk] at h
   cases h
   rw [xresv_eq] at hma
   refine Tr.le ?_ (le_addResv (nMk ops.toList) s)
   have:=xrunF_sound hr ht hkc (K:=Post [(.normal,s1,lo1)] .normal) ops.toList _ _ _ s1 lo1 inf hma _ (Eqv.refl _) (fun st' e => ⟨_,List.mem_singleton.2 rfl,rfl,e⟩)
   rw [ho] at this ⊢
   exact tr_region_draw4 (l:=ops.toList) hm (by rw [(addResv_n _ s).1]; exact hk) this
 ·cases h
theorem xregF_inv {E:XEnv} {run:XRun} {ops:Array Oper} {s:St} {low:Nat} {l:List (Exit × St × Nat)} (h:xregF P E run ops s low = some l):∀ q ∈ l,q.2.1.gl = s.gl ∧ q.2.2 ≤ low ∧ ∀ i,i < q.2.2 → sget q.2.1.σ i = sget s.σ i:=by
 unfold xregF at h
 split at h
 ·rename_i s1 lo1 inf hma
  rw [forceN_eq] at h
  cases hk:drawOk4 ops.toList inf s.n with
  | false => rw [hk] at h; cases h
  | true =>
   rw [hk] at h
   cases h
   intro q hq
   obtain rfl:=List.mem_singleton.1 hq
   obtain ⟨a,b,c⟩:=xrunF_inv _ _ _ _ _ _ _ hma
   rw [xresv_eq] at a c
   obtain ⟨a1,a2,a3,a4⟩:=addResv_n (nMk ops.toList) s
   refine ⟨a.trans a2,Nat.le_trans b (lmin_l _ _),fun i hi => (c i hi).trans (a4 i (Nat.lt_of_lt_of_le hi (Nat.le_trans b (lmin_r _ _))))⟩
 ·cases h
theorem xregN_tr {E:XEnv} {run:XRun} (hr:RunOk P run) (ht:PureOk P E.tp) (hkc:KcOk P E) {id:Nat} {ops:Array Oper} {s:St} {low:Nat} {l:List (Exit × St × Nat)} (h:xregN P E run ops s low = some l):Tr P (.region id ops false) s (Post l):=by
 have ho:ops = ops.toList.toArray:=by simp
 unfold xregN at h
 split at h
 ·rename_i m hma
  cases h
  have:=xrun_sound hr ht hkc ops.toList s low m hma s (Eqv.refl s)
  rw [ho] at this ⊢
  refine (tr_regionN (Q:=fun e s' => e = .normal ∧ ∃ q ∈ m,Eqv s' q.1) (xrun_sound.runN_mono (fun s' hs' => ⟨rfl,hs'⟩) _ _ this)).mono ?_
  rintro e s' ⟨rfl,q,hq,he⟩
  exact ⟨_,List.mem_map.2 ⟨q,hq,rfl⟩,rfl,he⟩
 ·cases h
theorem xregD_tr (hm:P.follows .mixedOrders = true) {E:XEnv} {run:XRun} (hr:RunOk P run) (ht:PureOk P E.tp) (hkc:KcOk P E) {id:Nat} {ops:Array Oper} {s:St} {low:Nat} {l:List (Exit × St × Nat)} (h:xregD P E run ops s low = some l):Tr P (.region id ops true) s (Post l):=by
 have ho:ops = ops.toList.toArray:=by simp
 unfold xregD at h
 split at h
 ·rename_i s1 lo1 inf hma
  rw [forceN_eq] at h
  cases hk:drawOk3 ops.toList inf s.n with
  | false => rw [hk] at h; cases h
  | true =>
   rw [hk] at h
   cases h
   have:=xrunD_sound hr ht hkc (K:=Post [(.normal,s1,lo1)] .normal) ops.toList s low s1 lo1 inf hma s (Sm.refl s) (fun st' e => ⟨_,List.mem_singleton.2 rfl,rfl,e.eqv⟩)
   rw [ho] at this ⊢
   exact tr_region_draw3 (l:=ops.toList) hm hk this
 ·cases h
theorem drawOk3_rd {l:List Oper} {inf:List OI} {n:Nat} (h:drawStat l n = true) (hi:∀ q ∈ inf,∃ f,q = .rd f):drawOk3 l inf n = true:=by
 have hg:∀ i,∃ f,inf.getD i (.rd 0) = .rd f:=fun i => by
  rw [List.getD_eq_getElem?_getD]
  cases hx:inf[i]? with
  | none => exact ⟨0,rfl⟩
  | some q => exact hi q (List.mem_of_getElem? hx)
 have hok:∀ q:Nat × Nat,okP (inf.getD q.1 (.rd 0)) (inf.getD q.2 (.rd 0)) = true:=fun q => by
  obtain ⟨f,hf⟩:=hg q.1
  obtain ⟨f',hf'⟩:=hg q.2
  rw [hf,hf']; rfl
 unfold drawOk3
 rw [h,Bool.true_and,List.all_eq_true]
 exact fun q _ => hok q
theorem xregQ_ok (hm:P.follows .mixedOrders = true) {E:XEnv} {run:XRun} (hr:RunOk P run) (ht:PureOk P E.tp) (hkc:KcOk P E) {id:Nat} {ops:Array Oper} {draw:Bool} {s:St} {low:Nat} {l:List (Exit × St × Nat)} (hq:xisQ E ops.toList draw s.n = true) (h:xregQ P E run ops s low = some l):Tr P (.region id ops draw) s (Post l) ∧ ∀ q ∈ l,q.2.1.gl = s.gl ∧ q.2.2 ≤ low ∧ ∀ i,i < q.2.2 → sget q.2.1.σ i = sget s.σ i:=by
 simp only [xisQ,Bool.and_eq_true,Bool.or_eq_true,Bool.not_eq_true'] at hq
 obtain ⟨⟨h1,h2⟩,h3⟩:=hq
 unfold xregQ at h
 obtain ⟨n,gl,fr,σ,c,p,rr⟩:=s
 dsimp only at h
 split at h
 ·rename_i fr1 hf
  rw [forceFr_eq] at h
  cases h
  refine ⟨?_,fun q hq => ?_⟩
  ·have hle:Le P (⟨n,gl,fr1,σ,c,p,rr⟩:St) ⟨n,gl,xtrim ops.toList fr fr1,σ,c,p,rr⟩:=le_fr (st:=⟨n,gl,fr1,σ,c,p,rr⟩) fun i => fget_xtrim (fun i hi => xrunQ_frame ops.toList fr fr1 hf i hi) i
   have hT:Tr P (.region id ops draw) ⟨n,gl,fr,σ,c,p,rr⟩ (Post [(.normal,⟨n,gl,fr1,σ,c,p,rr⟩,low)]):=by
    cases draw with
    | false =>
     refine xregN_tr hr ht hkc (low:=low) ?_
     unfold xregN
     rw [show xrun P E run ops ops.toList ⟨n,gl,fr,σ,c,p,rr⟩ low = _ from xrunQ_run (s:=⟨n,gl,fr,σ,c,p,rr⟩) low ops.toList fr fr1 h1 h2 hf]
     rfl
    | true =>
     refine xregD_tr hm hr ht hkc (low:=low) ?_
     obtain ⟨inf,hi1,hi2⟩:=xrunQ_runD (s:=⟨n,gl,fr,σ,c,p,rr⟩) low ops.toList fr fr1 h1 h2 hf
     have hi1:xrunD P E run ops ops.toList ⟨n,gl,fr,σ,c,p,rr⟩ low = _:=hi1
     unfold xregD
     rw [hi1]
     simp only [forceN_eq]
     rw [drawOk3_rd (by simpa using h3) hi2]
     rfl
   intro cx a w R r k
   refine hT cx a w R r fun e s' a' w' hp r' => ?_
   obtain ⟨rfl,he⟩:=post_one hp
   exact k .normal ⟨n,gl,xtrim ops.toList fr fr1,σ,c,p,rr⟩ a' w' ⟨_,List.mem_singleton.2 rfl,rfl,Eqv.refl _⟩ (hle cx a' w' (he.rel r'))
  ·obtain rfl:=List.mem_singleton.1 hq
   exact ⟨rfl,Nat.le_refl _,fun _ _ => rfl⟩
 ·cases h
theorem xtrimL_ok {id:Nat} {ops:Array Oper} {draw:Bool} {s:St} {low:Nat} {m:Option (List (Exit × St × Nat))} {l:List (Exit × St × Nat)} (h:xtrimL ops s m = some l) (hm:∀ l',m = some l' → (Tr P (.region id ops draw) s (Post l') ∧ ∀ q ∈ l',q.2.1.gl = s.gl ∧ q.2.2 ≤ low ∧ ∀ i,i < q.2.2 → sget q.2.1.σ i = sget s.σ i) ∧ ∀ q ∈ l',∀ i,(∀ o ∈ ops.toList,o.dst ≠ some i) → fget q.2.1.fr i = fget s.fr i) :
  Tr P (.region id ops draw) s (Post l) ∧ ∀ q ∈ l,q.2.1.gl = s.gl ∧ q.2.2 ≤ low ∧ ∀ i,i < q.2.2 → sget q.2.1.σ i = sget s.σ i:=by
 unfold xtrimL at h
 split at h
 ·rename_i l'
  cases h
  obtain ⟨⟨hT,hI⟩,hF⟩:=hm l' rfl
  refine ⟨fun cx a w R r k => hT cx a w R r fun e s' a' w' hp r' => ?_,fun q hq => ?_⟩
  ·obtain ⟨q,hq,rfl,he⟩:=hp
   exact k _ { q.2.1 with fr:=xtrim ops.toList s.fr q.2.1.fr } a' w' ⟨_,List.mem_map.2 ⟨q,hq,rfl⟩,rfl,Eqv.refl _⟩ (le_fr (fun i => fget_xtrim (fun i hi => hF q hq i hi) i) cx a' w' (he.rel r'))
  ·obtain ⟨x,hx,rfl⟩:=List.mem_map.1 hq
   exact hI x hx
 ·cases h
theorem xreg_ok (hm:P.follows .mixedOrders = true) {E:XEnv} {run:XRun} (hr:RunOk P run) (ht:PureOk P E.tp) (hkc:KcOk P E) {id:Nat} {ops:Array Oper} {draw:Bool} {s:St} {low:Nat} {l:List (Exit × St × Nat)} (h:xreg P E run ops draw s low = some l):Tr P (.region id ops draw) s (Post l) ∧ ∀ q ∈ l,q.2.1.gl = s.gl ∧ q.2.2 ≤ low ∧ ∀ i,i < q.2.2 → sget q.2.1.σ i = sget s.σ i:=by
 unfold xreg at h
 rw [forceN_eq] at h
 cases hq:xisQ E ops.toList draw s.n with
 | true => rw [hq] at h; exact xregQ_ok hm hr ht hkc hq h
 | false =>
  rw [hq] at h
  simp only [cond_false] at h
  refine xtrimL_ok h fun l' hl => ?_
  cases draw with
  | false =>
   have hl:xregN P E run ops s low = some l':=hl
   refine ⟨⟨xregN_tr hr ht hkc hl,?_⟩,?_⟩
   ·unfold xregN at hl
    split at hl
    ·rename_i m hma
     cases hl
     intro q hq
     obtain ⟨x,hx,rfl⟩:=List.mem_map.1 hq
     exact xrun_inv hr hkc _ _ _ _ hma x hx
    ·cases hl
   ·unfold xregN at hl
    split at hl
    ·rename_i m hma
     cases hl
     intro q hq
     obtain ⟨x,hx,rfl⟩:=List.mem_map.1 hq
     exact xrun_frame _ _ _ _ hma x hx
    ·cases hl
  | true =>
   cases hu:useF E ops.toList with
   | true =>
    have hl:xregF P E run ops s low = some l':=by
     have hl:(bif useF E ops.toList then xregF P E run ops s low else xregD P E run ops s low) = some l':=hl
     rw [hu] at hl; exact hl
    refine ⟨⟨xregF_tr hm hr ht hkc hl,xregF_inv hl⟩,?_⟩
    unfold xregF at hl
    split at hl
    ·rename_i s1 lo1 inf hma
     rw [forceN_eq] at hl
     cases hk:drawOk4 ops.toList inf s.n with
     | false => rw [hk] at hl; cases hl
     | true =>
      rw [hk] at hl
      cases hl
      intro q hq i hi
      obtain rfl:=List.mem_singleton.1 hq
      have:=xrunF_frame _ _ _ _ _ _ _ hma i hi
      rw [xresv_eq,addResv_fr] at this
      exact this
    ·cases hl
   | false =>
    have hl:xregD P E run ops s low = some l':=by
     have hl:(bif useF E ops.toList then xregF P E run ops s low else xregD P E run ops s low) = some l':=hl
     rw [hu] at hl; exact hl
    refine ⟨⟨xregD_tr hm hr ht hkc hl,?_⟩,?_⟩
    ·unfold xregD at hl
     split at hl
     ·rename_i s1 lo1 inf hma
      rw [forceN_eq] at hl
      cases hk:drawOk3 ops.toList inf s.n with
      | false => rw [hk] at hl; cases hl
      | true =>
       rw [hk] at hl
       cases hl
       intro q hq
       obtain rfl:=List.mem_singleton.1 hq
       exact xrunD_inv hr hkc _ _ _ _ _ _ hma
     ·cases hl
    ·unfold xregD at hl
     split at hl
     ·rename_i s1 lo1 inf hma
      rw [forceN_eq] at hl
      cases hk:drawOk3 ops.toList inf s.n with
      | false => rw [hk] at hl; cases hl
      | true =>
       rw [hk] at hl
       cases hl
       intro q hq
       obtain rfl:=List.mem_singleton.1 hq
       exact xrunD_frame _ _ _ _ _ _ hma
     ·cases hl
theorem xstep_ok (hm:P.follows .mixedOrders = true) {E:XEnv} {run:XRun} (hr:RunOkL P run) (ht:PureOk P E.tp) (hkc:KcOk P E):RunOkL P (xstep P E run):=by
 have hro:=hr.toRunOk
 have hloop:∀ a s low l,xstep P E run (.loop a) s low = some l → ∃ n,TrN P a (Post l) n s:=by
  intro a s low l h
  simp only [xstep,xsSeq] at h
  split at h
  ·rename_i m hma
   obtain ⟨h1,_⟩:=optFlat_spec h
   obtain ⟨N,hN⟩:=bound_all (p:=fun (q:Exit × St × Nat) n => q.1 = .normal → TrN P a (Post l) n q.2.1) (fun q n m hle hp hn => TrN.mono (fun _ _ x => x) hle (hp hn)) m (fun q hq => by
    obtain ⟨r,hr1,hr2⟩:=h1 q hq
    unfold xsThen at hr1
    by_cases hn:q.1 = .normal
    ·rw [hn] at hr1
     obtain ⟨n,hn'⟩:=hr.loop _ _ _ _ hr1
     exact ⟨n,fun _ => TrN.mono (fun e s hp => post_sub hr2 hp) (Nat.le_refl _) hn'⟩
    ·exact ⟨0,fun x => absurd x hn⟩)
   refine ⟨N + 1,(hro.tr _ _ _ _ hma).mono ?_⟩
   rintro e s' ⟨q,hq,rfl,he⟩
   by_cases hn:q.1 = .normal
   ·rw [hn]
    exact thn_n ((hN q hq hn).le he.le)
   ·refine thn_x hn ?_
    obtain ⟨r,hr1,hr2⟩:=h1 q hq
    unfold xsThen at hr1
    have:r = [q]:=by
     split at hr1
     ·rename_i hx; exact absurd hx hn
     ·cases hr1; rfl
    subst this
    exact ⟨q,hr2 q (List.mem_singleton.2 rfl),rfl,he⟩
  ·cases h
 refine { tr:=fun c s low l h => ?_,inv:=fun c s low l h => ?_,loop:=hloop }
 ·cases c with
  | skip => simp only [xstep,Option.some.injEq] at h; subst h; exact tr_skip ⟨_,List.mem_singleton.2 rfl,rfl,Eqv.refl _⟩
  | label k => simp only [xstep,Option.some.injEq] at h; subst h; exact tr_label ⟨_,List.mem_singleton.2 rfl,rfl,Eqv.refl _⟩
  | exit k => simp only [xstep,Option.some.injEq] at h; subst h; exact tr_exit ⟨_,List.mem_singleton.2 rfl,rfl,Eqv.refl _⟩
  | ret => simp only [xstep,Option.some.injEq] at h; subst h; exact tr_ret ⟨_,List.mem_singleton.2 rfl,rfl,Eqv.refl _⟩
  | seq a b =>
   simp only [xstep,xsSeq] at h
   split at h
   ·rename_i m hma
    obtain ⟨h1,_⟩:=optFlat_spec h
    refine tr_seq ((hro.tr _ _ _ _ hma).mono ?_)
    rintro e s' ⟨q,hq,rfl,he⟩
    obtain ⟨r,hr1,hr2⟩:=h1 q hq
    unfold xsThen at hr1
    by_cases hn:q.1 = .normal
    ·rw [hn] at hr1 ⊢
     exact thn_n (((hro.tr _ _ _ _ hr1).mono fun e s hp => post_sub hr2 hp).le he.le)
    ·refine thn_x hn ?_
     have:r = [q]:=by
      split at hr1
      ·rename_i hx; exact absurd hx hn
      ·cases hr1; rfl
     subst this
     exact ⟨q,hr2 q (List.mem_singleton.2 rfl),rfl,he⟩
   ·cases h
  | block id a =>
   simp only [xstep,xsBlock] at h
   split at h
   ·rename_i m hma
    cases h
    refine tr_block ((hro.tr _ _ _ _ hma).mono ?_)
    rintro e s' ⟨q,hq,rfl,he⟩
    have hmem:(match q.1 with | .exit i => bif Nat.beq i id then ((.normal:Exit),q.2) else q | _ => q) ∈ m.map (fun q => match q.1 with | .exit i => bif Nat.beq i id then ((.normal:Exit),q.2) else q | _ => q):=List.mem_map.2 ⟨q,hq,rfl⟩
    by_cases hx:q.1 = .exit id
    ·rw [hx]
     refine blk_e ?_
     simp only [hx,Nat.beq_refl,cond_true] at hmem
     exact ⟨_,hmem,rfl,he⟩
    ·refine blk_x hx ?_
     refine ⟨q,?_,rfl,he⟩
     split at hmem
     ·rename_i i hi
      have:Nat.beq i id = false:=by
       cases hb:Nat.beq i id with
       | false => rfl
       | true => exact absurd (by rw [hi,Nat.eq_of_beq_eq_true hb]) hx
      rw [this] at hmem
      exact hmem
     ·exact hmem
   ·cases h
  | loop a =>
   obtain ⟨n,hn⟩:=hloop a s low l h
   exact tr_loopN n hn
  | cond x a b =>
   simp only [xstep,xsCond,gevF_eq] at h
   split at h
   ·rename_i t hx
    have hx:gev s x = .lit (.bool t):=hx
    cases t with
    | true => exact tr_cond hx ((hro.tr _ _ _ _ h).le (le_xdrop x s))
    | false => exact tr_cond hx ((hro.tr _ _ _ _ h).le (le_xdrop x s))
   ·cases h
  | region id ops draw => exact (xreg_ok hm hro ht hkc h).1
  | rangeFunc g ps as bd => exact (xrange_tr hro h).1
  | scope a =>
   simp only [xstep,xsScope] at h
   split at h
   ·rename_i m hma
    cases hg:m.all (fun q => !isGoto q.1) with
    | false => rw [hg] at h; cases h
    | true =>
     rw [hg] at h
     cases h
     refine tr_scope ((hro.tr _ _ _ _ hma).mono ?_)
     rintro e s' ⟨q,hq,rfl,he⟩
     exact ⟨by simpa using List.all_eq_true.1 hg q hq,q,hq,rfl,he⟩
   ·cases h
  | goto => simp [xstep] at h
  | refuse => simp [xstep] at h
 ·have flat:∀ {m:List (Exit × St × Nat)} {f:Exit × St × Nat → Option (List (Exit × St × Nat))} {a:Code},run a s low = some m → optFlat f m = some l → (∀ q r,f q = some r → ∀ y ∈ r,y.2.1.gl = q.2.1.gl ∧ y.2.2 ≤ q.2.2 ∧ ∀ i,i < y.2.2 → sget y.2.1.σ i = sget q.2.1.σ i) →
    ∀ q ∈ l,q.2.1.gl = s.gl ∧ q.2.2 ≤ low ∧ ∀ i,i < q.2.2 → sget q.2.1.σ i = sget s.σ i:=by
   intro m f a hma hf hq q hql
   obtain ⟨x,hx,r,hr1,hqr⟩:=(optFlat_spec hf).2 q hql
   obtain ⟨a1,a2,a3⟩:=hro.inv _ _ _ _ hma x hx
   obtain ⟨b1,b2,b3⟩:=hq x r hr1 q hqr
   exact ⟨b1.trans a1,Nat.le_trans b2 a2,fun i hi => (b3 i hi).trans (a3 i (Nat.lt_of_lt_of_le hi b2))⟩
  have one:∀ {e:Exit},l = [(e,s,low)] → ∀ q ∈ l,q.2.1.gl = s.gl ∧ q.2.2 ≤ low ∧ ∀ i,i < q.2.2 → sget q.2.1.σ i = sget s.σ i:=by
   rintro e rfl q hq
   obtain rfl:=List.mem_singleton.1 hq
   exact ⟨rfl,Nat.le_refl _,fun _ _ => rfl⟩
  have same:∀ (q:Exit × St × Nat) r,(some [q]:Option (List (Exit × St × Nat))) = some r → ∀ y ∈ r,y.2.1.gl = q.2.1.gl ∧ y.2.2 ≤ q.2.2 ∧ ∀ i,i < y.2.2 → sget y.2.1.σ i = sget q.2.1.σ i:=by
   intro q r h y hy
   cases h
   obtain rfl:=List.mem_singleton.1 hy
   exact ⟨rfl,Nat.le_refl _,fun _ _ => rfl⟩
  cases c with
  | skip => simp only [xstep,Option.some.injEq] at h; exact one h.symm
  | label k => simp only [xstep,Option.some.injEq] at h; exact one h.symm
  | exit k => simp only [xstep,Option.some.injEq] at h; exact one h.symm
  | ret => simp only [xstep,Option.some.injEq] at h; exact one h.symm
  | seq a b =>
   simp only [xstep,xsSeq] at h
   split at h
   ·rename_i m hma
    refine flat hma h fun q r hq => ?_
    unfold xsThen at hq
    split at hq
    ·exact hro.inv _ _ _ _ hq
    ·exact same q r hq
   ·cases h
  | block id a =>
   simp only [xstep,xsBlock] at h
   split at h
   ·rename_i m hma
    cases h
    intro q hq
    obtain ⟨x,hx,rfl⟩:=List.mem_map.1 hq
    have:=hro.inv _ _ _ _ hma x hx
    unfold xsBlk
    split
    ·rename_i i hi
     cases Nat.beq i id with
     | true => exact this
     | false => exact this
    ·exact this
   ·cases h
  | loop a =>
   simp only [xstep,xsSeq] at h
   split at h
   ·rename_i m hma
    refine flat hma h fun q r hq => ?_
    unfold xsThen at hq
    split at hq
    ·exact hro.inv _ _ _ _ hq
    ·exact same q r hq
   ·cases h
  | cond x a b =>
   simp only [xstep,xsCond] at h
   obtain ⟨d1,d2⟩:=xdrop_same x s
   split at h
   ·split at h
    ·intro q hq
     obtain ⟨a1,a2,a3⟩:=hro.inv _ _ _ _ h q hq
     exact ⟨a1.trans d1,a2,fun i hi => (a3 i hi).trans (by rw [d2])⟩
    ·intro q hq
     obtain ⟨a1,a2,a3⟩:=hro.inv _ _ _ _ h q hq
     exact ⟨a1.trans d1,a2,fun i hi => (a3 i hi).trans (by rw [d2])⟩
   ·cases h
  | region id ops draw => exact (xreg_ok hm hro ht hkc (id:=id) h).2
  | rangeFunc g ps as bd => exact (xrange_tr hro h).2
  | scope a =>
   simp only [xstep,xsScope] at h
   split at h
   ·rename_i m hma
    cases hg:m.all (fun q => !isGoto q.1) with
    | false => rw [hg] at h; cases h
    | true =>
     rw [hg] at h
     cases h
     exact hro.inv _ _ _ _ hma
   ·cases h
  | goto => simp [xstep] at h
  | refuse => simp [xstep] at h
theorem xcode_ok (hm:P.follows .mixedOrders = true) {E:XEnv} (ht:PureOk P E.tp) (hkc:KcOk P E):∀ k,RunOkL P (xcode P E k)
 | 0 => { tr:=(fun _ _ _ _ h => by cases h),inv:=(fun _ _ _ _ h => by cases h),loop:=(fun _ _ _ _ h => by cases h) }
 | k + 1 => xstep_ok hm (xcode_ok hm ht hkc k) ht hkc
end
end
end Go.Proofs.YtpehhhbmobmedaaGreatDoor
