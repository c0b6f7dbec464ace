/- A machine of values over the model, thirteenth part: the steps as a walk takes them. -/
import Derived.Test.YtpehhhbmobmedaaGreatDoorGL
import Derived.IntWalk
namespace Go.Proofs.YtpehhhbmobmedaaGreatDoor
set_option linter.unusedVariables false
set_option linter.unusedSimpArgs false
set_option linter.unusedSectionVars false
section
open Go.RowKit
section
variable {P:Program} {rr:Bool}

theorem run_nil {ops:Array Oper} {K:St → Prop} {st:St} (h:K st):Run P ops K [] st:=h
theorem run_v {ops:Array Oper} {K:St → Prop} {op:Op} {ty:TypeId} {pos:String} {af:Array Edge} {rest:List Oper} {n:Nat} {gl:List (Nat × List G)} {fr:Fr} {σ:Sto} {c p:Nat} {g:G} {d:Nat} (he:evVal P (gev ⟨n,gl,fr,σ,c,p,rr⟩) σ ⟨some d,op,ty,pos,af,none⟩ = some g) (hd:d < n) (h:Run P ops K rest ⟨n,gl,(d,g) :: fr,σ,c,p,rr⟩):Run P ops K (⟨some d,op,ty,pos,af,none⟩ :: rest) ⟨n,gl,fr,σ,c,p,rr⟩ :=
 .inl ⟨rfl,_,gs_val (fun _ e => by cases e; exact hd) he,h⟩
theorem rund_nil {ops:Array Oper} {bars:List Nat} {K:St → Prop} {j:Nat} {st:St} (h:K st):RunD P ops bars K j [] st:=h
theorem rund_v {ops:Array Oper} {bars:List Nat} {K:St → Prop} {op:Op} {ty:TypeId} {pos:String} {af:Array Edge} {rest:List Oper} {n j:Nat} {gl:List (Nat × List G)} {fr:Fr} {σ:Sto} {c p:Nat} {g:G} {d:Nat} (he:evVal P (gev ⟨n,gl,fr,σ,c,p,rr⟩) σ ⟨some d,op,ty,pos,af,none⟩ = some g) (hd:d < n) (h:RunD P ops bars K (j + 1) rest ⟨n,gl,(d,g) :: fr,σ,c,p,rr⟩):RunD P ops bars K j (⟨some d,op,ty,pos,af,none⟩ :: rest) ⟨n,gl,fr,σ,c,p,rr⟩ :=
 .inl ⟨rfl,_,tg_val (fun _ e => by cases e; exact hd) he,h⟩

theorem tr_condT {c:Operand} {x y:Code} {st:St} {Q:Exit → St → Prop} (hc:gev st c = .lit (.bool true)) (h:Tr P x st Q):Tr P (.cond c x y) st Q:=tr_cond (t:=true) hc h
theorem tr_condF {c:Operand} {x y:Code} {st:St} {Q:Exit → St → Prop} (hc:gev st c = .lit (.bool false)) (h:Tr P y st Q):Tr P (.cond c x y) st Q:=tr_cond (t:=false) hc h
theorem tr_condP {c:Operand} {x y:Code} {st:St} {Q:Exit → St → Prop} {p:Prop} [Decidable p] (hc:gev st c = .lit (.bool (decide p))) (h1:p → Tr P x st Q) (h2:¬ p → Tr P y st Q):Tr P (.cond c x y) st Q :=
 tr_cond2 hc (fun h => h1 (of_decide_eq_true h)) (fun h => h2 (of_decide_eq_false h))

def gbin (P:Program) (op:BinOp) (t:TypeId) (x y:Operand) (gx gy:G):Option G:=match gval gx,gval gy with
 | some u,some v => (spure P (do eqGuard op t x y u v; binOp op t u v)).map glit
 | _,_ => none
theorem spure_bind {α β:Type} {p:Program}:∀ (s:Sem α) (f:α → Sem β),spure p (s >>= f) = (spure p s).bind fun a => spure p (f a)
 | .pure a,f => rfl
 | .program k,f => spure_bind (k p) f
 | .load ..,f | .store ..,f | .new ..,f | .shape ..,f | .freeze ..,f | .frozen ..,f | .getObj ..,f | .setObj ..,f
 | .choose ..,f | .sys ..,f | .mark ..,f | .halt ..,f => rfl
theorem ev_bin {ρ:Operand → G} {σ:Sto} {d:Option Tmp} {op:BinOp} {t t' ty:TypeId} {x y:Operand} {pos:String} {af:Array Edge} {gd:Option (Nat × Bool)}:evVal P ρ σ ⟨d,.binOp op t x y t',ty,pos,af,gd⟩ = gbin P op t x y (ρ x) (ρ y):=by
 simp only [evVal,gplain,gbin]
 cases hx:gval (ρ x) with
 | none => simp [Op.operands,hx]
 | some u =>
  cases hy:gval (ρ y) with
  | none => simp [Op.operands,hx,hy]
  | some v =>
   simp only [Op.operands,execOp,hx,hy,Option.getD_some]
   rw [if_pos (by simp [hx,hy])]
   have e:=spure_bind (p:=P) (do eqGuard op t x y u v; binOp op t u v:Sem Value) (fun r => (pure (Next.value r):Sem Next))
   rw [e]
   cases spure P (do eqGuard op t x y u v; binOp op t u v) with
   | none => rfl
   | some r => rfl
def gun (P:Program) (op:UnOp) (gx:G):Option G:=match gval gx with
 | some u => (spure P (Op.unary op u)).map glit
 | _ => none
theorem ev_un {ρ:Operand → G} {σ:Sto} {d:Option Tmp} {op:UnOp} {t ty:TypeId} {x:Operand} {pos:String} {af:Array Edge} {gd:Option (Nat × Bool)}:evVal P ρ σ ⟨d,.unOp op t x,ty,pos,af,gd⟩ = gun P op (ρ x):=by
 simp only [evVal,gplain,gun]
 cases hx:gval (ρ x) with
 | none => simp [Op.operands,hx]
 | some u =>
  simp only [Op.operands,execOp,hx,Option.getD_some]
  rw [if_pos (by simp [hx])]
  have e:=spure_bind (p:=P) (Op.unary op u) (fun r => (pure (Next.value r):Sem Next))
  rw [e]
  cases spure P (Op.unary op u) <;> rfl
theorem spure_pure {α:Type} {p:Program} (a:α):spure p (pure a:Sem α) = some a:=rfl

section
variable {t:TypeId} {x y:Operand} {k:IntKind} {a b:Int}
theorem gb_add:gbin P .add t x y (.lit (.int k a)) (.lit (.int k b)) = some (.lit (.int k (k.wrap (a + b)))):=by simp [gbin,gval,eqGuard,binOp,Op.intArith,spure_pure,glit]
theorem gb_sub:gbin P .sub t x y (.lit (.int k a)) (.lit (.int k b)) = some (.lit (.int k (k.wrap (a - b)))):=by simp [gbin,gval,eqGuard,binOp,Op.intArith,spure_pure,glit]
theorem gb_mul:gbin P .mul t x y (.lit (.int k a)) (.lit (.int k b)) = some (.lit (.int k (k.wrap (a * b)))):=by simp [gbin,gval,eqGuard,binOp,Op.intArith,spure_pure,glit]
theorem gb_lss:gbin P .lss t x y (.lit (.int k a)) (.lit (.int k b)) = some (.lit (.bool (decide (a < b)))):=by simp [gbin,gval,eqGuard,binOp,Op.intCmp,spure_pure,glit]
theorem gb_leq:gbin P .leq t x y (.lit (.int k a)) (.lit (.int k b)) = some (.lit (.bool (decide (a ≤ b)))):=by simp [gbin,gval,eqGuard,binOp,Op.intCmp,spure_pure,glit]
theorem gb_gtr:gbin P .gtr t x y (.lit (.int k a)) (.lit (.int k b)) = some (.lit (.bool (decide (b < a)))):=by simp [gbin,gval,eqGuard,binOp,Op.intCmp,spure_pure,glit]
theorem gb_geq:gbin P .geq t x y (.lit (.int k a)) (.lit (.int k b)) = some (.lit (.bool (decide (b ≤ a)))):=by simp [gbin,gval,eqGuard,binOp,Op.intCmp,spure_pure,glit]
theorem gb_eql:gbin P .eql t x y (.lit (.int k a)) (.lit (.int k b)) = some (.lit (.bool (decide (a = b)))):=by
 have e:(a == b) = decide (a = b):=by rw [Bool.eq_iff_iff]; simp
 simp [gbin,gval,eqGuard,binOp,Op.intCmp,spure_pure,glit,← e]
theorem gb_neq:gbin P .neq t x y (.lit (.int k a)) (.lit (.int k b)) = some (.lit (.bool (decide (a ≠ b)))):=by
 have e:(a != b) = decide (a ≠ b):=by rw [Bool.eq_iff_iff]; simp
 rw [← e]
 simp [gbin,gval,eqGuard,binOp,Op.intCmp,spure_pure,glit]
theorem gb_quo (h:b ≠ 0):gbin P .quo t x y (.lit (.int k a)) (.lit (.int k b)) = some (.lit (.int k (k.wrap (a.tdiv b)))):=by simp [gbin,gval,eqGuard,binOp,Op.intDiv,spure_pure,glit,h]
theorem gb_rem (h:b ≠ 0):gbin P .rem t x y (.lit (.int k a)) (.lit (.int k b)) = some (.lit (.int k (a.tmod b))):=by simp [gbin,gval,eqGuard,binOp,Op.intDiv,spure_pure,glit,h]
theorem gu_not {b:Bool}:gun P .not (.lit (.bool b)) = some (.lit (.bool !b)):=rfl
theorem gu_neg:gun P .neg (.lit (.int k a)) = some (.lit (.int k (k.wrap (0 - a)))):=rfl
end
section
variable {ρ:Operand → G} {σ:Sto} {d:Option Tmp} {ty t:TypeId} {x y z:Operand} {pos:String} {af:Array Edge} {gd:Option (Nat × Bool)} {n k:Nat}
theorem ev_move:evVal P ρ σ ⟨d,.move x,ty,pos,af,gd⟩ = some (ρ x):=rfl
theorem ev_assign:evVal P ρ σ ⟨d,.assign x,ty,pos,af,gd⟩ = some (ρ x):=rfl
theorem ev_pick:evVal P ρ σ ⟨d,.pick x y z,ty,pos,af,gd⟩ = (gbool (ρ x)).map fun t => if t then ρ y else ρ z:=rfl
theorem ev_load:evVal P ρ σ ⟨d,.load t x,ty,pos,af,gd⟩ = gload P σ t (ρ x):=rfl
def gnil:G → Option G
 | .ref i o => some (.ref i o)
 | .ptr l o => some (.ptr l o)
 | .clo (.func f) a b => some (.clo (.func f) a b)
 | _ => none
theorem ev_nil:evVal P ρ σ ⟨d,.nilCheck x,ty,pos,af,gd⟩ = gnil (ρ x):=rfl
theorem ev_clo {fn:Fn} {f c:Array Operand}:evVal P ρ σ ⟨d,.makeFunc fn f c,ty,pos,af,gd⟩ = some (.clo fn (f.map ρ).toList (c.map ρ).toList):=rfl
def gextract (k:Nat):G → Option G
 | .tup l => l[k]?
 | _ => none
theorem ev_extract:evVal P ρ σ ⟨d,.extract x k,ty,pos,af,gd⟩ = gextract k (ρ x):=rfl
def gfield (P:Program) (t:TypeId) (k:Nat):G → Option G
 | .agg l => (tfield P t k).bind fun (off,ft) => gpart P ft l off
 | _ => none
theorem ev_field:evVal P ρ σ ⟨d,.field t x k,ty,pos,af,gd⟩ = gfield P t k (ρ x):=rfl
def gfieldAddr (P:Program) (t:TypeId) (k:Nat) (g:G):Option G:=(tfield P t k).bind fun (off,ft) => (tsize P ft).bind fun n => if n = 0 then none else gaddr off g
theorem ev_fieldAddr:evVal P ρ σ ⟨d,.fieldAddr t x k,ty,pos,af,gd⟩ = gfieldAddr P t k (ρ x):=rfl
theorem ev_indexAddr:evVal P ρ σ ⟨d,.indexAddr t x y,ty,pos,af,gd⟩ = (gint (ρ y)).bind fun k => gindex P t (ρ x) k:=rfl
theorem ev_len:evVal P ρ σ ⟨d,.call { callee:=.builtin .len,args:=#[x],argTypes:=#[t] },ty,pos,af,gd⟩ = if (telem P t).isSome then (glen (ρ x)).map fun n => .lit (.int .i64 n) else gplain P ρ ⟨d,.call { callee:=.builtin .len,args:=#[x],argTypes:=#[t] },ty,pos,af,gd⟩:=rfl
def gsliceOf (P:Program) (t:TypeId) (g:G) (a b:Option (Option Int)):Option G:=a.bind fun a => b.bind fun b => gslice P t g a b
theorem ev_slice_sl {lo hi:Option Operand} {l:List G} {n:Nat} (h:ρ x = .sl l n):evVal P ρ σ ⟨d,.slice t x lo hi none,ty,pos,af,gd⟩ = gsliceOf P t (.sl l n) (optInt (lo.map ρ)) (optInt (hi.map ρ)):=by simp only [evVal,h]; rfl
theorem ev_slice_rsl {lo hi:Option Operand} {i o n:Nat} (h:ρ x = .rsl i o n):evVal P ρ σ ⟨d,.slice t x lo hi none,ty,pos,af,gd⟩ = gsliceOf P t (.rsl i o n) (optInt (lo.map ρ)) (optInt (hi.map ρ)):=by simp only [evVal,h]; rfl
theorem gev_tmp {st:St} {t:Tmp}:gev st (.tmp t) = fget st.fr t:=rfl
theorem gev_const {st:St} {v:Value}:gev st (.const v) = glit v:=rfl
theorem gev_func {st:St} {f:FuncId}:gev st (.func f) = .clo (.func f) [] []:=rfl
theorem glit_int {k:IntKind} {n:Int}:glit (.int k n) = .lit (.int k n):=rfl
theorem glit_bool {b:Bool}:glit (.bool b) = .lit (.bool b):=rfl
theorem glit_str {s:ByteArray}:glit (.string s) = .lit (.string s):=rfl
theorem glit_slice {a:Option Addr} {n c:Nat}:glit (.slice a n c) = .lit (.slice a n c):=rfl
theorem glit_nilf:glit .nilFunc = .lit .nilFunc:=rfl
theorem glit_ptr {a:Option Addr}:glit (.pointer a) = .lit (.pointer a):=rfl
theorem fget_nil {i:Nat}:fget [] i = .junk:=rfl
theorem sget_nil {i:Nat}:sget [] i = none:=rfl
end
theorem w64 {x:Int} (h : -9223372036854775808 ≤ x ∧ x ≤ 9223372036854775807):IntKind.i64.wrap x = x:=IntWalk.i64_in x h
theorem wu64 {x:Int} (h:0 ≤ x ∧ x ≤ 18446744073709551615):IntKind.u64.wrap x = x:=IntWalk.u64_in x h
theorem wu8 {x:Int} (h:0 ≤ x ∧ x ≤ 255):IntKind.u8.wrap x = x:=IntWalk.u8_in x h

/-! ### numbers, and rows of them -/
abbrev gI (z:Int):G:=.lit (.int .i64 z)
end
end
section
open Go.RowKit
section
variable {P:Program}

theorem frz_clo {st:St} {fn:Fn} {l l' m m':List G} (hl:l'.length = l.length) (hm:m'.length = m.length) (h:∀ (i:Nat) (g g':G),l[i]? = some g → l'[i]? = some g' → Frz P st g g') (h':∀ (i:Nat) (g g':G),m[i]? = some g → m'[i]? = some g' → Frz P st g g'):Frz P st (.clo fn l m) (.clo fn l' m'):=fun cx a w β r v hv => by
 obtain ⟨fs,cs,rfl,h1,h2,h3,h4⟩:=hv.clo_form
 refine .clo _ _ _ _ _ (by omega) (by omega) (fun i g u hg hu => ?_) (fun i g u hg hu => ?_)
 ·have hlt:=(List.getElem?_eq_some_iff.1 hg).1
  have hx:l[i]? = some (l[i]'(by omega)):=by simp [show i < l.length by omega]
  exact h i _ g hx hg cx a w β r u (h3 i _ u hx hu)
 ·have hlt:=(List.getElem?_eq_some_iff.1 hg).1
  have hx:m[i]? = some (m[i]'(by omega)):=by simp [show i < m.length by omega]
  exact h' i _ g hx hg cx a w β r u (h4 i _ u hx hu)

def Liv (β:Bm) (σ:Sto) (b:Nat):Prop:=∃ i ob C,sget σ i = some ob ∧ β i = some (some (b,C))
structure RS (P:Program) (β:Bm) (S:Nat → Prop) (σ:Sto) (w:World):Prop where
 ob:∀ i o,sget σ i = some o → RO P β (Av S β σ) w i o
 inj:∀ i j o o' b C D,sget σ i = some o → sget σ j = some o' → β i = some (some (b,C)) → β j = some (some (b,D)) → i = j
 sep:∀ i o b C,sget σ i = some o → β i = some (some (b,C)) → ¬ S b
structure MPost (P:Program) (w:World) (β:Bm) (S:Nat → Prop) (σ0:Sto) (p:Nat) (r:G) (σ1:Sto) (v:Value) (w':World) (β':Bm):Prop where
 pin:∀ i,i < p → β' i = β i
 rs:RS P β' S σ1 w'
 old:∀ b,Liv β' σ1 b → Liv β σ0 b ∨ w.heap.size ≤ b
 val:RV β' (Av S β' σ1) w' r v
 keep:Keeps (Liv β σ0) w w'
def FnM (P:Program) (gl:List (Nat × List G)) (f:FuncId) (gs:List G) (σ0:Sto) (c0 p:Nat) (r:G) (σ1:Sto):Prop :=
 ∀ (w:World) (β:Bm) (S:Nat → Prop) (vs:Array Value),(∀ b,S b → b < w.heap.size) → (∀ i,c0 ≤ i → β i = none) → Gls gl (Av S β σ0) w → RS P β S σ0 w → vs.size = gs.length → (∀ (i:Nat) (g:G) (u:Value),gs[i]? = some g → vs[i]? = some u → RV β (Av S β σ0) w g u) →
  Calls P f vs w fun e w' => ∃ v β',e = .returned v ∧ MPost P w β S σ0 p r σ1 v w' β'

def EndM (P:Program) (fn:Func) (r:G) (σ1:Sto) (e:Exit) (st:St):Prop :=
 (e = .normal ∨ e = .ret) ∧ ∃ gs ρ,fn.results.toList.mapM (gres P st) = some gs ∧ (∀ i,i < st.p → rho ρ i = some i) ∧ (∀ i i' j,rho ρ i = some j → rho ρ i' = some j → i = i') ∧ Wk P st ρ (gtup gs) r ∧ WkSt P st ρ σ1

theorem results_run {fn:Func} {st':St} {cx:Cx} {a':Act} {w':World} {β:Bm} (hr:RelB P cx st' a' w' β) {gs':List G} (hgs:fn.results.toList.mapM (gres P st') = some gs'):∃ v,(results fn a'.tmps).run P w' = .ok v w' ∧ RV β (Av cx.S0 β st'.σ) w' (gtup gs') v:=by
 obtain ⟨us,hus,hl,hru⟩:=gres_run hr _ _ hgs
 refine ⟨if h:us.toArray.size = 1 then us.toArray[0] else .tuple us.toArray,?_,?_⟩
 ·unfold results
  rw [Array.mapM_eq_mapM_toList]
  simp only [Sem.run_bind,Sem.run_map]
  erw [hus]
  rfl
 ·match gs',us,hl,hru with
  | [],[],_,_ => exact .tup _ _ rfl (by simp)
  | [g],[u],_,hru => exact hru 0 g u rfl rfl
  | g :: g' :: gr,u :: u' :: ur,hl,hru => exact .tup _ _ (by simpa using hl) (fun i x y hx hy => hru i x y hx (by simpa using hy))

theorem fnm_enter {gl:List (Nat × List G)} {f:FuncId} {fn:Func} {c:Code} {gs:List G} {σ0 σ1:Sto} {c0 p:Nat} {r:G} (hf:P.funcs[f]? = some fn) (hb:fn.body = some c) (hn:gs.length ≤ fn.ntmps) (hp:∀ i,i < p → ∃ ob,sget σ0 i = some ob) (h:Tr P c ⟨fn.ntmps,gl,enterFr 0 gs,σ0,c0,p,false⟩ (EndM P fn r σ1)):FnM P gl f gs σ0 c0 p r σ1:=by
 intro w β S vs hS hβ hG hR hsz hvs
 have hlive:∀ i o,sget σ0 i = some o → ∃ x,β i = some x:=by
  intro i o ho
  rcases (hR.ob i o ho).at with h1 | ⟨b,C,cur,h1,_⟩
  ·exact ⟨_,h1⟩
  ·exact ⟨_,h1⟩
 refine calls_tr (cx:=⟨w,Liv β σ0,S,fun i => if i < p then β i else none,Fence.wide,9⟩) hf hb h rfl rfl ⟨β,?_⟩ ?_
 ·exact {
   size:=by simp [hsz]; omega
   defers:=.nil rfl
   loose:=loose_wide
   rnd:=fun _ => rfl
   fr:=fun i => by
    show RV _ _ w (fget (enterFr 0 gs) i) _
    rw [fget_enter]
    simp only [Nat.zero_le,if_true,Nat.sub_zero]
    cases hg:gs[i]? with
    | none => exact .junk _
    | some g =>
     have hlt:=(List.getElem?_eq_some_iff.1 hg).1
     have hu:vs[i]? = some (vs[i]'(by omega)):=by simp [show i < vs.size by omega]
     have e:(vs ++ Array.replicate (fn.ntmps - vs.size) undef).getD i undef = vs[i]'(by omega):=by
      rw [Array.getD_eq_getD_getElem?,Array.getElem?_append_left (by omega),hu]; rfl
     rw [e]
     exact hvs i g _ hg hu
   ob:=hR.ob
   inj:=hR.inj
   own:=fun i o b C ho hb => .inl ⟨i,o,C,ho,hb⟩
   sep:=hR.sep
   fresh:=hβ
   glob:=hG
   keep:=Keeps.refl _ _
   old:=hS
   pin:=fun i x hx => by
    dsimp only at hx
    split at hx
    ·exact ⟨by assumption,hx⟩
    ·cases hx }
 ·rintro e st' a' w' ⟨he,gs',ρ,hgs,hpin,hinj,hw,hst⟩ ⟨β1,hr⟩
  obtain ⟨v,hres,hv⟩:=results_run hr hgs
  have hp':∀ i,i < p → i < st'.p ∧ β1 i = β i:=by
   intro i hi
   obtain ⟨ob,ho⟩:=hp i hi
   obtain ⟨x,hx⟩:=hlive i ob ho
   have:=hr.pin i x (by simp [hi,hx])
   exact ⟨this.1,by rw [this.2,hx]⟩
  -- a bound for the numbers
  obtain ⟨c',hc'⟩:∃ c',∀ q ∈ ρ,q.1 < c':=by
   refine ⟨(ρ.map (·.1)).foldr (fun a b => max (a + 1) b) 0,fun q hq => ?_⟩
   clear hinj hw hst hpin
   induction ρ with
   | nil => cases hq
   | cons x r ih =>
    simp only [List.map_cons,List.foldr_cons]
    rcases List.mem_cons.1 hq with rfl | hq
    ·omega
    ·have:=ih hq; omega
  have hw':=RelB.weaken (st:=st') (st':=⟨st'.n,st'.gl,[],σ1,c',st'.p,st'.r⟩) ρ rfl rfl rfl hpin hinj hc' wkfr_nil hst rfl hr
  have hpost:MPost P w β S σ0 p r σ1 v w' (fun i => (rho ρ i).bind β1):={
   pin:=fun i hi => by
    obtain ⟨h1,h2⟩:=hp' i hi
    simp only [hpin i h1,Option.bind_some,h2]
   rs:=⟨hw'.ob,hw'.inj,hw'.sep⟩
   old:=by
    rintro b ⟨i,ob,C,ho,hb⟩
    exact hw'.own i ob b C ho hb
   val:=(hw _ _ _ β1 hr v hv).step (fun _ _ x => x) (fun b _ hb => by
    rcases hb with hb | ⟨i,ob',C,h1,h2⟩
    ·exact .inl hb
    ·obtain ⟨j,ob,h3,h4,_⟩:=hst i ob' h1
     simp only [h3,Option.bind_some] at h2
     exact .inr ⟨i,j,ob,C,h3,h4,h2⟩) (Keeps.refl _ _)
   keep:=hr.keep }
  exact ⟨he,v,hres,v,_,rfl,hpost⟩

def Vw (P:Program) (st:St) (ρ:List (Nat × Nat)) (L:List Nat) (g g':G):Prop:=∀ cx a w β,RelB P cx st a w β → ∀ v,RV β (Av cx.S0 β st.σ) w g v →
 RV (fun i => (rho ρ i).bind β) (fun b => cx.S0 b ∨ ∃ i ob C,sget st.σ i = some ob ∧ β i = some (some (b,C)) ∧ i ∉ L) w g' v
theorem vw_imm {st:St} {ρ:List (Nat × Nat)} {L:List Nat} {g:G} (h:ImmG g):Vw P st ρ L g g:=fun cx a w β r v hv => .imm _ _ ((h _ _ _ _ hv).sub fun b _ hb => by
 rcases hb with hb | ⟨j,ob,C,h1,h2,_⟩
 ·exact .inl hb
 ·exact .inr ⟨j,ob,C,h1,h2⟩)
theorem vw_ref {st:St} {ρ:List (Nat × Nat)} {L:List Nat} {i j o:Nat} (h:rho ρ i = some j):Vw P st ρ L (.ref j o) (.ref i o):=fun cx a w β r v hv => by
 obtain ⟨b,C,hb,rfl⟩:=hv.ref_addr
 exact .ref i o b C (by simp [h,hb])
theorem vw_rsl {st:St} {ρ:List (Nat × Nat)} {L:List Nat} {i j o n:Nat} (h:rho ρ i = some j):Vw P st ρ L (.rsl j o n) (.rsl i o n):=fun cx a w β r v hv => by
 rcases hv.rsl_form with ⟨hb,rfl,rfl⟩ | ⟨b,C,o',cap,hb,rfl,hn,hm,ho',hC⟩
 ·exact .rsl0 i o (by simp [h,hb])
 ·exact .rsl i o n b C o' cap (by simp [h,hb]) hn hm ho' hC
theorem vw_clo {st:St} {ρ:List (Nat × Nat)} {L:List Nat} {fn:Fn} {l l' m m':List G} (hl:l'.length = l.length) (hm:m'.length = m.length) (h:∀ (i:Nat) (g g':G),l[i]? = some g → l'[i]? = some g' → Vw P st ρ L g g') (h':∀ (i:Nat) (g g':G),m[i]? = some g → m'[i]? = some g' → Vw P st ρ L g g'):Vw P st ρ L (.clo fn l m) (.clo fn l' m'):=fun cx a w β r v hv => by
 obtain ⟨fs,cs,rfl,h1,h2,h3,h4⟩:=hv.clo_form
 refine .clo _ _ _ _ _ (by omega) (by omega) (fun i g u hg hu => ?_) (fun i g u hg hu => ?_)
 ·have hlt:=(List.getElem?_eq_some_iff.1 hg).1
  have hx:l[i]? = some (l[i]'(by omega)):=by simp [show i < l.length by omega]
  exact h i _ g hx hg cx a w β r u (h3 i _ u hx hu)
 ·have hlt:=(List.getElem?_eq_some_iff.1 hg).1
  have hx:m[i]? = some (m[i]'(by omega)):=by simp [show i < m.length by omega]
  exact h' i _ g hx hg cx a w β r u (h4 i _ u hx hu)
def VwSt (P:Program) (st:St) (ρ:List (Nat × Nat)) (L:List Nat) (σ0:Sto):Prop:=∀ i ob',sget σ0 i = some ob' → ∃ j ob,rho ρ i = some j ∧ j ∉ L ∧ sget st.σ j = some ob ∧ ob'.t = ob.t ∧ ob'.l.length ≤ ob.l.length ∧ (ob.l = [] → ob'.l = []) ∧ (ob.x = none ∧ ob'.x = none) ∧ ∀ (k:Nat) (g g':G),ob.l[k]? = some g → ob'.l[k]? = some g' → Vw P st ρ L g g'
theorem vwst_nil {st:St} {ρ:List (Nat × Nat)} {L:List Nat}:VwSt P st ρ L []:=fun i ob h => by cases h
theorem vwst_cons {st:St} {ρ:List (Nat × Nat)} {L:List Nat} {i j:Nat} {ob:Ob} {t:TypeId} {l:List G} {σ:Sto} (h1:rho ρ i = some j) (hL:j ∉ L) (h2:sget st.σ j = some ob) (hx:ob.x = none) (ht:t = ob.t) (hl:l.length ≤ ob.l.length) (h:∀ (k:Nat) (g g':G),ob.l[k]? = some g → l[k]? = some g' → Vw P st ρ L g g') (hr:VwSt P st ρ L σ):VwSt P st ρ L ((i,some ⟨t,l,none⟩) :: σ):=fun k ob' hk => by
 rw [sget_cons] at hk
 split at hk
 ·cases hk
  subst_vars
  exact ⟨j,ob,h1,hL,h2,rfl,hl,fun e => List.eq_nil_of_length_eq_zero (by simp [e] at hl; simpa using hl),⟨hx,rfl⟩,h⟩
 ·exact hr k ob' hk

def Rn (ρ:List (Nat × Nat)) (g g':G):Prop:=∀ (β β1:Bm) (S:Nat → Prop) w v,RV β1 S w g v → RV (fun k => match rho ρ k with | some i => β1 i | none => β k) S w g' v
theorem rn_imm {ρ:List (Nat × Nat)} {g:G} (h:ImmG g):Rn ρ g g:=fun β β1 S w v hv => .imm _ _ (h _ _ _ _ hv)
theorem rn_rsl {ρ:List (Nat × Nat)} {i k o n:Nat} (h:rho ρ k = some i):Rn ρ (.rsl i o n) (.rsl k o n):=fun β β1 S w v hv => by
 rcases hv.rsl_form with ⟨hb,rfl,rfl⟩ | ⟨b,C,o',cap,hb,rfl,hn,hm,ho',hC⟩
 ·exact .rsl0 k o (by simp [h,hb])
 ·exact .rsl k o n b C o' cap (by simp [h,hb]) hn hm ho' hC
theorem rn_tup {ρ:List (Nat × Nat)} {l l':List G} (hl:l'.length = l.length) (h:∀ (i:Nat) (g g':G),l[i]? = some g → l'[i]? = some g' → Rn ρ g g'):Rn ρ (.tup l) (.tup l'):=fun β β1 S w v hv => by
 obtain ⟨us,rfl,h2,hr⟩:=hv.tup_form
 refine .tup _ _ (by omega) fun i g u hg hu => ?_
 have hlt:=(List.getElem?_eq_some_iff.1 hg).1
 have hx:l[i]? = some (l[i]'(by omega)):=by simp [show i < l.length by omega]
 exact h i _ g hx hg β β1 S w u (hr i _ u hx hu)

def AfSt (st:St) (ρ0 ρ1:List (Nat × Nat)) (L:List Nat) (σ1 σ':Sto):Prop:=∀ k ob',sget σ' k = some ob' →
 (∃ i ob,rho ρ1 k = some i ∧ sget σ1 i = some ob ∧ ob'.t = ob.t ∧ ob'.l.length ≤ ob.l.length ∧ (ob.l = [] → ob'.l = []) ∧ (ob.x = none ∧ ob'.x = none) ∧ ∀ (x:Nat) (g g':G),ob.l[x]? = some g → ob'.l[x]? = some g' → Rn ρ1 g g') ∨
 (rho ρ1 k = none ∧ sget st.σ k = some ob' ∧ k ∉ ρ0.map (·.2) ∧ k ∉ L)

theorem rho_mem {ρ:List (Nat × Nat)} {i j:Nat} (h:rho ρ i = some j):j ∈ ρ.map (·.2):=by
 unfold rho at h
 rw [List.lookup_eq_some_iff] at h
 obtain ⟨l1,l2,rfl,_⟩:=h
 simp
theorem rho_key {ρ:List (Nat × Nat)} {i j:Nat} (h:rho ρ i = some j):(i,j) ∈ ρ:=by
 unfold rho at h
 rw [List.lookup_eq_some_iff] at h
 obtain ⟨l1,l2,rfl,_⟩:=h
 simp

theorem gs_callM {o:Oper} {st:St} {f:Operand} {xs:Array Operand} {ats:Array TypeId} {fid:FuncId} {fst cap gs:List G} {r r':G} {σ0 σ1 σ':Sto} {c0 p c':Nat} (ρ0 ρ1:List (Nat × Nat)) (L:List Nat)
  (ho:o.op = .call { callee:=.value f,args:=xs,argTypes:=ats }) (hd:∀ d,o.dst = some d → d < st.n) (hf:gev st f = .clo (.func fid) fst cap) (hc:callable P fid = true)
  (hF:FnM P st.gl fid gs σ0 c0 p r σ1) (hl:gs.length = (fst ++ xs.toList.map (gev st) ++ cap).length) (hi:∀ (i:Nat) (g g':G),(fst ++ xs.toList.map (gev st) ++ cap)[i]? = some g → gs[i]? = some g' → Vw P st ρ0 L g g')
  (hinj0:∀ i i' j,rho ρ0 i = some j → rho ρ0 i' = some j → i = i') (hc0:∀ q ∈ ρ0,q.1 < c0) (hσ0:VwSt P st ρ0 L σ0)
  (hcc:st.c ≤ c') (hpin:∀ k i,rho ρ1 k = some i → k < st.c → i < p ∧ rho ρ0 i = some k) (hinj1:∀ k k' i,rho ρ1 k = some i → rho ρ1 k' = some i → k = k') (hc1:∀ q ∈ ρ1,q.1 < c') (hσ':AfSt st ρ0 ρ1 L σ1 σ') (hr:Rn ρ1 r r') :
  GS P o st ({ st with σ:=σ',c:=c' }.put o.dst r'):=by
 intro cx a w K R ⟨β,h⟩ hK
 obtain ⟨vs,hrun,hsz,hv⟩:=run_call h ho hf hc
 refine h.loose.oper (fun c hc => by rw [ho] at hc; cases hc) ?_
 unfold Oper.wp
 rw [hrun]
 -- the callee's view
 let βc:Bm:=fun i => (rho ρ0 i).bind β
 let S:Nat → Prop:=fun b => cx.S0 b ∨ ∃ i ob C,sget st.σ i = some ob ∧ β i = some (some (b,C)) ∧ i ∉ ρ0.map (·.2) ∧ i ∉ L
 have hlivc:∀ b,Liv βc σ0 b → ∃ j ob C,j ∈ ρ0.map (·.2) ∧ j ∉ L ∧ sget st.σ j = some ob ∧ β j = some (some (b,C)):=by
  rintro b ⟨i,ob',C,h1,h2⟩
  obtain ⟨j,ob,h3,h4,h5,_⟩:=hσ0 i ob' h1
  have h2':(rho ρ0 i).bind β = some (some (b,C)):=h2
  rw [h3] at h2'
  exact ⟨j,ob,C,rho_mem h3,h4,h5,h2'⟩
 have hsub:∀ b,Av S βc σ0 b → cx.S0 b ∨ ∃ i ob C,sget st.σ i = some ob ∧ β i = some (some (b,C)) ∧ i ∉ L:=by
  rintro b ((hb | ⟨i,ob,C,h1,h2,_,h3⟩) | hb)
  ·exact .inl hb
  ·exact .inr ⟨i,ob,C,h1,h2,h3⟩
  ·obtain ⟨j,ob,C,_,h2,h3,h4⟩:=hlivc b hb
   exact .inr ⟨j,ob,C,h3,h4,h2⟩
 have hsubA:∀ b,Av S βc σ0 b → Av cx.S0 β st.σ b:=by
  intro b hb
  rcases hsub b hb with hb | ⟨i,ob,C,h1,h2,_⟩
  ·exact .inl hb
  ·exact .inr ⟨i,ob,C,h1,h2⟩
 have hSlt:∀ b,S b → b < w.heap.size:=by
  rintro b (hb | ⟨i,ob,C,h1,h2,_⟩)
  ·exact h.keep.lt (h.old b hb)
  ·exact h.lt h1 h2
 have hRS:RS P βc S σ0 w:={
  ob:=fun i ob' h1 => by
   obtain ⟨j,ob,h3,h4,h5,h6,h7,h8,⟨hx1,hx2⟩,h9⟩:=hσ0 i ob' h1
   rcases h.ob j ob h5 with ⟨e1,e2,_⟩ | ⟨b,x',o',hx',_⟩ | ⟨b,C,cur,_,e1,e2,e3,e4,e5,e6⟩
   ·exact .inl ⟨by show (rho ρ0 i).bind β = _; rw [h3]; exact e1,h8 e2,.inl hx2⟩
   ·rw [hx1] at hx'; cases hx'
   ·refine .inr (.inr ⟨b,C,cur,hx2,by show (rho ρ0 i).bind β = _; rw [h3]; exact e1,by rw [h6]; exact e2,by rw [h6]; exact e3,e4,by omega,fun k g' hg' => ?_⟩)
    have hlt:=(List.getElem?_eq_some_iff.1 hg').1
    have hx:ob.l[k]? = some (ob.l[k]'(by omega)):=by simp [show k < ob.l.length by omega]
    obtain ⟨u,hu,h1',hr⟩:=e6 k _ hx
    exact ⟨u,hu,h1',(h9 k _ g' hx hg' cx a w β h u hr).step (fun _ _ x => x) (fun b _ hb => hsub b hb) (Keeps.refl _ _)⟩
  inj:=fun i i' o1 o2 b C D h1 h2 h3 h4 => by
   obtain ⟨j,ob,e1,_,e3,_⟩:=hσ0 i o1 h1
   obtain ⟨j',ob',f1,_,f3,_⟩:=hσ0 i' o2 h2
   have h3':(rho ρ0 i).bind β = some (some (b,C)):=h3
   have h4':(rho ρ0 i').bind β = some (some (b,D)):=h4
   rw [e1] at h3'
   rw [f1] at h4'
   have:=h.inj j j' ob ob' b C D e3 f3 h3' h4'
   subst this
   exact hinj0 i i' j e1 f1
  sep:=fun i o1 b C h1 h2 hb => by
   obtain ⟨j,ob,e1,e2,e3,_⟩:=hσ0 i o1 h1
   have h2':(rho ρ0 i).bind β = some (some (b,C)):=h2
   rw [e1] at h2'
   rcases hb with hb | ⟨k,ob',D,f1,f2,f3,_⟩
   ·exact h.sep j ob b C e3 h2' hb
   ·have:=h.inj j k ob ob' b C D e3 f1 h2' f2
    subst this
    exact f3 (rho_mem e1) }
 refine (hF w βc S vs hSlt (fun i hi => ?_) (fun g l hl => (h.glob g l hl).sub fun b _ hb => hsubA b hb) hRS (by omega) (fun i g u hg hu => ?_)).mono ?_
 ·show (rho ρ0 i).bind β = none
  cases hr0:rho ρ0 i with
  | none => rfl
  | some j => have:=hc0 _ (rho_key hr0); simp at this; omega
 ·have hlt:=(List.getElem?_eq_some_iff.1 hg).1
  have hx:(fst ++ xs.toList.map (gev st) ++ cap)[i]? = some ((fst ++ xs.toList.map (gev st) ++ cap)[i]'(by omega)):=by rw [List.getElem?_eq_getElem]
  exact (hi i _ g hx hg cx a w β h u (hv i _ u hx hu)).step (fun _ _ x => x) (fun b _ hb => hsub b hb) (Keeps.refl _ _)
 ·rintro e w' ⟨v,β1,rfl,M⟩
  refine hK _ _ ⟨fun k => match rho ρ1 k with | some i => β1 i | none => β k,?_⟩
  have hext:∀ k x,β k = some x → (match rho ρ1 k with | some i => β1 i | none => β k) = some x:=by
   intro k x hk
   cases hr1:rho ρ1 k with
   | none => exact hk
   | some i =>
    have hkc:k < st.c:=by
     rcases Nat.lt_or_ge k st.c with h' | h'
     ·exact h'
     ·rw [h.fresh k h'] at hk; cases hk
    obtain ⟨h1,h2⟩:=hpin k i hr1 hkc
    show β1 i = some x
    rw [M.pin i h1]
    show (rho ρ0 i).bind β = some x
    rw [h2]; exact hk
  have hkp:Keeps (Av cx.S0 β st.σ) w w':=M.keep.mono fun b _ hb => by
   obtain ⟨j,ob,C,_,_,h3,h4⟩:=hlivc b hb
   exact .inr ⟨j,ob,C,h3,h4⟩
  -- an object of the new state
  have hnew:∀ k ob' b C,sget σ' k = some ob' → (match rho ρ1 k with | some i => β1 i | none => β k) = some (some (b,C)) →
    (∃ i ob,rho ρ1 k = some i ∧ sget σ1 i = some ob ∧ β1 i = some (some (b,C))) ∨ (rho ρ1 k = none ∧ sget st.σ k = some ob' ∧ k ∉ ρ0.map (·.2) ∧ k ∉ L ∧ β k = some (some (b,C))):=by
   intro k ob' b C hk hb
   rcases hσ' k ob' hk with ⟨i,ob,h1,h2,_⟩ | ⟨h1,h2,h3,h4⟩
   ·rw [h1] at hb; exact .inl ⟨i,ob,h1,h2,hb⟩
   ·rw [h1] at hb; exact .inr ⟨h1,h2,h3,h4,hb⟩
  have hAv:∀ b,Av cx.S0 (fun k => match rho ρ1 k with | some i => β1 i | none => β k) σ' b → Av S β1 σ1 b:=by
   rintro b (hb | ⟨k,ob',C,hk,hb⟩)
   ·exact .inl (.inl hb)
   ·rcases hnew k ob' b C hk hb with ⟨i,ob,_,h2,h3⟩ | ⟨_,h2,h3,h4,h5⟩
    ·exact .inr ⟨i,ob,C,h2,h3⟩
    ·exact .inl (.inr ⟨k,ob',C,h2,h5,h3,h4⟩)
  have hAo:∀ b,b < w.heap.size → Av cx.S0 (fun k => match rho ρ1 k with | some i => β1 i | none => β k) σ' b → Av cx.S0 β st.σ b:=by
   intro b hlt hb
   rcases hAv b hb with (hb | ⟨i,ob,C,h1,h2,_⟩) | hb
   ·exact .inl hb
   ·exact .inr ⟨i,ob,C,h1,h2⟩
   ·rcases M.old b hb with hb | hb
    ·obtain ⟨j,ob,C,_,_,h3,h4⟩:=hlivc b hb
     exact .inr ⟨j,ob,C,h3,h4⟩
    ·omega
  have hmid:RelB P cx { st with σ:=σ',c:=c' } a w' (fun k => match rho ρ1 k with | some i => β1 i | none => β k):={
   size:=h.size
   defers:=h.defers.keep M.keep (fun D hD hx => by
    obtain ⟨j,ob,C,_,_,h3,h4⟩:=hlivc D hx
    exact h.not_marks h3 h4 hD)
   loose:=h.loose
   rnd:=h.rnd
   fr:=fun i => (h.fr i).step hext hAo hkp
   ob:=fun k ob' hk => by
    rcases hσ' k ob' hk with ⟨i,ob,h1,h2,h3,h4,h5,h6⟩ | ⟨h1,h2,h3,h4⟩
    ·obtain ⟨⟨hx1,hx2⟩,h6⟩:=h6
     rcases M.rs.ob i ob h2 with ⟨e1,e2,_⟩ | ⟨b,x',o',hx',_⟩ | ⟨b,C,cur,_,e1,e2,e3,e4,e5,e6⟩
     ·exact .inl ⟨by simp only [h1]; exact e1,h5 e2,.inl hx2⟩
     ·rw [hx1] at hx'; cases hx'
     ·refine .inr (.inr ⟨b,C,cur,hx2,by simp only [h1]; exact e1,by rw [h3]; exact e2,by rw [h3]; exact e3,e4,by omega,fun x g' hg' => ?_⟩)
      have hlt:=(List.getElem?_eq_some_iff.1 hg').1
      have hx:ob.l[x]? = some (ob.l[x]'(by omega)):=by simp [show x < ob.l.length by omega]
      obtain ⟨u,hu,h1',hr'⟩:=e6 x _ hx
      exact ⟨u,hu,h1',(h6 x _ g' hx hg' β β1 _ _ u hr').step (fun _ _ x => x) (fun b _ hb => hAv b hb) (Keeps.refl _ _)⟩
    ·refine (h.ob k ob' h2).step hext hAo hkp (fun b C hb => M.keep.block b (h.lt h2 hb) (fun hx => ?_))
     obtain ⟨j,ob,D,f1,_,f3,f4⟩:=hlivc b hx
     have:=h.inj j k ob ob' b D C f3 h2 f4 hb
     subst this
     exact h3 f1
   inj:=fun k k' o1 o2 b C D h1 h2 h3 h4 => by
    rcases hnew k o1 b C h1 h3 with ⟨i,ob,e1,e2,e3⟩ | ⟨e1,e2,e3,e4,e5⟩ <;> rcases hnew k' o2 b D h2 h4 with ⟨i',ob',f1,f2,f3⟩ | ⟨f1,f2,f3,f4,f5⟩
    ·have:=M.rs.inj i i' ob ob' b C D e2 f2 e3 f3
     subst this
     exact hinj1 k k' i e1 f1
    ·exfalso
     rcases M.old b ⟨i,ob,C,e2,e3⟩ with hb | hb
     ·obtain ⟨j,ob2,E,g1,_,g3,g4⟩:=hlivc b hb
      have:=h.inj j k' ob2 o2 b E D g3 f2 g4 f5
      subst this
      exact f3 g1
     ·have:=h.lt f2 f5; omega
    ·exfalso
     rcases M.old b ⟨i',ob',D,f2,f3⟩ with hb | hb
     ·obtain ⟨j,ob2,E,g1,_,g3,g4⟩:=hlivc b hb
      have:=h.inj j k ob2 o1 b E C g3 e2 g4 e5
      subst this
      exact e3 g1
     ·have:=h.lt e2 e5; omega
    ·exact h.inj k k' o1 o2 b C D e2 f2 e5 f5
   own:=fun k o1 b C h1 h3 => by
    rcases hnew k o1 b C h1 h3 with ⟨i,ob,e1,e2,e3⟩ | ⟨e1,e2,e3,e4,e5⟩
    ·rcases M.old b ⟨i,ob,C,e2,e3⟩ with hb | hb
     ·obtain ⟨j,ob2,E,g1,_,g3,g4⟩:=hlivc b hb
      exact h.own j ob2 b E g3 g4
     ·have:=h.keep.size; right; omega
    ·exact h.own k o1 b C e2 e5
   sep:=fun k o1 b C h1 h3 => by
    rcases hnew k o1 b C h1 h3 with ⟨i,ob,e1,e2,e3⟩ | ⟨e1,e2,e3,e4,e5⟩
    ·exact fun hx => M.rs.sep i ob b C e2 e3 (.inl hx)
    ·exact h.sep k o1 b C e2 e5
   fresh:=fun k hk => by
    have hk':c' ≤ k:=hk
    cases hr1:rho ρ1 k with
    | none => simp only []; exact h.fresh k (by omega)
    | some i => have:=hc1 _ (rho_key hr1); simp at this; omega
   glob:=fun g l hl => (h.glob g l hl).step hAo hkp
   keep:=h.keep.then M.keep (fun b hb hx => by
    obtain ⟨j,ob2,E,g1,_,g3,g4⟩:=hlivc b hx
    rcases h.own j ob2 b E g3 g4 with h1 | h1
    ·exact h1
    ·omega)
   old:=h.old
   pin:=fun i x hx => ⟨(h.pin i x hx).1,hext i x (h.pin i x hx).2⟩ }
  exact hmid.put o.dst hd ((hr β β1 _ _ v M.val).step (fun _ _ x => x) (fun b _ hb => hAv b hb) (Keeps.refl _ _))
end
end
end Go.Proofs.YtpehhhbmobmedaaGreatDoor
