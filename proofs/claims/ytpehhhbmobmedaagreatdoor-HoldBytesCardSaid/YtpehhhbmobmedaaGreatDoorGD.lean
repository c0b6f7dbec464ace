/- A machine of values over the model, third part: what a piece of code does to a state; its rules. -/
import Derived.Test.YtpehhhbmobmedaaGreatDoorGB
import Derived.Deep.LoopGhost
import Derived.RangeFuncLeaves
import Derived.RangeFuncCalls
import Derived.RangeFuncBound
import Derived.Laws.Cells
namespace Go.Proofs.YtpehhhbmobmedaaGreatDoor
set_option linter.unusedVariables false
set_option linter.unusedSimpArgs false
set_option linter.unusedSectionVars false
section
open Go.RowKit
section
variable {P:Program}

theorem loose_wide:Loose Fence.wide:=⟨fun _ => trivial,rfl,rfl⟩
theorem Loose.room {F:Fence} (h:Loose F) (n:Nat):F.room n:=fun d hd => by rw [h.depth] at hd; cases hd
theorem Loose.fenced {F:Fence} (h:Loose F) (m:Machine):m.fenced P F:=fun g _ => ⟨(fun ha => by rw [h.alive] at ha; cases ha),.inl (h.fn _),fun _ _ => h.fn _,h.room _⟩
theorem Loose.some {F:Fence} (h:Loose F) {n:Nat} (hs:F.depth.isSome = true):1 ≤ n:=by rw [h.depth] at hs; cases hs
theorem Loose.steps {F:Fence} (h:Loose F) {m m':Machine} (hs:Steps P m m'):StepsIn (Machine.fenced P F) P m m':=(StepsIn.of_steps hs).mono fun m _ => h.fenced m
theorem Loose.calls {F:Fence} (hL:Loose F) {n:Nat} {f:FuncId} {args:Array Value} {w:World} {R:Ending → World → Prop} (h:Calls P f args w R):CallsIn F n P f args w R :=
 ⟨hL.fn f,fun cs _ => by
  obtain ⟨e,w',fr,hR,hc,hf,hl⟩:=h cs
  refine ⟨e,w',fr,hR,?_,hf,hl⟩
  cases e with
  | returned v => exact hL.steps hc
  | panicked ch => exact hL.steps hc
  | outgrown => exact hc⟩
theorem Loose.rows {F:Fence} (hL:Loose F) {n:Nat} {row:String} {args:Array Value} {w:World} {R:Value → World → Prop} (h:Rows P row args w R):RowsIn F n P row args w R:=fun c cs _ => by
 obtain ⟨v,w',hR,hc⟩:=h c cs
 exact ⟨v,w',hR,hL.steps hc⟩
theorem Loose.oper {F:Fence} (hL:Loose F) {n:Nat} {o:Oper} (hd:∀ c,o.op ≠ .defer c) {a:Act} {w:World} {K:Act → World → Prop} {R:Exit → Act → World → Prop} (h:o.wp P a w K R):o.wpIn F n P a w K R:=by
 refine ⟨fun f _ => hL.fn f,?_⟩
 have hs:o.semAt F.round a.eval = execOp a.eval o:=by
  cases F.round with
  | none => rfl
  | some l => exact Oper.semAt_some l _ _ hd
 rw [hs]
 unfold Oper.wp Oper.upon at h
 unfold Oper.uponIn
 revert h
 generalize (execOp a.eval o).run P w = r
 intro h
 split at h
 ·exact h
 ·exact h
 ·exact h
 ·exact ⟨hL.some,(hL.calls h).mono fun e w' hq => by cases e <;> exact hq⟩
 ·exact ⟨hL.some,hL.rows h⟩
 ·exact h
 ·exact h.elim
def Tr (P:Program) (c:Code) (st:St) (Q:Exit → St → Prop):Prop :=
 ∀ cx a w R,Rel P cx st a w → (∀ x st' a' w',Q x st' → Rel P cx st' a' w' → R x a' w') → c.wpIn cx.F cx.nn P R a w
def Le (P:Program) (st st':St):Prop:=∀ cx a w,Rel P cx st a w → Rel P cx st' a w

theorem Le.refl (st:St):Le P st st:=fun _ _ _ h => h
theorem Le.trans {a b c:St} (h:Le P a b) (k:Le P b c):Le P a c:=fun cx x w r => k cx x w (h cx x w r)
theorem Tr.le {c:Code} {st st':St} {Q:Exit → St → Prop} (h:Tr P c st' Q) (l:Le P st st'):Tr P c st Q:=fun cx a w R r k => h cx a w R (l cx a w r) k
theorem Tr.mono {c:Code} {st:St} {Q Q':Exit → St → Prop} (h:Tr P c st Q) (hq:∀ x s,Q x s → Q' x s):Tr P c st Q':=fun cx a w R r k => h cx a w R r fun x s a' w' q => k x s a' w' (hq x s q)

theorem tr_skip {st:St} {Q:Exit → St → Prop} (h:Q .normal st):Tr P .skip st Q:=fun _ a w _ r k => wpIn_skip (k _ _ a w h r)
theorem tr_label {l:Nat} {st:St} {Q:Exit → St → Prop} (h:Q .normal st):Tr P (.label l) st Q:=fun _ a w _ r k => wpIn_label (k _ _ a w h r)
theorem tr_exit {id:Nat} {st:St} {Q:Exit → St → Prop} (h:Q (.exit id) st):Tr P (.exit id) st Q:=fun _ a w _ r k => wpIn_exit (k _ _ a w h r)
theorem tr_ret {st:St} {Q:Exit → St → Prop} (h:Q .ret st):Tr P .ret st Q:=fun _ a w _ r k => wpIn_ret (k _ _ a w h r)
def Thn (K:St → Prop) (Q:Exit → St → Prop):Exit → St → Prop
 | .normal,st => K st
 | e,st => Q e st
theorem tr_seq {x y:Code} {st:St} {Q:Exit → St → Prop} (h:Tr P x st (Thn (fun s => Tr P y s Q) Q)):Tr P (.seq x y) st Q:=fun cx a w R r k =>
 wpIn_seq (h cx a w _ r fun e s a' w' q r' => by
  cases e with
  | normal => exact q cx a' w' R r' k
  | _ => exact k _ s a' w' q r')
theorem wpIn_loop_ghost {F:Fence} {n:Nat} {Q:Exit → Act → World → Prop} {a:Act} {w:World} {c:Code} (I:Nat → Act → World → Prop) (n₀:Nat) (h₀:I n₀ a w)
  (round:∀ m a w,I m a w → c.wpIn F n P (Exit.then (fun a' w' => ∃ m',m' < m ∧ I m' a' w') Q) a w):(Code.loop c).wpIn F n P Q a w:=by
 have key:∀ a w,(∃ n,I n a w) → I (leastOf fun n => I n a w) a w:=fun a w h => (leastOf_spec h).1
 refine wpIn_loop (fun a w => ∃ n,I n a w) (fun a w => leastOf fun n => I n a w) ⟨n₀,h₀⟩ fun a w h => ?_
 refine wpIn_mono (round _ a w (key a w h)) fun e a' w' q => ?_
 cases e with
 | normal =>
  obtain ⟨m',hm,hI⟩:=q
  exact ⟨⟨m',hI⟩,Nat.lt_of_le_of_lt ((leastOf_spec (p:=fun n => I n a' w') ⟨m',hI⟩).2 m' hI) hm⟩
 | _ => exact q
def Blk' (id:Nat) (Q:Exit → St → Prop):Exit → St → Prop
 | .exit id',st => if id' = id then Q .normal st else Q (.exit id') st
 | e,st => Q e st
theorem tr_block {id:Nat} {c:Code} {st:St} {Q:Exit → St → Prop} (h:Tr P c st (Blk' id Q)):Tr P (.block id c) st Q:=fun cx a w R r k =>
 wpIn_block (h cx a w _ r fun e s a' w' q r' => by
  cases e with
  | exit id' =>
   simp only [Blk'] at q
   simp only [Exit.inBlock]
   split
   ·subst_vars; rw [if_pos rfl] at q; exact k _ s a' w' q r'
   ·rename_i hne; rw [if_neg hne] at q; exact k _ s a' w' q r'
  | _ => exact k _ s a' w' q r')
theorem tr_loop {ι:Type} (S:ι → St) (μ:ι → Nat) (i0:ι) {c:Code} {st:St} {Q:Exit → St → Prop} (h0:Le P st (S i0))
  (round:∀ i,Tr P c (S i) (Thn (fun s => ∃ j,Le P s (S j) ∧ μ j < μ i) Q)):Tr P (.loop c) st Q:=fun cx a w R r k =>
 wpIn_loop_ghost (fun n a w => ∃ i,μ i = n ∧ Rel P cx (S i) a w) (μ i0) ⟨i0,rfl,h0 cx a w r⟩ fun n a1 w1 ⟨i,hi,ri⟩ =>
  round i cx a1 w1 _ ri fun e s a' w' q r' => by
   cases e with
   | normal =>
    obtain ⟨j,hj,hlt⟩:=q
    exact ⟨μ j,by omega,j,rfl,hj cx a' w' r'⟩
   | _ => exact k _ s a' w' q r'

def glit:Value → G
 | .agg cs => if cs.toList.all Value.oneCell' then .agg (cs.toList.map .lit) else .lit (.agg cs)
 | v => .lit v
def gev (st:St):Operand → G
 | .tmp t => fget st.fr t
 | .const v => glit v
 | .global g => match st.gl.lookup g with | some l => .ptr l 0 | none => .junk
 | .func f => .clo (.func f) [] []
theorem IV.glit (S:Nat → Prop) (w:World) (v:Value):IV S w (glit v) v:=by
 unfold Go.Proofs.YtpehhhbmobmedaaGreatDoor.glit
 split
 ·rename_i cs
  split
  ·rename_i h
   refine .agg _ _ (by simp) (fun i u hu => ?_) (fun i g u hg hu => ?_)
   ·exact List.all_eq_true.1 h u (List.mem_of_getElem? (by simpa using hu))
   ·rw [List.getElem?_map] at hg
    rw [← Array.getElem?_toList] at hu
    rw [hu] at hg
    simp at hg
    subst hg
    exact .lit u
  ·exact .lit _
 ·exact .lit _
theorem RelB.ev {cx:Cx} {st:St} {a:Act} {w:World} {β:Bm} (h:RelB P cx st a w β) (x:Operand):RV β (Av cx.S0 β st.σ) w (gev st x) (a.eval x):=by
 cases x with
 | tmp t => exact h.fr t
 | const v => exact .imm _ _ (.glit _ _ v)
 | global g =>
  simp only [gev]
  split
  ·rename_i l hl; exact .imm _ _ (h.glob g l hl)
  ·exact .junk _
 | func f => exact .imm _ _ (.clo _ _ _ _ _ rfl rfl (by simp) (by simp))

theorem RV.lit_eq {β:Bm} {S:Nat → Prop} {w:World} {u v:Value} (h:RV β S w (.lit u) v):v = u:=by
 cases h with
 | imm _ _ h => cases h; rfl

theorem tr_cond {c:Operand} {x y:Code} {t:Bool} {st:St} {Q:Exit → St → Prop} (hc:gev st c = .lit (.bool t)) (h:Tr P (if t then x else y) st Q):Tr P (.cond c x y) st Q:=fun cx a w R ⟨β,r⟩ k =>
 wpIn_cond (t:=t) (by
  have:=r.ev c
  rw [hc] at this
  exact this.lit_eq) (h cx a w R ⟨β,r⟩ k)
theorem tr_cond2 {c:Operand} {x y:Code} {t:Bool} {st:St} {Q:Exit → St → Prop} (hc:gev st c = .lit (.bool t)) (h1:t = true → Tr P x st Q) (h2:t = false → Tr P y st Q):Tr P (.cond c x y) st Q :=
 tr_cond hc (by cases t; exact h2 rfl; exact h1 rfl)

def GS (P:Program) (o:Oper) (st st':St):Prop:=∀ cx a w K R,Rel P cx st a w → (∀ a' w',Rel P cx st' a' w' → K a' w') → o.wpIn cx.F cx.nn P a w K R
def gwant (st:St) (ops:Array Oper) (o:Oper):Option Bool :=
 match o.guard with
 | none => some true
 | some (j,want) => match (ops[j]?).bind (·.dst) with
  | some d => match fget st.fr d with
   | .lit (.bool b) => some (b == want)
   | .lit _ => some false
   | _ => none
  | none => some false
def Run (P:Program) (ops:Array Oper) (K:St → Prop):List Oper → St → Prop
 | [],st => K st
 | o :: rest,st => (gwant st ops o = some true ∧ ∃ st1,GS P o st st1 ∧ Run P ops K rest st1) ∨ (gwant st ops o = some false ∧ (∀ d,o.dst = some d → d < st.n) ∧ Run P ops K rest (st.put o.dst (.lit undef)))

theorem gwant_spec {cx:Cx} {st:St} {a:Act} {w:World} {β:Bm} (h:RelB P cx st a w β) {ops:Array Oper} {o:Oper} {t:Bool} (hw:gwant st ops o = some t):Region.wanted o (yielded ops a.tmps) = t:=by
 unfold gwant at hw
 unfold Region.wanted
 cases hg:o.guard with
 | none => rw [hg] at hw; simp at hw; simp [hw]
 | some x =>
  obtain ⟨j,want⟩:=x
  simp only [hg] at hw
  simp only [yielded]
  cases hd:(ops[j]?).bind (·.dst) with
  | none => rw [hd] at hw; simp at hw; subst hw; simp
  | some d =>
   rw [hd] at hw
   simp only at hw
   have hf:=h.fr d
   cases hv:fget st.fr d with
   | lit v =>
    rw [hv] at hw hf
    have hx:=hf.lit_eq
    cases v with
    | bool b =>
     simp only [Option.some.injEq] at hw
     have:a.tmps[d]? = some (.bool b):=by
      rw [Array.getD_eq_getD_getElem?] at hx
      cases he:a.tmps[d]? with
      | none => rw [he] at hx; simp [undef] at hx
      | some u => rw [he] at hx; simp at hx; rw [hx]
     simp [this,← hw]
    | _ =>
     simp only [Option.some.injEq] at hw
     subst hw
     rw [Array.getD_eq_getD_getElem?] at hx
     cases he:a.tmps[d]? with
     | none => simp [he]
     | some u =>
      rw [he] at hx
      simp only [Option.getD_some] at hx
      subst hx
      simp [he]
   | _ => rw [hv] at hw; simp at hw

theorem run_sound {ops:Array Oper} {K:St → Prop} {cx:Cx} {Q:Exit → Act → World → Prop} (hK:∀ st a w,K st → Rel P cx st a w → Q .normal a w):∀ (l:List Oper) (st:St) (a:Act) (w:World),Run P ops K l st → Rel P cx st a w → wpListIn cx.F cx.nn P ops Q l a w
 | [],st,a,w,h,r => wpListIn_nil (hK st a w h r)
 | o :: rest,st,a,w,h,r => by
  obtain ⟨β,rb⟩:=r
  rcases h with ⟨hg,st1,hs,hr⟩ | ⟨hg,hd,hr⟩
  ·refine wpListIn_step fun K' hK' => ?_
   rw [if_pos (gwant_spec rb hg)]
   exact hs cx a w K' Q ⟨β,rb⟩ fun a' w' r' => hK' _ _ (run_sound hK rest st1 a' w' hr r')
  ·refine wpListIn_step fun K' hK' => ?_
   rw [if_neg (by rw [gwant_spec rb hg]; simp)]
   exact ⟨fun f _ => rb.loose.fn f,hK' _ _ (run_sound hK rest _ _ w hr ⟨β,rb.put o.dst hd (.imm _ _ (.lit _))⟩)⟩

theorem tr_region {id:Nat} {l:List Oper} {st:St} {Q:Exit → St → Prop} (h:Run P l.toArray (Q .normal) l st):Tr P (.region id l.toArray false) st Q:=fun cx a w R r k =>
 wpIn_region_lit (run_sound (fun st' a' w' q r' => k _ st' a' w' q r') l st a w h r)
theorem thn_n {K:St → Prop} {Q:Exit → St → Prop} {st:St} (h:K st):Thn K Q .normal st:=h
theorem thn_e {K:St → Prop} {Q:Exit → St → Prop} {i:Nat} {st:St} (h:Q (.exit i) st):Thn K Q (.exit i) st:=h
theorem thn_r {K:St → Prop} {Q:Exit → St → Prop} {st:St} (h:Q .ret st):Thn K Q .ret st:=h
theorem blk_e {id:Nat} {Q:Exit → St → Prop} {st:St} (h:Q .normal st):Blk' id Q (.exit id) st:=by simp only [Blk',if_true]; exact h
theorem blk_ne {id i:Nat} {Q:Exit → St → Prop} {st:St} (hi:i ≠ id) (h:Q (.exit i) st):Blk' id Q (.exit i) st:=by simp only [Blk',if_neg hi]; exact h
theorem blk_n {id:Nat} {Q:Exit → St → Prop} {st:St} (h:Q .normal st):Blk' id Q .normal st:=h
theorem blk_r {id:Nat} {Q:Exit → St → Prop} {st:St} (h:Q .ret st):Blk' id Q .ret st:=h

theorem leaves_marks {F:Fence} {n:Nat} {fn:Func} {tmps:Array Value} {R:Ending → World → Prop}:∀ (ds:List Nat) (w:World),(∀ D ∈ ds,w.heap[D]? = some (.deferred (some []))) → ds.Nodup → LeavesInM F n P fn tmps R [] .returning (shutAll ds w) → LeavesInM F n P fn tmps R (ds.map markOf) .returning w
 | [],w,_,_,h => h
 | D :: ds,w,hd,hn,h => by
  obtain ⟨n1,n2⟩:=List.nodup_cons.1 hn
  refine ⟨by simp,.inl ⟨D,_,rfl,run_takeDeferred (hd D (by simp)),?_⟩⟩
  refine leaves_marks ds _ (fun D' hD' => ?_) n2 h
  rw [World.putObj_heap_other (fun e => n1 (by subst e; exact hD'))]
  exact hd D' (by simp [hD'])
theorem calls_tr {fid:FuncId} {fn:Func} {body:Code} {args:Array Value} {w:World} {R:Ending → World → Prop} {cx:Cx} {st:St} {Q:Exit → St → Prop} (hfn:P.funcs[fid]? = some fn) (hb:fn.body = some body) (hT:Tr P body st Q) (hF:cx.F = Fence.wide) (hnn:cx.nn = 9) (hr:Rel P cx st { tmps:=args ++ Array.replicate (fn.ntmps - args.size) undef,defers:=[] } w)
  (hQ:∀ e s a' w',Q e s → Rel P cx s a' w' → (e = .normal ∨ e = .ret) ∧ ∃ v,(results fn a'.tmps).run P w' = .ok v w' ∧ R (.returned v) w'):Calls P fid args w R:=by
 refine callsIn_wide.1 (callsIn_of_wp_marks hfn hb trivial (n:=9) ?_ rfl)
 have h:=hT cx _ w (bodyPostM Fence.wide 9 P fn R) hr fun e s a' w' hq ⟨β,h'⟩ => by
  obtain ⟨ds,d1,d2,d3⟩:=h'.defers
  obtain ⟨he,v,hv,hR⟩:=hQ e s _ _ hq ⟨β,h'.shut d3⟩
  have key:LeavesInM Fence.wide 9 P fn a'.tmps R a'.defers .returning w':=by
   rw [d1]
   exact leaves_marks ds w' (fun D hD => (d3 D hD).2) d2 ⟨v,hv,hR⟩
  rcases he with rfl | rfl <;> exact key
 rw [hF,hnn] at h
 exact h
attribute [irreducible] Thn Blk'
end
end
section
open Go.RowKit
section
variable {P:Program}

def spure {α:Type} (p:Program):Sem α → Option α
 | .pure a => some a
 | .program k => spure p (k p)
 | _ => none
theorem spure_run {α:Type} {p:Program}:∀ {s:Sem α} {a:α},spure p s = some a → ∀ w,s.run p w = .ok a w
 | .pure b,a,h,w => by simp [spure] at h; subst h; rfl
 | .program k,a,h,w => by
  simp only [spure] at h
  exact spure_run (s:=k p) h w
 | .load ..,a,h,w | .store ..,a,h,w | .new ..,a,h,w | .shape ..,a,h,w | .freeze ..,a,h,w | .frozen ..,a,h,w | .getObj ..,a,h,w | .setObj ..,a,h,w
 | .choose ..,a,h,w | .sys ..,a,h,w | .mark ..,a,h,w | .halt ..,a,h,w => by simp [spure] at h

def glits:List G → Option (List Value)
 | [] => some []
 | .lit v :: r => (glits r).map (v :: ·)
 | _ :: _ => none
def gval:G → Option Value
 | .lit v => some v
 | .agg l => (glits l).map fun us => .agg us.toArray
 | .clo fn [] [] => some (.func fn #[] #[])
 | _ => none
theorem glits_spec:∀ {l:List G} {us:List Value},glits l = some us → us.length = l.length ∧ ∀ (i:Nat) (g:G),l[i]? = some g → ∃ u,us[i]? = some u ∧ g = .lit u
 | [],us,h => by simp [glits] at h; subst h; simp
 | g :: r,us,h => by
  cases g with
  | lit v =>
   simp only [glits,Option.map_eq_some_iff] at h
   obtain ⟨us',h',rfl⟩:=h
   obtain ⟨h1,h2⟩:=glits_spec h'
   refine ⟨by simp [h1],fun i g hg => ?_⟩
   cases i with
   | zero => simp at hg; subst hg; exact ⟨v,rfl,rfl⟩
   | succ i => simpa using h2 i g (by simpa using hg)
  | _ => simp [glits] at h
theorem RV.arr {β:Bm} {S:Nat → Prop} {w:World} {l:List G} {us:List Value} (hl:glits l = some us) {xs:Array Value} (hs:xs.size = l.length) (h:∀ (i:Nat) (g:G) (u:Value),l[i]? = some g → xs[i]? = some u → RV β S w g u):xs = us.toArray:=by
 obtain ⟨h1,h2⟩:=glits_spec hl
 apply Array.ext (by simp [hs,h1])
 intro i hi hi'
 have hl:i < l.length:=by omega
 obtain ⟨u,hu,hg⟩:=h2 i l[i] (List.getElem?_eq_getElem hl)
 have:=h i l[i] xs[i] (List.getElem?_eq_getElem hl) (by simp [hi])
 rw [hg] at this
 have e:=this.lit_eq
 rw [e]
 simp at hi'
 simp [List.getElem?_eq_getElem hi'] at hu
 simp [hu]
theorem RV.val {β:Bm} {S:Nat → Prop} {w:World} {g:G} {u v:Value} (hg:gval g = some u) (h:RV β S w g v):v = u:=by
 cases g with
 | lit x => simp [gval] at hg; subst hg; exact h.lit_eq
 | agg l =>
  simp only [gval,Option.map_eq_some_iff] at hg
  obtain ⟨us,hl,rfl⟩:=hg
  cases h with
  | imm _ _ h =>
   cases h with
   | agg _ xs hs h1 h => rw [RV.arr (β:=fun _ => none) (S:=S) (w:=w) hl hs (fun i g u a b => .imm _ _ (h i g u a b))]
  | agg _ xs hs h1 h => rw [RV.arr hl hs h]
 | clo fn f c =>
  cases f with
  | cons _ _ => simp [gval] at hg
  | nil =>
   cases c with
   | cons _ _ => simp [gval] at hg
   | nil =>
    simp [gval] at hg
    subst hg
    cases h with
    | imm _ _ h =>
     cases h with
     | clo _ _ _ fs cs hf hc _ _ =>
      have e1:fs = #[]:=Array.eq_empty_of_size_eq_zero (by simpa using hf)
      have e2:cs = #[]:=Array.eq_empty_of_size_eq_zero (by simpa using hc)
      rw [e1,e2]
    | clo _ _ _ fs cs hf hc _ _ =>
     have e1:fs = #[]:=Array.eq_empty_of_size_eq_zero (by simpa using hf)
     have e2:cs = #[]:=Array.eq_empty_of_size_eq_zero (by simpa using hc)
     rw [e1,e2]
 | _ => simp [gval] at hg

def gplain (P:Program) (ρ:Operand → G) (o:Oper):Option G :=
 if o.op.operands.all (fun x => (gval (ρ x)).isSome) then
  match spure P (execOp (fun x => (gval (ρ x)).getD undef) o) with
  | some (.value v) => some (glit v)
  | _ => none
 else none

def tagg (P:Program) (t:TypeId):Option Bool:=(P.underlying t).map fun | .struct _ | .array _ _ => true | _ => false
def telem (P:Program) (t:TypeId):Option TypeId:=(P.underlying t).bind fun | .slice e => some e | _ => none
def tarr (P:Program) (t:TypeId):Option (Nat × TypeId):=(P.underlying t).bind fun | .array n e => some (n,e) | _ => none
def tsize (P:Program) (t:TypeId):Option Nat:=(P.info? t).map (·.size)
def tfield (P:Program) (t:TypeId) (k:Nat):Option (Nat × TypeId):=(P.underlying t).bind fun | .struct fs => fs[k]?.map (fun f => (f.offset,f.type)) | _ => none

def gpart (P:Program) (t:TypeId) (l:List G) (o:Nat):Option G :=
 match tagg P t,tsize P t with
 | some true,some n => if o + n ≤ l.length then some (.agg ((l.drop o).take n)) else none
 | some false,_ => l[o]?
 | _,_ => none
def gload (P:Program) (σ:Sto) (t:TypeId):G → Option G
 | .ref i o => (sget σ i).bind fun ob => gpart P t ob.l o
 | .ptr l o => gpart P t l o
 | _ => none
def gaddr (k:Nat):G → Option G
 | .ref i o => some (.ref i (o + k))
 | .ptr l o => some (.ptr l (o + k))
 | _ => none
def gint:G → Option Int
 | .lit (.int _ n) => some n
 | _ => none
def gindex (P:Program) (t:TypeId) (x:G) (i:Int):Option G :=
 match x,telem P t,tarr P t with
 | .sl l n,some e,_ => (tsize P e).bind fun s => if 0 ≤ i ∧ i < n ∧ i.toNat * s < l.length then some (.ptr l (i.toNat * s)) else none
 | .rsl j o n,some e,_ => (tsize P e).bind fun s => if 0 ≤ i ∧ i < n then some (.ref j (o + i.toNat * s)) else none
 | x,none,some (n,e) => (tsize P e).bind fun s => if 0 ≤ i ∧ i < n then gaddr (i.toNat * s) x else none
 | _,_,_ => none
def gslice (P:Program) (t:TypeId) (x:G) (lo hi:Option Int):Option G :=
 match x,telem P t with
 | .sl l n,some e => (tsize P e).bind fun s => match lo,hi with
  | none,none => some (.sl l n)
  | none,some h => if 0 ≤ h ∧ h ≤ n then some (.sl (l.take (h.toNat * s)) h.toNat) else none
  | some a,none => if 0 ≤ a ∧ a ≤ n ∧ l.length ≤ n * s then some (.sl (l.drop (a.toNat * s)) (n - a.toNat)) else none
  | some a,some h => if 0 ≤ a ∧ a ≤ h ∧ h ≤ n then some (.sl ((l.take (h.toNat * s)).drop (a.toNat * s)) (h.toNat - a.toNat)) else none
 | .rsl i o n,some e => (tsize P e).bind fun s => if s = 0 then none else match lo,hi with
  | none,none => some (.rsl i o n)
  | none,some h => if 0 ≤ h ∧ h ≤ n then some (.rsl i o h.toNat) else none
  | some a,none => if 0 ≤ a ∧ a ≤ n then some (.rsl i (o + a.toNat * s) (n - a.toNat)) else none
  | some a,some h => if 0 ≤ a ∧ a ≤ h ∧ h ≤ n then some (.rsl i (o + a.toNat * s) (h.toNat - a.toNat)) else none
 | _,_ => none
def glen:G → Option Int
 | .sl _ n => some n
 | .rsl _ _ n => some n
 | .lit (.slice _ n _) => some n
 | _ => none
def gbool:G → Option Bool
 | .lit (.bool b) => some b
 | _ => none
def optInt:Option G → Option (Option Int)
 | none => some none
 | some g => (gint g).map some
def evVal (P:Program) (ρ:Operand → G) (σ:Sto) (o:Oper):Option G :=
 match o.op with
 | .move x | .assign x => some (ρ x)
 | .pick c a b => (gbool (ρ c)).map fun t => if t then ρ a else ρ b
 | .load t x => gload P σ t (ρ x)
 | .nilCheck x => match ρ x with
  | .ref i o => some (.ref i o)
  | .ptr l o => some (.ptr l o)
  | .clo (.func f) a b => some (.clo (.func f) a b)
  | _ => none
 | .makeFunc fn f c => some (.clo fn (f.map ρ).toList (c.map ρ).toList)
 | .extract x k => match ρ x with
  | .tup l => l[k]?
  | _ => none
 | .makeInterface t x => (P.underlying t).bind fun | .interface _ => none | _ => some (.ifc t (ρ x))
 | .fieldAddr t x k => (tfield P t k).bind fun (off,ft) => (tsize P ft).bind fun n => if n = 0 then none else gaddr off (ρ x)
 | .field t x k => match ρ x with
  | .agg l => (tfield P t k).bind fun (off,ft) => gpart P ft l off
  | _ => none
 | .indexAddr t x i => (gint (ρ i)).bind fun k => gindex P t (ρ x) k
 | .index t x i => match ρ x with
  | .agg l => (tarr P t).bind fun (n,e) => (gint (ρ i)).bind fun k => (tsize P e).bind fun s => if 0 ≤ k ∧ k < n then gpart P e l (k.toNat * s) else none
  | _ => gplain P ρ o
 | .slice t x lo hi none => match ρ x with
  | .lit _ => gplain P ρ o
  | g => (optInt (lo.map ρ)).bind fun a => (optInt (hi.map ρ)).bind fun b => gslice P t g a b
 | .call { callee:=.builtin .len,args,argTypes } => match args.toList,argTypes.toList with
  | [x],[t] => if (telem P t).isSome then (glen (ρ x)).map fun n => .lit (.int .i64 n) else gplain P ρ o
  | _,_ => none
 | .call { callee:=.builtin .max,.. } | .call { callee:=.builtin .min,.. } | .binOp .. | .unOp .. | .convert .. => gplain P ρ o
 | _ => none
end
end
end Go.Proofs.YtpehhhbmobmedaaGreatDoor
