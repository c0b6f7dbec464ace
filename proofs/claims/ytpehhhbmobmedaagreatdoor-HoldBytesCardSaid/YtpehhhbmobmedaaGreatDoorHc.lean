/- A machine of values over the model: walks that come to one end, told by what is so there; calls in place with a store of any kind. -/
import Derived.Test.YtpehhhbmobmedaaGreatDoorEB
import Derived.Test.YtpehhhbmobmedaaGreatDoorG2
namespace Go.Proofs.YtpehhhbmobmedaaGreatDoor
set_option linter.unusedVariables false
set_option linter.unusedSimpArgs false
set_option linter.unusedSectionVars false
section
open Go.RowKit
section
variable {P:Program}

def Ex (P:Program) (c:Code) (st:St) (G:Exit → St → Prop):Prop:=∃ e s,G e s ∧ Tr P c st (fun e' s' => e' = e ∧ s' = s)
theorem Ex.tr {c:Code} {st:St} {G:Exit → St → Prop} (h:Ex P c st G):Tr P c st G:=by
 obtain ⟨e,s,hg,h⟩:=h
 exact h.mono fun e' s' ⟨h1,h2⟩ => by subst h1; subst h2; exact hg
theorem Ex.mono {c:Code} {st:St} {G G':Exit → St → Prop} (h:Ex P c st G) (hg:∀ e s,G e s → G' e s):Ex P c st G':=by
 obtain ⟨e,s,hq,h⟩:=h
 exact ⟨e,s,hg _ _ hq,h⟩
theorem Ex.le {c:Code} {st st':St} {G:Exit → St → Prop} (h:Ex P c st' G) (l:Le P st st'):Ex P c st G:=by
 obtain ⟨e,s,hq,h⟩:=h
 exact ⟨e,s,hq,h.le l⟩
theorem ex_skip {st:St} {G:Exit → St → Prop} (h:G .normal st):Ex P .skip st G:=⟨_,_,h,tr_skip ⟨rfl,rfl⟩⟩
theorem ex_label {l:Nat} {st:St} {G:Exit → St → Prop} (h:G .normal st):Ex P (.label l) st G:=⟨_,_,h,tr_label ⟨rfl,rfl⟩⟩
theorem ex_exit {id:Nat} {st:St} {G:Exit → St → Prop} (h:G (.exit id) st):Ex P (.exit id) st G:=⟨_,_,h,tr_exit ⟨rfl,rfl⟩⟩
theorem ex_ret {st:St} {G:Exit → St → Prop} (h:G .ret st):Ex P .ret st G:=⟨_,_,h,tr_ret ⟨rfl,rfl⟩⟩
theorem ex_seq {x y:Code} {st:St} {G:Exit → St → Prop} (h:Ex P x st (Thn (fun s => Ex P y s G) G)):Ex P (.seq x y) st G:=by
 obtain ⟨e,s,hg,h⟩:=h
 by_cases he:e = .normal
 ·subst he
  have hg:Ex P y s G:=by unfold Thn at hg; exact hg
  obtain ⟨e2,s2,hg2,h2⟩:=hg
  refine ⟨e2,s2,hg2,tr_seq (h.mono fun e' s' h3 => ?_)⟩
  obtain ⟨h3,h4⟩:=h3
  subst h3; subst h4
  exact thn_n h2
 ·refine ⟨e,s,?_,tr_seq (h.mono fun e' s' h3 => ?_)⟩
  ·unfold Thn at hg; split at hg
   ·exact absurd rfl he
   ·exact hg
  ·obtain ⟨h3,h4⟩:=h3
   subst h3; subst h4
   unfold Thn; split
   ·exact absurd rfl he
   ·exact ⟨rfl,rfl⟩
theorem ex_block {id:Nat} {c:Code} {st:St} {G:Exit → St → Prop} (h:Ex P c st (Blk' id G)):Ex P (.block id c) st G:=by
 obtain ⟨e,s,hg,h⟩:=h
 by_cases he:e = .exit id
 ·subst he
  refine ⟨.normal,s,by unfold Blk' at hg; simpa using hg,tr_block (h.mono fun e' s' h3 => ?_)⟩
  obtain ⟨h3,h4⟩:=h3
  subst h3; subst h4
  exact blk_e ⟨rfl,rfl⟩
 ·refine ⟨e,s,?_,tr_block (h.mono fun e' s' h3 => ?_)⟩
  ·unfold Blk' at hg; split at hg
   ·rename_i id'
    rw [if_neg (fun h => he (by rw [h]))] at hg
    exact hg
   ·exact hg
  ·obtain ⟨h3,h4⟩:=h3
   subst h3; subst h4
   unfold Blk'; split
   ·rename_i id'
    rw [if_neg (fun h => he (by rw [h]))]
    exact ⟨rfl,rfl⟩
   ·exact ⟨rfl,rfl⟩
theorem ex_cond {c:Operand} {x y:Code} {t:Bool} {st:St} {G:Exit → St → Prop} (hc:gev st c = .lit (.bool t)) (h:Ex P (if t then x else y) st G):Ex P (.cond c x y) st G:=by
 obtain ⟨e,s,hg,h⟩:=h
 exact ⟨e,s,hg,tr_cond hc h⟩
theorem ex_condT {c:Operand} {x y:Code} {st:St} {G:Exit → St → Prop} (hc:gev st c = .lit (.bool true)) (h:Ex P x st G):Ex P (.cond c x y) st G:=ex_cond (t:=true) hc h
theorem ex_condF {c:Operand} {x y:Code} {st:St} {G:Exit → St → Prop} (hc:gev st c = .lit (.bool false)) (h:Ex P y st G):Ex P (.cond c x y) st G:=ex_cond (t:=false) hc h
theorem ex_condP {c:Operand} {x y:Code} {st:St} {G:Exit → St → Prop} {p:Prop} [Decidable p] (hc:gev st c = .lit (.bool (decide p))) (h1:p → Ex P x st G) (h2:¬ p → Ex P y st G):Ex P (.cond c x y) st G:=by
 by_cases hp:p
 ·rw [decide_eq_true hp] at hc; exact ex_condT hc (h1 hp)
 ·rw [decide_eq_false hp] at hc; exact ex_condF hc (h2 hp)
theorem ex_condB {c:Operand} {x y:Code} {st:St} {G:Exit → St → Prop} {t:Bool} (hc:gev st c = .lit (.bool t)) (h1:t = true → Ex P x st G) (h2:t = false → Ex P y st G):Ex P (.cond c x y) st G:=by
 cases t with
 | true => exact ex_condT hc (h1 rfl)
 | false => exact ex_condF hc (h2 rfl)

theorem ex_thn {x:Code} {st:St} {K K':St → Prop} {G:Exit → St → Prop} (h:Ex P x st (fun e s => e = .normal ∧ K s)) (hk:∀ s,K s → K' s):Ex P x st (Thn K' G):=h.mono fun e s hs => by
 obtain ⟨rfl,h2⟩:=hs
 exact thn_n (hk s h2)
theorem run_det {ops:Array Oper} {K:St → Prop}:∀ (l:List Oper) (st:St),Run P ops K l st → ∃ s,K s ∧ Run P ops (fun s' => s' = s) l st
 | [],st,h => ⟨st,h,rfl⟩
 | o :: rest,st,h => by
  rcases h with ⟨hg,st1,hs,hr⟩ | ⟨hg,hd,hr⟩
  ·obtain ⟨s,hk,hr⟩:=run_det rest st1 hr
   exact ⟨s,hk,.inl ⟨hg,st1,hs,hr⟩⟩
  ·obtain ⟨s,hk,hr⟩:=run_det rest _ hr
   exact ⟨s,hk,.inr ⟨hg,hd,hr⟩⟩
theorem rund_det {ops:Array Oper} {bars:List Nat} {K:St → Prop}:∀ (l:List Oper) (j:Nat) (st:St),RunD P ops bars K j l st → ∃ s,K s ∧ RunD P ops bars (fun s' => s' = s) j l st
 | [],j,st,h => ⟨st,h,rfl⟩
 | o :: rest,j,st,h => by
  rcases h with ⟨hg,g,hs,hr⟩ | ⟨hg,hr⟩ | ⟨hb,hg,g,σ,c,hs,hr⟩
  ·obtain ⟨s,hk,hr⟩:=rund_det rest _ _ hr
   exact ⟨s,hk,.inl ⟨hg,g,hs,hr⟩⟩
  ·obtain ⟨s,hk,hr⟩:=rund_det rest _ _ hr
   exact ⟨s,hk,.inr (.inl ⟨hg,hr⟩)⟩
  ·obtain ⟨s,hk,hr⟩:=rund_det rest _ _ hr
   exact ⟨s,hk,.inr (.inr ⟨hb,hg,g,σ,c,hs,hr⟩)⟩
theorem ex_region {id:Nat} {l:List Oper} {st:St} {G:Exit → St → Prop} (h:Run P l.toArray (G .normal) l st):Ex P (.region id l.toArray false) st G:=by
 obtain ⟨s,hk,hr⟩:=run_det l st h
 refine ⟨.normal,s,hk,tr_region ?_⟩
 have e:(fun s':St => s' = s) = (fun s' => Exit.normal = Exit.normal ∧ s' = s):=by funext s'; simp
 rw [e] at hr
 exact hr
theorem ex_region_draw {id:Nat} {l:List Oper} {bars:List Nat} {st:St} {G:Exit → St → Prop} (hm:P.follows .mixedOrders = true) (hok:drawOk l bars st.n = true) (h:RunD P l.toArray bars (G .normal) 0 l st):Ex P (.region id l.toArray true) st G:=by
 obtain ⟨s,hk,hr⟩:=rund_det l 0 st h
 refine ⟨.normal,s,hk,tr_region_draw hm hok ?_⟩
 have e:(fun s':St => s' = s) = (fun s' => Exit.normal = Exit.normal ∧ s' = s):=by funext s'; simp
 rw [e] at hr
 exact hr
inductive Rounds (P:Program) (c:Code) (e:Exit) (s:St):Nat → St → Prop
 | last {st:St} (he:e ≠ .normal) (h:Tr P c st (fun e' s' => e' = e ∧ s' = s)):Rounds P c e s 0 st
 | more {k:Nat} {st s1 s2:St} (h:Tr P c st (fun e' s' => e' = .normal ∧ s' = s1)) (hl:Le P s1 s2) (hr:Rounds P c e s k s2):Rounds P c e s (k + 1) st
theorem Rounds.tr {c:Code} {e:Exit} {s st:St} {k:Nat} (h:Rounds P c e s k st):Tr P (.loop c) st (fun e' s' => e' = e ∧ s' = s):=by
 refine tr_loop (ι:={q:Nat × St // Rounds P c e s q.1 q.2}) (fun q => q.1.2) (fun q => q.1.1) ⟨(k,st),h⟩ (Le.refl _) ?_
 rintro ⟨⟨k,st⟩,h⟩
 cases h with
 | last he h =>
  refine h.mono fun e' s' ⟨h1,h2⟩ => ?_
  subst h1; subst h2
  unfold Thn; split
  ·exact absurd rfl he
  ·exact ⟨rfl,rfl⟩
 | more h hl hr =>
  refine h.mono fun e' s' ⟨h1,h2⟩ => ?_
  subst h1; subst h2
  exact thn_n ⟨⟨(_,_),hr⟩,hl,Nat.lt_succ_self _⟩
theorem ex_loop {c:Code} {st:St} {G:Exit → St → Prop} (F:Nat → St → Prop) (k:Nat) {st0:St} (hl:Le P st st0) (h0:F k st0)
  (round:∀ k s,F k s → Ex P c s (Thn (fun s1 => ∃ k' s2,k' < k ∧ Le P s1 s2 ∧ F k' s2) G)):Ex P (.loop c) st G:=by
 have key:∀ n k s,k ≤ n → F k s → ∃ e s',G e s' ∧ ∃ m,Rounds P c e s' m s:=by
  intro n
  induction n with
  | zero =>
   intro k s hk hF
   obtain ⟨e,s1,hg,h⟩:=round k s hF
   unfold Thn at hg; split at hg
   ·obtain ⟨k',s2,hk',_⟩:=hg; omega
   ·rename_i he
    exact ⟨_,s1,hg,0,.last he h⟩
  | succ n ih =>
   intro k s hk hF
   obtain ⟨e,s1,hg,h⟩:=round k s hF
   unfold Thn at hg; split at hg
   ·obtain ⟨k',s2,hk',hle,hF'⟩:=hg
    obtain ⟨e,s',hg',m,hr⟩:=ih k' s2 (by omega) hF'
    exact ⟨e,s',hg',m + 1,.more h hle hr⟩
   ·rename_i he
    exact ⟨_,s1,hg,0,.last he h⟩
 obtain ⟨e,s',hg,m,hr⟩:=key k k st0 (Nat.le_refl _) h0
 exact ⟨e,s',hg,hr.tr.le hl⟩
def FrOk (fr:Fr):Fr → Prop
 | [] => True
 | q :: r => fget fr q.1 = q.2 ∧ FrOk fr r
theorem FrOk.all {fr:Fr}:∀ {l:Fr},FrOk fr l → ∀ q ∈ l,fget fr q.1 = q.2
 | [],_,q,hq => by cases hq
 | x :: r,h,q,hq => by
  rcases List.mem_cons.1 hq with rfl | hq
  ·exact h.1
  ·exact FrOk.all h.2 q hq
theorem le_frs {n:Nat} {gl:List (Nat × List G)} {fr fr':Fr} {σ:Sto} {c p:Nat} {rr:Bool} (h:FrOk fr fr'):Le P ⟨n,gl,fr,σ,c,p,rr⟩ ⟨n,gl,fr',σ,c,p,rr⟩:=by
 have h:=h.all
 rintro cx a w ⟨β,r⟩
 refine ⟨β,{ r with fr:=fun i => ?_ }⟩
 have hi:=r.fr i
 have key:∀ l:Fr,(∀ q ∈ l,fget fr q.1 = q.2) → fget l i = fget fr i ∨ fget l i = .junk:=by
  intro l
  induction l with
  | nil => exact fun _ => .inr rfl
  | cons q t ih =>
   intro hq
   rw [show (q :: t) = ((q.1,q.2) :: t) from rfl,fget_cons]
   split
   ·rename_i e
    subst e
    exact .inl (hq q List.mem_cons_self).symm
   ·exact ih fun q hq' => hq q (List.mem_cons_of_mem _ hq')
 rcases key fr' h with e | e
 ·show RV β _ w (fget fr' i) _
  rw [e]; exact hi
 ·show RV β _ w (fget fr' i) _
  rw [e]; exact .junk _

/-! ### calls in place -/
def McK (P:Program) (gl:List (Nat × List G)) (f:FuncId) (gs:List G) (σ:Sto) (c:Nat) (r:G) (σ':Sto) (c':Nat):Prop :=
 callable P f = true ∧ ∃ fn body,P.funcs[f]? = some fn ∧ fn.body = some body ∧ gs.length ≤ fn.ntmps ∧
  Tr P body ⟨fn.ntmps,gl,enterFr 0 gs,σ,c,c,false⟩ (fun e s => (e = .normal ∨ e = .ret) ∧ s.gl = gl ∧ (∀ k o,sget σ' k = some o → sget s.σ k = some o) ∧ s.c = c' ∧ ∃ gs',fn.results.toList.mapM (gres P s) = some gs' ∧ r = gtup gs')
def Mc (P:Program) (gl:List (Nat × List G)) (f:FuncId) (gs:List G) (σ:Sto) (c:Nat) (F:G → Sto → Nat → Prop):Prop:=∃ r σ' c',F r σ' c' ∧ McK P gl f gs σ c r σ' c'
def EndX (P:Program) (fn:Func) (gl:List (Nat × List G)) (F:G → Sto → Nat → Prop) (e:Exit) (s:St):Prop:=(e = .normal ∨ e = .ret) ∧ s.gl = gl ∧ ∃ gs',fn.results.toList.mapM (gres P s) = some gs' ∧ F (gtup gs') s.σ s.c
theorem mc_enter {gl:List (Nat × List G)} {f:FuncId} {fn:Func} {body:Code} {gs:List G} {σ:Sto} {c:Nat} {F:G → Sto → Nat → Prop} (hc:callable P f = true) (hf:P.funcs[f]? = some fn) (hb:fn.body = some body) (hn:gs.length ≤ fn.ntmps) (h:Ex P body ⟨fn.ntmps,gl,enterFr 0 gs,σ,c,c,false⟩ (EndX P fn gl F)):Mc P gl f gs σ c F:=by
 obtain ⟨e,s,⟨he,hgl,gs',hm,hF⟩,h⟩:=h
 exact ⟨_,_,_,hF,hc,fn,body,hf,hb,hn,h.mono fun e' s' ⟨h1,h2⟩ => by subst h1; subst h2; exact ⟨he,hgl,fun _ _ h => h,rfl,gs',hm,rfl⟩⟩
theorem Mc.mono {gl:List (Nat × List G)} {f:FuncId} {gs:List G} {σ:Sto} {c:Nat} {F F':G → Sto → Nat → Prop} (h:Mc P gl f gs σ c F) (hF:∀ r σ' c',F r σ' c' → F' r σ' c'):Mc P gl f gs σ c F':=by
 obtain ⟨r,σ',c',h1,h2⟩:=h
 exact ⟨r,σ',c',hF _ _ _ h1,h2⟩
theorem endx {fn:Func} {gl:List (Nat × List G)} {F:G → Sto → Nat → Prop} {e:Exit} {n:Nat} {fr:Fr} {σ:Sto} {c p:Nat} {rr:Bool} {gs:List G} (he:e = .normal ∨ e = .ret) (h:fn.results.toList.mapM (gres P ⟨n,gl,fr,σ,c,p,rr⟩) = some gs) (hF:F (gtup gs) σ c):EndX P fn gl F e ⟨n,gl,fr,σ,c,p,rr⟩:=⟨he,rfl,gs,h,hF⟩
theorem res_cell {rs:Array ResultVar} {a:Tmp} {t:TypeId} {g:G} {st:St} (hr:rs = #[.cell a t]) (hl:gload P st.σ t (fget st.fr a) = some g):rs.toList.mapM (gres P st) = some [g]:=by
 subst hr
 simp [gres,hl]
theorem McK.sub {gl:List (Nat × List G)} {f:FuncId} {gs:List G} {σ:Sto} {c:Nat} {r:G} {σ' σ2:Sto} {c':Nat} (h:McK P gl f gs σ c r σ' c') (he:∀ k o,sget σ2 k = some o → sget σ' k = some o):McK P gl f gs σ c r σ2 c':=by
 obtain ⟨hc,fn,body,hfn,hb,hn,hT⟩:=h
 exact ⟨hc,fn,body,hfn,hb,hn,hT.mono fun e s ⟨h1,h2,h3,h4⟩ => ⟨h1,h2,fun k o hk => h3 k o (he k o hk),h4⟩⟩
theorem McK.ext {gl:List (Nat × List G)} {f:FuncId} {gs:List G} {σ:Sto} {c:Nat} {r:G} {σ' σ2:Sto} {c':Nat} (h:McK P gl f gs σ c r σ' c') (he:∀ k,sget σ' k = sget σ2 k):McK P gl f gs σ c r σ2 c':=h.sub fun k o hk => (he k).trans hk
theorem gs_mcR {o:Oper} {st:St} {f:Operand} {xs:Array Operand} {ats:Array TypeId} {fid:FuncId} {fst cap:List G} {r:G} {σR σ':Sto} {c':Nat} (ho:o.op = .call { callee:=.value f,args:=xs,argTypes:=ats }) (hd:∀ d,o.dst = some d → d < st.n) (hf:gev st f = .clo (.func fid) fst cap)
  (hM:McK P st.gl fid (fst ++ xs.toList.map (gev st) ++ cap) σR st.c r σ' c') (hR:∀ i o,sget σR i = some o → sget st.σ i = some o) (τ:Sto) (hτ:(∀ i o,sget st.σ i = some o → i < st.c) → ∀ i o,sget τ i = some o → sget σ' i = some o ∨ (sget st.σ i = some o ∧ sget σR i = none)):GS P o st ({ st with σ:=τ,c:=c' }.put o.dst r):=by
 obtain ⟨hc,fn,body,hfn,hb,hn,hT⟩:=hM
 refine (gsn_callF (T:=fun _ _ τ' => τ' = τ) σR hR ho hd hf hc hfn hb hn hT (fun e s ⟨h1,h2,h3,h4,gs',h5,h6⟩ => ⟨h1,h2,gs',h5⟩) (fun hb e s ⟨h1,h2,h3,h4,gs',h5,h6⟩ => ⟨τ,rfl,fun i o hi => ?_⟩)).gs ?_
 ·rcases hτ hb i o hi with h | h
  ·exact .inl (h3 i o h)
  ·exact .inr h
 ·rintro s' ⟨e,s,gs',τ',⟨h1,h2,h3,h4,gs2,h5,h6⟩,h7,rfl,rfl⟩
  rw [h7] at h5
  cases h5
  rw [h4,h6]
theorem gs_mc {o:Oper} {st:St} {f:Operand} {xs:Array Operand} {ats:Array TypeId} {fid:FuncId} {fst cap:List G} {r:G} {σ':Sto} {c':Nat} (ho:o.op = .call { callee:=.value f,args:=xs,argTypes:=ats }) (hd:∀ d,o.dst = some d → d < st.n) (hf:gev st f = .clo (.func fid) fst cap)
  (hM:McK P st.gl fid (fst ++ xs.toList.map (gev st) ++ cap) st.σ st.c r σ' c'):GS P o st ({ st with σ:=σ',c:=c' }.put o.dst r):=gs_mcR ho hd hf hM (fun _ _ h => h) σ' fun _ i o hi => .inl hi
section
variable {ops:Array Oper} {K:St → Prop} {ty:TypeId} {pos:String} {af:Array Edge} {rest:List Oper} {n:Nat} {gl:List (Nat × List G)} {fr:Fr} {σ:Sto} {c p d j:Nat} {bars:List Nat} {rr:Bool}
theorem run_m {f:Operand} {xs:Array Operand} {ats:Array TypeId} {fid:FuncId} {gs:List G} {r:G} {σ':Sto} {c':Nat} (hM:McK P gl fid gs σ c r σ' c') (fst cap:List G) (hf:gev ⟨n,gl,fr,σ,c,p,rr⟩ f = .clo (.func fid) fst cap) (hg:fst ++ xs.toList.map (gev ⟨n,gl,fr,σ,c,p,rr⟩) ++ cap = gs) (hd:d < n) (h:Run P ops K rest ⟨n,gl,(d,r) :: fr,σ',c',p,rr⟩) :
  Run P ops K (⟨some d,.call { callee:=.value f,args:=xs,argTypes:=ats },ty,pos,af,none⟩ :: rest) ⟨n,gl,fr,σ,c,p,rr⟩:=by
 subst hg
 exact run_e rfl (gs_mc (st:=⟨n,gl,fr,σ,c,p,rr⟩) rfl (fun _ e => by cases e; exact hd) hf hM) h
theorem rund_m {f:Operand} {xs:Array Operand} {ats:Array TypeId} {fid:FuncId} {gs:List G} {r:G} {σ':Sto} {c':Nat} (hb:bars.contains j = true) (hM:McK P gl fid gs σ c r σ' c') (fst cap:List G) (hf:gev ⟨n,gl,fr,σ,c,p,rr⟩ f = .clo (.func fid) fst cap) (hg:fst ++ xs.toList.map (gev ⟨n,gl,fr,σ,c,p,rr⟩) ++ cap = gs) (hd:d < n) (h:RunD P ops bars K (j + 1) rest ⟨n,gl,(d,r) :: fr,σ',c',p,rr⟩) :
  RunD P ops bars K j (⟨some d,.call { callee:=.value f,args:=xs,argTypes:=ats },ty,pos,af,none⟩ :: rest) ⟨n,gl,fr,σ,c,p,rr⟩:=by
 subst hg
 exact rund_e (σ':=σ') (c':=c') hb rfl (gs_mc (st:=⟨n,gl,fr,σ,c,p,rr⟩) rfl (fun _ e => by cases e; exact hd) hf hM) h
theorem run_ld {t:TypeId} {x:Operand} {gx g:G} (hx:gev ⟨n,gl,fr,σ,c,p,rr⟩ x = gx) (hg:gload P σ t gx = some g) (hd:d < n) (h:Run P ops K rest ⟨n,gl,(d,g) :: fr,σ,c,p,rr⟩) :
  Run P ops K (⟨some d,.load t x,ty,pos,af,none⟩ :: rest) ⟨n,gl,fr,σ,c,p,rr⟩:=run_v (by subst hx; exact hg) hd h
theorem rund_ld {t:TypeId} {x:Operand} {gx g:G} (hx:gev ⟨n,gl,fr,σ,c,p,rr⟩ x = gx) (hg:gload P σ t gx = some g) (hd:d < n) (h:RunD P ops bars K (j + 1) rest ⟨n,gl,(d,g) :: fr,σ,c,p,rr⟩) :
  RunD P ops bars K j (⟨some d,.load t x,ty,pos,af,none⟩ :: rest) ⟨n,gl,fr,σ,c,p,rr⟩:=rund_v (by subst hx; exact hg) hd h
theorem run_bin {op:BinOp} {t t':TypeId} {x y:Operand} {gx gy g:G} (hx:gev ⟨n,gl,fr,σ,c,p,rr⟩ x = gx) (hy:gev ⟨n,gl,fr,σ,c,p,rr⟩ y = gy) (hg:gbin P op t x y gx gy = some g) (hd:d < n) (h:Run P ops K rest ⟨n,gl,(d,g) :: fr,σ,c,p,rr⟩) :
  Run P ops K (⟨some d,.binOp op t x y t',ty,pos,af,none⟩ :: rest) ⟨n,gl,fr,σ,c,p,rr⟩:=run_v (by rw [ev_bin,hx,hy]; exact hg) hd h
theorem rund_bin {op:BinOp} {t t':TypeId} {x y:Operand} {gx gy g:G} (hx:gev ⟨n,gl,fr,σ,c,p,rr⟩ x = gx) (hy:gev ⟨n,gl,fr,σ,c,p,rr⟩ y = gy) (hg:gbin P op t x y gx gy = some g) (hd:d < n) (h:RunD P ops bars K (j + 1) rest ⟨n,gl,(d,g) :: fr,σ,c,p,rr⟩) :
  RunD P ops bars K j (⟨some d,.binOp op t x y t',ty,pos,af,none⟩ :: rest) ⟨n,gl,fr,σ,c,p,rr⟩:=rund_v (by rw [ev_bin,hx,hy]; exact hg) hd h
theorem run_un {op:UnOp} {t:TypeId} {x:Operand} {gx g:G} (hx:gev ⟨n,gl,fr,σ,c,p,rr⟩ x = gx) (hg:gun P op gx = some g) (hd:d < n) (h:Run P ops K rest ⟨n,gl,(d,g) :: fr,σ,c,p,rr⟩) :
  Run P ops K (⟨some d,.unOp op t x,ty,pos,af,none⟩ :: rest) ⟨n,gl,fr,σ,c,p,rr⟩:=run_v (by rw [ev_un,hx]; exact hg) hd h
end
theorem rund_mono {ops:Array Oper} {bars:List Nat} {K K':St → Prop} (hk:∀ s,K s → K' s):∀ (l:List Oper) (j:Nat) (st:St),RunD P ops bars K j l st → RunD P ops bars K' j l st
 | [],j,st,h => hk st h
 | o :: rest,j,st,h => by
  rcases h with ⟨hg,g,hs,hr⟩ | ⟨hg,hr⟩ | ⟨hb,hg,g,σ,c,hs,hr⟩
  ·exact .inl ⟨hg,g,hs,rund_mono hk rest _ _ hr⟩
  ·exact .inr (.inl ⟨hg,rund_mono hk rest _ _ hr⟩)
  ·exact .inr (.inr ⟨hb,hg,g,σ,c,hs,rund_mono hk rest _ _ hr⟩)
theorem ex_region_drawk {id:Nat} {l:List Oper} {bars:List Nat} {st:St} {G:Exit → St → Prop} (K:St → Prop) (hm:P.follows .mixedOrders = true) (hok:drawOk l bars st.n = true) (h:RunD P l.toArray bars K 0 l st) (hk:∀ s,K s → G .normal s):Ex P (.region id l.toArray true) st G:=ex_region_draw hm hok (rund_mono hk l 0 st h)
theorem tg_mc {o:Oper} {st:St} {f:Operand} {xs:Array Operand} {ats:Array TypeId} {fid:FuncId} {fst cap:List G} {r:G} (ho:o.op = .call { callee:=.value f,args:=xs,argTypes:=ats }) (hd:∀ d,o.dst = some d → d < st.n) (hf:gev st f = .clo (.func fid) fst cap)
  (hM:McK P st.gl fid (fst ++ xs.toList.map (gev st) ++ cap) st.σ st.c r st.σ st.c):TG P o st r:=by
 rintro st' ⟨h1,h2,h3,h4,h5⟩ hx
 have hops:∀ x ∈ f :: xs.toList,gev st' x = gev st x:=fun x hx' => hx x (by
  rw [ho]
  simp only [Op.operands,Call.operands]
  rcases List.mem_cons.1 hx' with rfl | hx'
  ·exact Array.mem_append.2 (.inl (by simp))
  ·exact Array.mem_append.2 (.inr (Array.mem_toList_iff.1 hx')))
 have hargs:xs.toList.map (gev st') = xs.toList.map (gev st):=List.map_congr_left fun x hx => hops x (List.mem_cons_of_mem _ hx)
 have:=gs_mc (st:=st') (fid:=fid) (fst:=fst) (cap:=cap) (r:=r) (σ':=st'.σ) (c':=st'.c) ho (fun d e => by rw [h1]; exact hd d e) ((hops f List.mem_cons_self).trans hf) (by rw [hargs,h2,h3,h4]; exact hM)
 exact this
theorem run_mono {ops:Array Oper} {K K':St → Prop} (hk:∀ s,K s → K' s):∀ (l:List Oper) (st:St),Run P ops K l st → Run P ops K' l st
 | [],st,h => hk st h
 | o :: rest,st,h => by
  rcases h with ⟨hg,st1,hs,hr⟩ | ⟨hg,hd,hr⟩
  ·exact .inl ⟨hg,st1,hs,run_mono hk rest st1 hr⟩
  ·exact .inr ⟨hg,hd,run_mono hk rest _ hr⟩
theorem ex_region_k {id:Nat} {l:List Oper} {st:St} {G:Exit → St → Prop} (K:St → Prop) (h:Run P l.toArray K l st) (hk:∀ s,K s → G .normal s):Ex P (.region id l.toArray false) st G:=ex_region (run_mono hk l st h)
section
variable {ops:Array Oper} {K:St → Prop} {ty:TypeId} {pos:String} {af:Array Edge} {rest:List Oper} {n:Nat} {gl:List (Nat × List G)} {fr:Fr} {σ:Sto} {c p d j:Nat} {bars:List Nat} {rr:Bool}
theorem rund_p {f:Operand} {xs:Array Operand} {ats:Array TypeId} {fid:FuncId} {gs:List G} {r:G} (hM:McK P gl fid gs σ c r σ c) (fst cap:List G) (hf:gev ⟨n,gl,fr,σ,c,p,rr⟩ f = .clo (.func fid) fst cap) (hg:fst ++ xs.toList.map (gev ⟨n,gl,fr,σ,c,p,rr⟩) ++ cap = gs) (hd:d < n) (h:RunD P ops bars K (j + 1) rest ⟨n,gl,(d,r) :: fr,σ,c,p,rr⟩) :
  RunD P ops bars K j (⟨some d,.call { callee:=.value f,args:=xs,argTypes:=ats },ty,pos,af,none⟩ :: rest) ⟨n,gl,fr,σ,c,p,rr⟩:=by
 subst hg
 exact .inl ⟨rfl,_,tg_mc (st:=⟨n,gl,fr,σ,c,p,rr⟩) rfl (fun _ e => by cases e; exact hd) hf hM,h⟩
theorem gdd_v {op:Op} {gq:Option (Nat × Bool)} {g:G} (hw:gwant ⟨n,gl,fr,σ,c,p,rr⟩ ops ⟨some d,op,ty,pos,af,gq⟩ = some true) (he:evVal P (gev ⟨n,gl,fr,σ,c,p,rr⟩) σ ⟨some d,op,ty,pos,af,gq⟩ = some g) (hd:d < n) (h:RunD P ops bars K (j + 1) rest ⟨n,gl,(d,g) :: fr,σ,c,p,rr⟩):RunD P ops bars K j (⟨some d,op,ty,pos,af,gq⟩ :: rest) ⟨n,gl,fr,σ,c,p,rr⟩:=by
 unfold RunD
 exact .inl ⟨hw,_,tg_val (fun _ e => by cases e; exact hd) he,h⟩
theorem gdd_n {op:Op} {gq:Option (Nat × Bool)} (hw:gwant ⟨n,gl,fr,σ,c,p,rr⟩ ops ⟨some d,op,ty,pos,af,gq⟩ = some false) (h:RunD P ops bars K (j + 1) rest ⟨n,gl,(d,.lit undef) :: fr,σ,c,p,rr⟩):RunD P ops bars K j (⟨some d,op,ty,pos,af,gq⟩ :: rest) ⟨n,gl,fr,σ,c,p,rr⟩:=by
 unfold RunD
 exact .inr (.inl ⟨hw,h⟩)
theorem gdd_bin {op:BinOp} {t t':TypeId} {x y:Operand} {gx gy g:G} {gq:Option (Nat × Bool)} (hw:gwant ⟨n,gl,fr,σ,c,p,rr⟩ ops ⟨some d,.binOp op t x y t',ty,pos,af,gq⟩ = some true) (hx:gev ⟨n,gl,fr,σ,c,p,rr⟩ x = gx) (hy:gev ⟨n,gl,fr,σ,c,p,rr⟩ y = gy) (hg:gbin P op t x y gx gy = some g) (hd:d < n) (h:RunD P ops bars K (j + 1) rest ⟨n,gl,(d,g) :: fr,σ,c,p,rr⟩) :
  RunD P ops bars K j (⟨some d,.binOp op t x y t',ty,pos,af,gq⟩ :: rest) ⟨n,gl,fr,σ,c,p,rr⟩:=gdd_v hw (by rw [ev_bin,hx,hy]; exact hg) hd h
theorem ged_v {op:Op} {gq:Option (Nat × Bool)} {g:G} (hw:gwant ⟨n,gl,fr,σ,c,p,rr⟩ ops ⟨some d,op,ty,pos,af,gq⟩ = some true) (he:evVal P (gev ⟨n,gl,fr,σ,c,p,rr⟩) σ ⟨some d,op,ty,pos,af,gq⟩ = some g) (hd:d < n) (h:Run P ops K rest ⟨n,gl,(d,g) :: fr,σ,c,p,rr⟩):Run P ops K (⟨some d,op,ty,pos,af,gq⟩ :: rest) ⟨n,gl,fr,σ,c,p,rr⟩:=by
 unfold Run
 exact .inl ⟨hw,_,gs_val (fun _ e => by cases e; exact hd) he,h⟩
theorem ged_n {op:Op} {gq:Option (Nat × Bool)} (hw:gwant ⟨n,gl,fr,σ,c,p,rr⟩ ops ⟨some d,op,ty,pos,af,gq⟩ = some false) (hd:d < n) (h:Run P ops K rest ⟨n,gl,(d,.lit undef) :: fr,σ,c,p,rr⟩):Run P ops K (⟨some d,op,ty,pos,af,gq⟩ :: rest) ⟨n,gl,fr,σ,c,p,rr⟩:=by
 unfold Run
 exact .inr ⟨hw,fun _ e => by cases e; exact hd,h⟩
theorem ged_bin {op:BinOp} {t t':TypeId} {x y:Operand} {gx gy g:G} {gq:Option (Nat × Bool)} (hw:gwant ⟨n,gl,fr,σ,c,p,rr⟩ ops ⟨some d,.binOp op t x y t',ty,pos,af,gq⟩ = some true) (hx:gev ⟨n,gl,fr,σ,c,p,rr⟩ x = gx) (hy:gev ⟨n,gl,fr,σ,c,p,rr⟩ y = gy) (hg:gbin P op t x y gx gy = some g) (hd:d < n) (h:Run P ops K rest ⟨n,gl,(d,g) :: fr,σ,c,p,rr⟩) :
  Run P ops K (⟨some d,.binOp op t x y t',ty,pos,af,gq⟩ :: rest) ⟨n,gl,fr,σ,c,p,rr⟩:=ged_v hw (by rw [ev_bin,hx,hy]; exact hg) hd h
theorem ged_m {f:Operand} {xs:Array Operand} {ats:Array TypeId} {fid:FuncId} {gs:List G} {r:G} {σ':Sto} {c':Nat} {gq:Option (Nat × Bool)} (hw:gwant ⟨n,gl,fr,σ,c,p,rr⟩ ops ⟨some d,.call { callee:=.value f,args:=xs,argTypes:=ats },ty,pos,af,gq⟩ = some true) (hM:McK P gl fid gs σ c r σ' c') (fst cap:List G) (hf:gev ⟨n,gl,fr,σ,c,p,rr⟩ f = .clo (.func fid) fst cap) (hg:fst ++ xs.toList.map (gev ⟨n,gl,fr,σ,c,p,rr⟩) ++ cap = gs) (hd:d < n) (h:Run P ops K rest ⟨n,gl,(d,r) :: fr,σ',c',p,rr⟩) :
  Run P ops K (⟨some d,.call { callee:=.value f,args:=xs,argTypes:=ats },ty,pos,af,gq⟩ :: rest) ⟨n,gl,fr,σ,c,p,rr⟩:=by
 subst hg
 unfold Run
 exact .inl ⟨hw,_,gs_mc (st:=⟨n,gl,fr,σ,c,p,rr⟩) rfl (fun _ e => by cases e; exact hd) hf hM,h⟩
theorem ged_e {o:Oper} {st st1:St} (hw:gwant st ops o = some true) (hs:GS P o st st1) (h:Run P ops K rest st1):Run P ops K (o :: rest) st:=by
 unfold Run
 exact .inl ⟨hw,_,hs,h⟩
end
theorem sget_ne {i d:Nat} {o:Option Ob} {σ:Sto} (h:d ≠ i):sget ((d,o) :: σ) i = sget σ i:=by rw [sget_cons,if_neg h]
theorem sget_eq {i d:Nat} {o:Option Ob} {σ:Sto} (h:d = i):sget ((d,o) :: σ) i = o:=by rw [sget_cons,if_pos h]
end
/-! ### short names, for texts that a program prints -/
section
variable {P:Program} {ops:Array Oper} {K:St → Prop} {op:Op} {ty:TypeId} {pos:String} {af:Array Edge} {rest:List Oper} {n:Nat} {gl:List (Nat × List G)} {fr:Fr} {σ:Sto} {c p d j:Nat} {bars:List Nat} {rr:Bool} {gq:Option (Nat × Bool)}
theorem zv (g:G) (h:Run P ops K rest ⟨n,gl,(d,g) :: fr,σ,c,p,rr⟩) (he:evVal P (gev ⟨n,gl,fr,σ,c,p,rr⟩) σ ⟨some d,op,ty,pos,af,none⟩ = some g:=by kernel_rfl) (hd:d < n:=by decide):Run P ops K (⟨some d,op,ty,pos,af,none⟩ :: rest) ⟨n,gl,fr,σ,c,p,rr⟩:=run_v he hd h
theorem zt (g:G) {e:Option G} (L:e = some g) (h:Run P ops K rest ⟨n,gl,(d,g) :: fr,σ,c,p,rr⟩) (he:evVal P (gev ⟨n,gl,fr,σ,c,p,rr⟩) σ ⟨some d,op,ty,pos,af,none⟩ = e:=by kernel_rfl) (hd:d < n:=by decide):Run P ops K (⟨some d,op,ty,pos,af,none⟩ :: rest) ⟨n,gl,fr,σ,c,p,rr⟩:=run_v (he.trans L) hd h
theorem zd (g:G) (h:RunD P ops bars K (j + 1) rest ⟨n,gl,(d,g) :: fr,σ,c,p,rr⟩) (he:evVal P (gev ⟨n,gl,fr,σ,c,p,rr⟩) σ ⟨some d,op,ty,pos,af,none⟩ = some g:=by kernel_rfl) (hd:d < n:=by decide):RunD P ops bars K j (⟨some d,op,ty,pos,af,none⟩ :: rest) ⟨n,gl,fr,σ,c,p,rr⟩:=rund_v he hd h
theorem zg (g:G) (h:Run P ops K rest ⟨n,gl,(d,g) :: fr,σ,c,p,rr⟩) (hw:gwant ⟨n,gl,fr,σ,c,p,rr⟩ ops ⟨some d,op,ty,pos,af,gq⟩ = some true:=by kernel_rfl) (he:evVal P (gev ⟨n,gl,fr,σ,c,p,rr⟩) σ ⟨some d,op,ty,pos,af,gq⟩ = some g:=by kernel_rfl) (hd:d < n:=by decide):Run P ops K (⟨some d,op,ty,pos,af,gq⟩ :: rest) ⟨n,gl,fr,σ,c,p,rr⟩:=ged_v hw he hd h
theorem zh (g:G) (h:RunD P ops bars K (j + 1) rest ⟨n,gl,(d,g) :: fr,σ,c,p,rr⟩) (hw:gwant ⟨n,gl,fr,σ,c,p,rr⟩ ops ⟨some d,op,ty,pos,af,gq⟩ = some true:=by kernel_rfl) (he:evVal P (gev ⟨n,gl,fr,σ,c,p,rr⟩) σ ⟨some d,op,ty,pos,af,gq⟩ = some g:=by kernel_rfl) (hd:d < n:=by decide):RunD P ops bars K j (⟨some d,op,ty,pos,af,gq⟩ :: rest) ⟨n,gl,fr,σ,c,p,rr⟩:=gdd_v hw he hd h
theorem zn (h:Run P ops K rest ⟨n,gl,(d,.lit undef) :: fr,σ,c,p,rr⟩) (hw:gwant ⟨n,gl,fr,σ,c,p,rr⟩ ops ⟨some d,op,ty,pos,af,gq⟩ = some false:=by kernel_rfl) (hd:d < n:=by decide):Run P ops K (⟨some d,op,ty,pos,af,gq⟩ :: rest) ⟨n,gl,fr,σ,c,p,rr⟩:=ged_n hw hd h
theorem zm (h:RunD P ops bars K (j + 1) rest ⟨n,gl,(d,.lit undef) :: fr,σ,c,p,rr⟩) (hw:gwant ⟨n,gl,fr,σ,c,p,rr⟩ ops ⟨some d,op,ty,pos,af,gq⟩ = some false:=by kernel_rfl):RunD P ops bars K j (⟨some d,op,ty,pos,af,gq⟩ :: rest) ⟨n,gl,fr,σ,c,p,rr⟩:=gdd_n hw h
theorem zk {a b c:Option G} (h:b = c) (he:a = b:=by kernel_rfl):a = c:=he.trans h
end
end
section
open Go.RowKit
def Is64 (z:Int):Prop := -9223372036854775808 ≤ z ∧ z ≤ 9223372036854775807
abbrev vI (z:Int):G:=.lit (.int .i64 z)
abbrev vU (n:Nat):G:=.lit (.int .u64 (n:Int))
abbrev vB (b:Bool):G:=.lit (.bool b)
section
variable {P:Program} {x y:Operand} {t:TypeId}
theorem addI {a b:Int} (h:Is64 (a + b)):gbin P .add t x y (vI a) (vI b) = some (vI (a + b)):=by rw [gb_add,w64 h]
theorem subI {a b:Int} (h:Is64 (a - b)):gbin P .sub t x y (vI a) (vI b) = some (vI (a - b)):=by rw [gb_sub,w64 h]
theorem mulI {a b:Int} (h:Is64 (a * b)):gbin P .mul t x y (vI a) (vI b) = some (vI (a * b)):=by rw [gb_mul,w64 h]
theorem negI {a:Int} (h:Is64 (-a)):gun P .neg (vI a) = some (vI (-a)):=by rw [gu_neg,w64 (by unfold Is64 at h; omega)]; congr 3; omega
theorem ltI {a b:Int}:gbin P .lss t x y (vI a) (vI b) = some (vB (decide (a < b))):=gb_lss
theorem leI {a b:Int}:gbin P .leq t x y (vI a) (vI b) = some (vB (decide (a ≤ b))):=gb_leq
theorem gtI {a b:Int}:gbin P .gtr t x y (vI a) (vI b) = some (vB (decide (b < a))):=gb_gtr
theorem geI {a b:Int}:gbin P .geq t x y (vI a) (vI b) = some (vB (decide (b ≤ a))):=gb_geq
theorem eqI {a b:Int}:gbin P .eql t x y (vI a) (vI b) = some (vB (decide (a = b))):=gb_eql
theorem neI {a b:Int}:gbin P .neq t x y (vI a) (vI b) = some (vB (decide (a ≠ b))):=gb_neq
theorem addU {a b:Nat} (h:a + b < 18446744073709551616):gbin P .add t x y (vU a) (vU b) = some (vU (a + b)):=by rw [gb_add,wu64 (by omega)]; rfl
theorem mulU {a b:Nat} (h:a * b < 18446744073709551616):gbin P .mul t x y (vU a) (vU b) = some (vU (a * b)):=by rw [gb_mul,← Int.natCast_mul,wu64 (by omega)]
theorem remU {a b:Nat} (h:b ≠ 0):gbin P .rem t x y (vU a) (vU b) = some (vU (a % b)):=by rw [gb_rem (by omega),Int.tmod_eq_emod_of_nonneg (by omega)]; rfl
theorem quoU {a b:Nat} (h:b ≠ 0) (ha:a < 18446744073709551616):gbin P .quo t x y (vU a) (vU b) = some (vU (a / b)):=by
 have hq:a / b ≤ a:=Nat.div_le_self a b
 have e:(a:Int) / (b:Int) = ((a / b:Nat):Int):=by simp
 rw [gb_quo (by omega),Int.tdiv_eq_ediv_of_nonneg (by omega),e,wu64 ⟨Int.natCast_nonneg _,Int.le_trans (Int.ofNat_le.2 hq) (by omega)⟩]
theorem remI {a b:Int} (ha:0 ≤ a) (hb:b ≠ 0):gbin P .rem t x y (vI a) (vI b) = some (vI (a % b)):=by rw [gb_rem hb,Int.tmod_eq_emod_of_nonneg ha]
theorem quoI {a b:Int} (ha:0 ≤ a) (hb:0 < b) (h:a ≤ 9223372036854775807):gbin P .quo t x y (vI a) (vI b) = some (vI (a / b)):=by
 have h1:0 ≤ a / b:=Int.ediv_nonneg ha (by omega)
 have h2:a / b ≤ a:=Int.ediv_le_self b ha
 rw [gb_quo (by omega),Int.tdiv_eq_ediv_of_nonneg ha,w64 (by omega)]
theorem ltU {a b:Nat}:gbin P .lss t x y (vU a) (vU b) = some (vB (decide (a < b))):=by rw [gb_lss]; congr 3; exact decide_eq_decide.2 (by omega)
theorem leU {a b:Nat}:gbin P .leq t x y (vU a) (vU b) = some (vB (decide (a ≤ b))):=by rw [gb_leq]; congr 3; exact decide_eq_decide.2 (by omega)
theorem geU {a b:Nat}:gbin P .geq t x y (vU a) (vU b) = some (vB (decide (b ≤ a))):=by rw [gb_geq]; congr 3; exact decide_eq_decide.2 (by omega)
theorem eqU {a b:Nat}:gbin P .eql t x y (vU a) (vU b) = some (vB (decide (a = b))):=by rw [gb_eql]; congr 3; exact decide_eq_decide.2 (by omega)
theorem neU {a b:Nat}:gbin P .neq t x y (vU a) (vU b) = some (vB (decide (a ≠ b))):=by rw [gb_neq]; congr 3; exact decide_eq_decide.2 (by omega)
theorem cvU {k:IntKind} {n:Nat} (h:n < 18446744073709551616):some (G.lit (.int .u64 (IntKind.u64.wrap (n:Int)))) = some (vU n):=by rw [wu64 (by omega)]
theorem cvI {a:Int} (h:Is64 a):some (G.lit (.int .i64 (IntKind.i64.wrap a))) = some (vI a):=by rw [w64 h]
end
theorem vBc {p q:Prop} [Decidable p] [Decidable q] (h:p ↔ q):vB (decide p) = vB (decide q):=by rw [decide_eq_decide.2 h]
theorem vBt {p:Prop} [Decidable p] (h:p):vB true = vB (decide p):=by rw [decide_eq_true h]
theorem vBf {p:Prop} [Decidable p] (h:¬ p):vB false = vB (decide p):=by rw [decide_eq_false h]
theorem im0:∀ g ∈ ([]:List G),ImmG g:=fun g hg => by cases hg
theorem im1 {a:G} (ha:ImmG a):∀ g ∈ [a],ImmG g:=fun g hg => by
 simp only [List.mem_cons,List.not_mem_nil,or_false] at hg
 subst hg; exact ha
theorem im2 {a b:G} (ha:ImmG a) (hb:ImmG b):∀ g ∈ [a,b],ImmG g:=fun g hg => by
 simp only [List.mem_cons,List.not_mem_nil,or_false] at hg
 rcases hg with rfl | rfl
 ·exact ha
 ·exact hb
theorem im3 {a b c:G} (ha:ImmG a) (hb:ImmG b) (hc:ImmG c):∀ g ∈ [a,b,c],ImmG g:=fun g hg => by
 simp only [List.mem_cons,List.not_mem_nil,or_false] at hg
 rcases hg with rfl | rfl | rfl
 ·exact ha
 ·exact hb
 ·exact hc
end
section
open Go.RowKit
abbrev gU' (n:Nat):G:=.lit (.int .u64 (n:Int))
def nb (k:Nat):List UInt8:=if h:k < 128 then [UInt8.ofNat k] else UInt8.ofNat (k % 128 + 128) :: nb (k / 128)
termination_by k
decreasing_by omega
theorem nb_lo {k:Nat} (h:k < 128):nb k = [UInt8.ofNat k]:=by rw [nb,dif_pos h]
theorem nb_hi {k:Nat} (h:¬ k < 128):nb k = UInt8.ofNat (k % 128 + 128) :: nb (k / 128):=by rw [nb,dif_neg h]
theorem nb_len:∀ (f k:Nat),k < 128 ^ (f + 1) → (nb k).length ≤ f + 1
 | 0,k,h => by rw [nb_lo (by simpa using h)]; simp
 | f + 1,k,h => by
  by_cases h1:k < 128
  ·rw [nb_lo h1]; simp
  ·rw [nb_hi h1]
   have:=nb_len f (k / 128) (by rw [Nat.div_lt_iff_lt_mul (by omega),← Nat.pow_succ]; exact h)
   simp; omega
theorem nb_len64 {k:Nat} (h:k < 18446744073709551616):(nb k).length ≤ 10:=nb_len 9 k (Nat.lt_of_lt_of_le h (by decide))
theorem nb_ne (k:Nat):nb k ≠ []:=by
 by_cases h:k < 128
 ·rw [nb_lo h]; simp
 ·rw [nb_hi h]; simp
theorem imm_bytes (l:List UInt8):∀ g ∈ l.map gY,ImmG g:=fun g hg => by
 obtain ⟨b,_,rfl⟩:=List.mem_map.1 hg
 exact imm_lit _
theorem gY_of {n:Nat} (h:n < 256):gY (UInt8.ofNat n) = .lit (.int .u8 (n:Int)):=by
 have:(UInt8.ofNat n).toNat = n:=by simp; omega
 unfold gY; rw [this]
set_option maxRecDepth 100000 in
theorem or128N:∀ a:Fin 256,a.1 ||| 128 = a.1 % 128 + 128:=by decide
theorem gb_or {P:Program} {x y:Operand} {t:TypeId} {k:IntKind} {a b:Int}:gbin P .or t x y (.lit (.int k a)) (.lit (.int k b)) = some (.lit (.int k (k.wrap ((BitVec.ofInt k.bits a ||| BitVec.ofInt k.bits b).toNat:Nat)))):=by simp [gbin,gval,eqGuard,binOp,Op.intBits,spure_pure,glit]
theorem gb_xor {P:Program} {x y:Operand} {t:TypeId} {k:IntKind} {a b:Int}:gbin P .xor t x y (.lit (.int k a)) (.lit (.int k b)) = some (.lit (.int k (k.wrap ((BitVec.ofInt k.bits a ^^^ BitVec.ofInt k.bits b).toNat:Nat)))):=by simp [gbin,gval,eqGuard,binOp,Op.intBits,spure_pure,glit]
theorem gb_or8 {n:Nat} {x y:Operand} {t:TypeId} {P:Program}:gbin P .or t x y (.lit (.int .u8 (n:Int))) (.lit (.int .u8 128)) = some (.lit (.int .u8 ((n % 128 + 128:Nat):Int))):=by
 rw [gb_or]
 have h:(BitVec.ofInt IntKind.u8.bits (n:Int) ||| BitVec.ofInt IntKind.u8.bits 128).toNat = n % 128 + 128:=by
  show (BitVec.ofInt 8 (n:Int) ||| BitVec.ofInt 8 ((128:Nat):Int)).toNat = _
  rw [BitVec.ofInt_natCast,BitVec.ofInt_natCast,BitVec.toNat_or,BitVec.toNat_ofNat,BitVec.toNat_ofNat]
  have:=or128N ⟨n % 256,by omega⟩
  simp only [] at this
  show n % 256 ||| 128 = _
  rw [this]; omega
 rw [h,wu8 (by omega)]
theorem gb_shr7 {a:Nat} {x y:Operand} {t:TypeId} {P:Program}:gbin P .shr t x y (.lit (.int .u64 (a:Int))) (.lit (.int .u64 7)) = some (gU' (a / 128)):=by
 rw [show (7:Int) = ((7:Nat):Int) from rfl,gb_shr 7 (by decide)]
 have:(a:Int).fdiv (2 ^ 7) = ((a / 128:Nat):Int):=by
  rw [Int.fdiv_eq_ediv_of_nonneg _ (by decide)]
  have e:(2:Int) ^ 7 = 128:=by decide
  rw [e]; omega
 rw [this]
def zig (n:Int):Nat:=if n < 0 then (-(n + 1)).toNat * 2 + 1 else n.toNat * 2
def zag (u:Nat):Int:=if u % 2 = 1 then -((u / 2:Nat):Int) - 1 else ((u / 2:Nat):Int)
theorem zig_lt {n:Int} (h : -9223372036854775808 ≤ n ∧ n ≤ 9223372036854775807):zig n < 18446744073709551616:=by unfold zig; split <;> omega
theorem zig_zag (u:Nat):zig (zag u) = u:=by
 unfold zig zag
 split <;> split <;> omega
theorem zig_x {P:Program} {x y:Operand} {t:TypeId} {n:Int} (h : -9223372036854775808 ≤ n ∧ n ≤ 9223372036854775807):gbin P .xor t x y (.lit (.int .u64 (IntKind.u64.wrap (IntKind.u64.wrap n * 2 ^ 1)))) (.lit (.int .u64 (IntKind.u64.wrap (n.fdiv (2 ^ 63))))) = some (gU' (zig n)):=by
 rw [gb_xor]
 have h64:∀ z:Int,IntKind.u64.wrap z = z % 18446744073709551616:=fun z => IntKind.wrap_u64 z
 congr 3
 by_cases hn:n < 0
 ·have e1:n.fdiv (2 ^ 63) = -1:=by
   rw [Int.fdiv_eq_ediv_of_nonneg _ (by decide)]
   have e:(2:Int) ^ 63 = 9223372036854775808:=by decide
   rw [e]; omega
  have e2:IntKind.u64.wrap (IntKind.u64.wrap n * 2 ^ 1) = (((18446744073709551616 + 2 * n) % 18446744073709551616).toNat:Int):=by
   simp only [h64]; omega
  rw [e1,e2,h64 (-1)]
  show IntKind.u64.wrap ((BitVec.ofInt 64 _ ^^^ BitVec.ofInt 64 ((18446744073709551615:Nat):Int)).toNat:Nat) = _
  rw [BitVec.ofInt_natCast,BitVec.ofInt_natCast]
  have e3:BitVec.ofNat 64 18446744073709551615 = BitVec.allOnes 64:=by decide
  rw [e3,BitVec.xor_allOnes,BitVec.toNat_not,BitVec.toNat_ofNat,h64]
  unfold zig
  rw [if_pos hn]
  omega
 ·have e1:n.fdiv (2 ^ 63) = 0:=by
   rw [Int.fdiv_eq_ediv_of_nonneg _ (by decide)]
   have e:(2:Int) ^ 63 = 9223372036854775808:=by decide
   rw [e]; omega
  have e2:IntKind.u64.wrap (IntKind.u64.wrap n * 2 ^ 1) = ((n.toNat * 2:Nat):Int):=by
   simp only [h64]; omega
  rw [e1,e2,h64 0]
  show IntKind.u64.wrap ((BitVec.ofInt 64 _ ^^^ BitVec.ofInt 64 ((0:Nat):Int)).toNat:Nat) = _
  rw [BitVec.ofInt_natCast,BitVec.ofInt_natCast]
  have e3:BitVec.ofNat 64 0 = 0#64:=by decide
  rw [e3,BitVec.xor_zero,BitVec.toNat_ofNat,h64]
  unfold zig
  rw [if_neg hn]
  omega
theorem zag_x {P:Program} {x y:Operand} {t:TypeId} {u:Nat} (h:u < 18446744073709551616):gbin P .xor t x y (.lit (.int .i64 ((u / 2:Nat):Int))) (.lit (.int .i64 (-((u % 2:Nat):Int)))) = some (.lit (.int .i64 (zag u))):=by
 rw [gb_xor]
 congr 3
 show IntKind.i64.wrap ((BitVec.ofInt 64 ((u / 2:Nat):Int) ^^^ BitVec.ofInt 64 (-((u % 2:Nat):Int))).toNat:Nat) = _
 have hz:∀ z:Int,IntKind.i64.wrap z = (z + 9223372036854775808) % 18446744073709551616 - 9223372036854775808:=fun z => by
  rw [IntKind.wrap_i64]
 rw [BitVec.ofInt_natCast,hz]
 unfold zag
 by_cases hu:u % 2 = 1
 ·rw [if_pos hu,hu]
  have e3:BitVec.ofInt 64 (-((1:Nat):Int)) = BitVec.allOnes 64:=by decide
  rw [e3,BitVec.xor_allOnes,BitVec.toNat_not,BitVec.toNat_ofNat]
  omega
 ·have:u % 2 = 0:=by omega
  rw [if_neg hu,this]
  have e3:BitVec.ofInt 64 (-((0:Nat):Int)) = 0#64:=by decide
  rw [e3,BitVec.xor_zero,BitVec.toNat_ofNat]
  omega
theorem shrK {P:Program} {x y:Operand} {t:TypeId} {k k':IntKind} {a:Int} (n:Nat) (hn:n ≤ k.bits):gbin P .shr t x y (.lit (.int k a)) (.lit (.int k' (n:Int))) = some (.lit (.int k (a.fdiv (2 ^ n)))):=by
 have h1:¬ ((n:Int) < 0):=by omega
 have h2:min n k.bits = n:=Nat.min_eq_left hn
 simp [gbin,gval,eqGuard,binOp,Op.shift,glit,h2,if_neg h1]
 exact ⟨_,rfl,rfl⟩
end
section
def rdN:Nat → List UInt8 → Except Int (Nat × List UInt8)
 | _,[] => .error 9
 | k,x :: r => if (k = 9 ∧ 1 < x.toNat) ∨ (x.toNat = 0 ∧ 0 < k) then .error 7 else if x.toNat < 128 then .ok (x.toNat,r) else match rdN (k + 1) r with
  | .error e => .error e
  | .ok q => .ok (x.toNat % 128 + 128 * q.1,q.2)
theorem rdN_ok:∀ (l:List UInt8) (k u:Nat) (r:List UInt8),k ≤ 9 → rdN k l = .ok (u,r) → l = nb u ++ r ∧ (0 < k → 0 < u) ∧ u < 2 ^ (64 - 7 * k)
 | [],k,u,r,hk,h => by cases h
 | x :: t,k,u,r,hk,h => by
  have hx:=x.toNat_lt
  rw [rdN] at h
  split at h
  ·cases h
  ·rename_i h1
   split at h
   ·rename_i h2
    cases h
    refine ⟨?_,fun h0 => by omega,?_⟩
    ·rw [nb_lo h2]; simp
    ·have:2 ^ (64 - 7 * k) ≥ 2 ∧ (k < 9 → 2 ^ (64 - 7 * k) ≥ 128):=by
      refine ⟨?_,fun h9 => ?_⟩
      ·exact Nat.pow_le_pow_right (n:=2) (by omega) (show 1 ≤ 64 - 7 * k by omega)
      ·exact Nat.pow_le_pow_right (n:=2) (by omega) (show 7 ≤ 64 - 7 * k by omega)
     obtain ⟨t1,t2⟩:=this
     by_cases h9:k < 9
     ·have:=t2 h9; omega
     ·have:¬ 1 < x.toNat:=fun h => h1 (.inl ⟨by omega,h⟩)
      omega
   ·rename_i h2
    split at h
    ·cases h
    ·rename_i q hq
     cases h
     have hk9:k ≠ 9:=fun e => h1 (.inl ⟨e,by omega⟩)
     obtain ⟨e1,e2,e3⟩:=rdN_ok t (k + 1) q.1 q.2 (by omega) hq
     have e2:=e2 (by omega)
     refine ⟨?_,fun _ => by omega,?_⟩
     ·rw [nb_hi (by omega),show (x.toNat % 128 + 128 * q.1) / 128 = q.1 by omega,List.cons_append,← e1]
      congr 1
      have:(x.toNat % 128 + 128 * q.1) % 128 + 128 = x.toNat:=by omega
      rw [this]; simp
     ·have e4:2 ^ (64 - 7 * k) = 2 ^ (64 - 7 * (k + 1)) * 128:=by
       rw [show 64 - 7 * k = 64 - 7 * (k + 1) + 7 by omega,Nat.pow_add]
      rw [e4]; omega
theorem rd_canon {l:List UInt8} {u:Nat} {r:List UInt8} (h:rdN 0 l = .ok (u,r)):l = nb u ++ r ∧ u < 18446744073709551616:=by
 obtain ⟨h1,_,h2⟩:=rdN_ok l 0 u r (by omega) h
 exact ⟨h1,h2⟩
def val7:List UInt8 → Nat
 | [] => 0
 | x :: r => x.toNat % 128 + 128 * val7 r
def lowAt:List UInt8 → Nat
 | [] => 0
 | x :: r => if x.toNat < 128 then 0 else lowAt r + 1
theorem lowAt_le:∀ l,lowAt l ≤ l.length
 | [] => Nat.le_refl _
 | x :: r => by
  unfold lowAt
  have:=lowAt_le r
  split <;> simp <;> omega
theorem lowAt_hi:∀ (l:List UInt8) (i:Nat) (x:UInt8),i < lowAt l → l[i]? = some x → 128 ≤ x.toNat
 | [],i,x,h,_ => by simp [lowAt] at h
 | y :: r,i,x,h,hx => by
  unfold lowAt at h
  split at h
  ·omega
  ·cases i with
   | zero => simp at hx; subst hx; omega
   | succ i => exact lowAt_hi r i x (by omega) (by simpa using hx)
theorem rdN_eq:∀ (l:List UInt8) (k:Nat),k ≤ 9 → rdN k l =
  if lowAt l < l.length then
   (
    if 9 < k + lowAt l ∨ (k + lowAt l = 9 ∧ 1 < (l.getD (lowAt l) 0).toNat) then .error 7
    else if 0 < k + lowAt l ∧ (l.getD (lowAt l) 0).toNat = 0 then .error 7
    else .ok (val7 (l.take (lowAt l + 1)),l.drop (lowAt l + 1)))
  else (if 10 ≤ k + l.length then .error 7 else .error 9)
 | [],k,hk => by simp [rdN,lowAt]; omega
 | x :: r,k,hk => by
  have hx:=x.toNat_lt
  rw [rdN]
  by_cases h2:x.toNat < 128
  ·have e:lowAt (x :: r) = 0:=by rw [lowAt,if_pos h2]
   rw [e]
   simp only [List.length_cons,Nat.zero_lt_succ,if_true,Nat.add_zero,List.getD_cons_zero,Nat.zero_add]
   by_cases h1:(k = 9 ∧ 1 < x.toNat) ∨ (x.toNat = 0 ∧ 0 < k)
   ·rw [if_pos h1]
    rcases h1 with h1 | h1
    ·rw [if_pos (.inr h1)]
    ·rw [if_neg (by omega),if_pos ⟨h1.2,h1.1⟩]
   ·rw [if_neg h1,if_pos h2,if_neg (by omega),if_neg (by omega)]
    simp [val7]; omega
  ·have e:lowAt (x :: r) = lowAt r + 1:=by rw [lowAt,if_neg h2]
   have hle:=lowAt_le r
   rw [e]
   by_cases h9:k = 9
   ·rw [if_pos (.inl ⟨h9,by omega⟩)]
    split
    ·rw [if_pos (.inl (by omega))]
    ·rw [if_pos (by simp; omega)]
   ·rw [if_neg (by omega),if_neg h2,rdN_eq r (k + 1) (by omega)]
    simp only [List.length_cons,Nat.add_lt_add_iff_right,List.getD_cons_succ,List.take_succ_cons,List.drop_succ_cons]
    rw [show k + 1 + lowAt r = k + (lowAt r + 1) by omega,show k + 1 + r.length = k + (r.length + 1) by omega]
    by_cases c1:lowAt r < r.length
    ·simp only [if_pos c1]
     by_cases c2:9 < k + (lowAt r + 1) ∨ k + (lowAt r + 1) = 9 ∧ 1 < (r.getD (lowAt r) 0).toNat
     ·simp only [if_pos c2]
     ·simp only [if_neg c2]
      by_cases c3:0 < k + (lowAt r + 1) ∧ (r.getD (lowAt r) 0).toNat = 0
      ·simp only [if_pos c3]
      ·simp only [if_neg c3]
       rfl
    ·simp only [if_neg c1]
     by_cases c4:10 ≤ k + (r.length + 1)
     ·simp only [if_pos c4]
     ·simp only [if_neg c4]
end
section
abbrev Cur:=Except Int (List UInt8)
def cNum:Cur → Nat × Cur
 | .error e => (0,.error e)
 | .ok l => match rdN 0 l with
  | .error e => (0,.error e)
  | .ok q => (q.1,.ok q.2)
def cInt (s:Cur):Int × Cur:=(zag (cNum s).1,(cNum s).2)
def cBool (s:Cur):Bool × Cur:=if (cNum s).1 ≠ 0 ∧ (cNum s).1 ≠ 2 then (false,.error 7) else (decide ((cNum s).1 = 2),(cNum s).2)
def cMany (most:Int) (s:Cur):Int × Cur:=if (cInt s).1 < 0 ∨ most < (cInt s).1 then (0,.error 7) else cInt s
structure Idn where
 a:Int
 b:Int
 c:Nat
deriving DecidableEq
def Idn.zero:Idn:=⟨0,0,0⟩
def cId (s:Cur):Idn × Cur:=match (cNum (cInt (cInt s).2).2).2 with
 | .error e => (.zero,.error e)
 | .ok r => (⟨(cInt s).1,(cInt (cInt s).2).1,(cNum (cInt (cInt s).2).2).1⟩,.ok r)
structure It where
 i:Idn
 n:Int
 p:Nat
deriving DecidableEq
def cIt (s:Cur):It × Cur:=(⟨(cId s).1,(cInt (cId s).2).1,(cNum (cInt (cId s).2).2).1⟩,(cNum (cInt (cId s).2).2).2)
def cIts:Nat → Cur → List It × Cur
 | 0,s => ([],s)
 | k + 1,s => ((cIt s).1 :: (cIts k (cIt s).2).1,(cIts k (cIt s).2).2)
theorem cNum_err (e:Int):cNum (.error e) = (0,.error e):=rfl
theorem cInt_err (e:Int):cInt (.error e) = (0,.error e):=by simp [cInt,cNum_err,zag]
theorem cId_err (e:Int):cId (.error e) = (.zero,.error e):=by simp [cId,cInt_err,cNum_err]
theorem cIt_err (e:Int):cIt (.error e) = (⟨.zero,0,0⟩,.error e):=by simp [cIt,cId_err,cInt_err,cNum_err]
theorem cIts_err (e:Int):∀ k,(cIts k (.error e)).2 = .error e
 | 0 => rfl
 | k + 1 => by rw [cIts,cIt_err]; exact cIts_err e k
theorem cIts_len:∀ (k:Nat) (s:Cur),(cIts k s).1.length = k
 | 0,_ => rfl
 | k + 1,s => by rw [cIts]; simp [cIts_len k]
theorem cIts_snoc:∀ (k:Nat) (s:Cur),cIts (k + 1) s = ((cIts k s).1 ++ [(cIt (cIts k s).2).1],(cIt (cIts k s).2).2)
 | 0,s => rfl
 | k + 1,s => by
  rw [cIts,cIts_snoc k (cIt s).2]
  rfl
theorem cNum_ok {s:Cur} {r:List UInt8} (h:(cNum s).2 = .ok r):s = .ok (nb (cNum s).1 ++ r) ∧ (cNum s).1 < 18446744073709551616:=by
 cases s with
 | error e => cases h
 | ok l =>
  cases hq:rdN 0 l with
  | error e => simp only [cNum,hq] at h; cases h
  | ok q =>
   simp only [cNum,hq] at h ⊢
   cases h
   obtain ⟨h1,h2⟩:=rd_canon (u:=q.1) (r:=q.2) hq
   exact ⟨by rw [← h1],h2⟩
theorem cNum_lt (s:Cur):(cNum s).1 < 18446744073709551616:=by
 cases h:(cNum s).2 with
 | ok r => exact (cNum_ok h).2
 | error e =>
  cases s with
  | error e => simp [cNum]
  | ok l =>
   cases hq:rdN 0 l with
   | error e => simp [cNum,hq]
   | ok q => simp only [cNum,hq] at h; cases h
theorem cInt_ok {s:Cur} {r:List UInt8} (h:(cInt s).2 = .ok r):s = .ok (nb (zig (cInt s).1) ++ r):=by
 unfold cInt
 rw [zig_zag]
 exact (cNum_ok h).1
theorem cBool_ok {s:Cur} {r:List UInt8} (h:(cBool s).2 = .ok r):s = .ok (nb (if (cBool s).1 then 2 else 0) ++ r):=by
 unfold cBool at h ⊢
 split at h
 ·cases h
 ·rename_i h1
  rw [if_neg h1]
  refine (cNum_ok h).1.trans ?_
  generalize (cNum s).1 = u at h1 ⊢
  by_cases h3:u = 2
  ·simp [h3]
  ·have:u = 0:=by omega
   simp [this]
theorem cMany_ok {m:Int} {s:Cur} {r:List UInt8} (h:(cMany m s).2 = .ok r):s = .ok (nb (zig (cMany m s).1) ++ r):=by
 unfold cMany at h ⊢
 split at h
 ·cases h
 ·rename_i h1
  rw [if_neg h1]
  exact cInt_ok h
theorem cMany_bd {m:Int} (hm:0 ≤ m) (s:Cur):0 ≤ (cMany m s).1 ∧ (cMany m s).1 ≤ m:=by
 unfold cMany
 split
 ·exact ⟨by simp,by simpa using hm⟩
 ·omega
def itB (x:It):List UInt8:=nb (zig x.i.a) ++ nb (zig x.i.b) ++ nb x.i.c ++ nb (zig x.n) ++ nb x.p
theorem cId_ok {s:Cur} {r:List UInt8} (h:(cId s).2 = .ok r):s = .ok (nb (zig (cId s).1.a) ++ (nb (zig (cId s).1.b) ++ (nb (cId s).1.c ++ r))):=by
 cases hq:(cNum (cInt (cInt s).2).2).2 with
 | error e => unfold cId at h; rw [hq] at h; cases h
 | ok r' =>
  have e:cId s = (⟨(cInt s).1,(cInt (cInt s).2).1,(cNum (cInt (cInt s).2).2).1⟩,.ok r'):=by unfold cId; rw [hq]
  rw [e] at h ⊢
  cases h
  have h1:=(cNum_ok hq).1
  have h2:=cInt_ok h1
  have h3:=cInt_ok h2
  exact h3
theorem cIt_ok {s:Cur} {r:List UInt8} (h:(cIt s).2 = .ok r):s = .ok (itB (cIt s).1 ++ r):=by
 have h1:=(cNum_ok h).1
 have h2:=cInt_ok h1
 refine (cId_ok h2).trans ?_
 unfold itB cIt
 simp only [List.append_assoc]
theorem cIts_ok:∀ (k:Nat) {s:Cur} {r:List UInt8},(cIts k s).2 = .ok r → s = .ok ((cIts k s).1.flatMap itB ++ r)
 | 0,s,r,h => h
 | k + 1,s,r,h => by
  have h1:=cIts_ok k (s:=(cIt s).2) h
  refine (cIt_ok h1).trans ?_
  show _ = Except.ok (((cIt s).1 :: (cIts k (cIt s).2).1).flatMap itB ++ r)
  rw [List.flatMap_cons,List.append_assoc]
structure Raw where
 d:Int
 lead:Bool
 p:Nat
 its:List It
 s:Cur
def rawOf (l:List UInt8):Raw :=
 let d:=cInt (.ok l)
 let b:=cBool d.2
 let p:=if b.1 then cNum b.2 else (0,b.2)
 let m:=cMany 1000 p.2
 let t:=cIts m.1.toNat m.2
 ⟨d.1,b.1,p.1,t.1,t.2⟩
def rawB (x:Raw):List UInt8:=nb (zig x.d) ++ (nb (if x.lead then 2 else 0) ++ ((if x.lead then nb x.p else []) ++ (nb (zig x.its.length) ++ x.its.flatMap itB)))
theorem raw_ok {l:List UInt8} (h:(rawOf l).s = .ok []):l = rawB (rawOf l):=by
 have h1:=cIts_ok _ h
 have h2:=cMany_ok h1
 have hl:=cIts_len ((cMany 1000 (if (cBool (cInt (.ok l)).2).1 then cNum (cBool (cInt (.ok l)).2).2 else (0,(cBool (cInt (.ok l)).2).2)).2).1.toNat) (cMany 1000 (if (cBool (cInt (.ok l)).2).1 then cNum (cBool (cInt (.ok l)).2).2 else (0,(cBool (cInt (.ok l)).2).2)).2).2
 have hm:=cMany_bd (m:=1000) (by decide) (if (cBool (cInt (.ok l)).2).1 then cNum (cBool (cInt (.ok l)).2).2 else (0,(cBool (cInt (.ok l)).2).2)).2
 have e:rawB (rawOf l) = nb (zig (cInt (.ok l)).1) ++ (nb (if (cBool (cInt (.ok l)).2).1 then 2 else 0) ++ ((if (cBool (cInt (.ok l)).2).1 then nb (if (cBool (cInt (.ok l)).2).1 then cNum (cBool (cInt (.ok l)).2).2 else (0,(cBool (cInt (.ok l)).2).2)).1 else []) ++ (nb (zig (cMany 1000 (if (cBool (cInt (.ok l)).2).1 then cNum (cBool (cInt (.ok l)).2).2 else (0,(cBool (cInt (.ok l)).2).2)).2).1) ++ (rawOf l).its.flatMap itB))):=by
  unfold rawB
  rw [show (rawOf l).its.length = _ from hl,Int.toNat_of_nonneg hm.1]
  rfl
 rw [e]
 have key:(cBool (cInt (.ok l)).2).2 = .ok ((if (cBool (cInt (.ok l)).2).1 then nb (if (cBool (cInt (.ok l)).2).1 then cNum (cBool (cInt (.ok l)).2).2 else (0,(cBool (cInt (.ok l)).2).2)).1 else []) ++ (nb (zig (cMany 1000 (if (cBool (cInt (.ok l)).2).1 then cNum (cBool (cInt (.ok l)).2).2 else (0,(cBool (cInt (.ok l)).2).2)).2).1) ++ (rawOf l).its.flatMap itB)):=by
  generalize hb:cBool (cInt (.ok l)).2 = b at h2 ⊢
  have h2':=h2
  cases hb1:b.1 with
  | false =>
   simp only [hb1] at h2' ⊢
   refine h2'.trans ?_
   simp [rawOf,hb,hb1]
  | true =>
   simp only [hb1,if_true] at h2' ⊢
   refine (cNum_ok h2').1.trans ?_
   simp [rawOf,hb,hb1]
 have h3:=cBool_ok key
 have h4:=cInt_ok h3
 injection h4
end
theorem wX {G X:Prop} (k:X) (h:X → G:=by intro hx; (repeat' (first | apply ex_seq | apply ex_region | apply run_nil | apply thn_n | apply thn_e | apply thn_r | apply blk_e | apply blk_n | apply blk_r | (refine blk_ne ?_ ?_; decide) | apply ex_block | apply ex_skip | apply ex_label | apply ex_exit | apply ex_ret | (refine ex_region_draw (bars:=[]) mixed (by kernel_rfl) ?_) | apply rund_nil | ((first | apply run_v | apply rund_v); simp (disch:=omega) [if_pos]; (first | rfl | exact ⟨rfl,rfl⟩); decide) | ((first | apply run_conv | apply run_bs | apply run_app | apply run_build | apply run_box | apply run_alloc | apply rund_build); simp (disch:=omega) [if_pos]; (first | rfl | exact ⟨rfl,rfl⟩ | exact ⟨rfl,rfl,rfl,rfl⟩); decide) | (apply run_sto; simp (disch:=omega) [if_pos]; rfl))); exact hx):G:=h k
theorem wS {G X:Prop} (k:X) (h:X → G:=by intro hx; (repeat' (first | apply ex_seq | apply ex_region | apply run_nil | apply thn_n | apply thn_e | apply thn_r | apply blk_e | apply blk_n | apply blk_r | (refine blk_ne ?_ ?_; decide) | apply ex_block | apply ex_skip | apply ex_label | apply ex_exit | apply ex_ret)); exact hx):G:=h k
theorem wN {G X:Prop} (k:X) (h:X → G:=by intro hx; (repeat' (first | apply ex_seq | apply run_nil | apply thn_n | apply thn_e | apply thn_r | apply blk_e | apply blk_n | apply blk_r | (refine blk_ne ?_ ?_; decide) | apply ex_block | apply ex_skip | apply ex_label | apply ex_exit | apply ex_ret)); exact hx):G:=h k
end Go.Proofs.YtpehhhbmobmedaaGreatDoor
