/- A machine of values over the model: calls walked in place, loops over functions, rounds of them. -/
import Derived.Test.YtpehhhbmobmedaaGreatDoorGX
namespace Go.Proofs.YtpehhhbmobmedaaGreatDoor
set_option linter.unusedVariables false
set_option linter.unusedSimpArgs false
set_option linter.unusedSectionVars false
open Go.RowKit
section
variable {P:Program}

theorem RelB.back {cx:Cx} {st s:St} {a a':Act} {w w':World} {β β1:Bm} {F:Fence} {n:Nat} (h:RelB P cx st a w β) (hr:RelB P ⟨w,Liv β st.σ,cx.S0,β,F,n⟩ s a' w' β1) (hgl:s.gl = st.gl) :
  RelB P cx { st with σ:=s.σ,c:=s.c } a w' β1 ∧ (∀ k x,β k = some x → β1 k = some x) ∧ Keeps (Liv β st.σ) w w':=by
 have hext:∀ k x,β k = some x → β1 k = some x:=fun k x hx => (hr.pin k x hx).2
 have hAo:∀ b,b < w.heap.size → Av cx.S0 β1 s.σ b → Av cx.S0 β st.σ b:=by
  rintro b hlt (hb | ⟨i,ob,C,h1,h2⟩)
  ·exact .inl hb
  ·rcases hr.own i ob b C h1 h2 with hb | hb
   ·exact .inr hb
   ·exact absurd hlt (by have:w.heap.size ≤ b:=hb; omega)
 have hkp:Keeps (Av cx.S0 β st.σ) w w':=hr.keep.mono fun b _ hb => .inr hb
 refine ⟨{
  size:=h.size
  defers:=h.defers.keep hr.keep (fun D hD hx => by
   obtain ⟨j,ob2,E,g3,g4⟩:=hx
   exact h.not_marks g3 g4 hD)
  loose:=h.loose
  rnd:=h.rnd
  fr:=fun i => (h.fr i).step hext hAo hkp
  ob:=hr.ob
  inj:=hr.inj
  own:=fun k o1 b C h1 h3 => by
   rcases hr.own k o1 b C h1 h3 with hb | hb
   ·obtain ⟨j,ob2,E,g3,g4⟩:=hb
    exact h.own j ob2 b E g3 g4
   ·have:=h.keep.size
    have hb':w.heap.size ≤ b:=hb
    right; omega
  sep:=hr.sep
  fresh:=hr.fresh
  glob:=fun g l hl => hr.glob g l (by rw [hgl]; exact hl)
  keep:=h.keep.then hr.keep (fun b hb hx => by
   obtain ⟨j,ob2,E,g3,g4⟩:=hx
   rcases h.own j ob2 b E g3 g4 with h1 | h1
   ·exact h1
   ·omega)
  old:=h.old
  pin:=fun i x hx => ⟨(h.pin i x hx).1,hext i x (h.pin i x hx).2⟩ },hext,hr.keep⟩
theorem RelB.front {cx:Cx} {st:St} {a:Act} {w:World} {β:Bm} {F:Fence} {n m:Nat} {r:Bool} {fr:Fr} {tmps:Array Value} (h:RelB P cx st a w β) (hL:Loose F) (hr:r = false → F.round = none) (hsz:tmps.size = m) (hf:∀ i,RV β (Av cx.S0 β st.σ) w (fget fr i) (tmps.getD i undef)) :
  RelB P ⟨w,Liv β st.σ,cx.S0,β,F,n⟩ ⟨m,st.gl,fr,st.σ,st.c,st.c,r⟩ { tmps:=tmps,defers:=[] } w β:={
 size:=hsz
 defers:=.nil rfl
 loose:=hL
 rnd:=hr
 fr:=hf
 ob:=h.ob
 inj:=h.inj
 own:=fun i o b C ho hb => .inl ⟨i,o,C,ho,hb⟩
 sep:=h.sep
 fresh:=h.fresh
 glob:=h.glob
 keep:=Keeps.refl _ _
 old:=fun b hb => h.keep.lt (h.old b hb)
 pin:=fun i x hx => ⟨(by
  rcases Nat.lt_or_ge i st.c with h' | h'
  ·exact h'
  ·have:=h.fresh i h'
   have hx':β i = some x:=hx
   rw [this] at hx'
   cases hx'),hx⟩ }
theorem enter_rv {β:Bm} {S:Nat → Prop} {w:World} {gs:List G} {vs:Array Value} {m:Nat} (hsz:vs.size = gs.length) (hn:gs.length ≤ m) (hv:∀ (i:Nat) (g:G) (u:Value),gs[i]? = some g → vs[i]? = some u → RV β S w g u) (i:Nat) :
  RV β S w (fget (enterFr 0 gs) i) ((vs ++ Array.replicate (m - vs.size) undef).getD i undef):=by
 rw [fget_enter]
 simp only [Nat.zero_le,if_true,Nat.sub_zero]
 cases hg:gs[i]? with
 | none => exact .junk _
 | some g =>
  have hlt:=(List.getElem?_eq_some_iff.1 hg).1
  have hu:vs[i]? = some (vs[i]'(by omega)):=by simp [show i < vs.size by omega]
  have e:(vs ++ Array.replicate (m - vs.size) undef).getD i undef = vs[i]'(by omega):=by
   rw [Array.getD_eq_getD_getElem?,Array.getElem?_append_left (by omega),hu]; rfl
  rw [e]
  exact hv i g _ hg hu
theorem call_core {cx:Cx} {st:St} {a:Act} {w:World} {β:Bm} {fid:FuncId} {fn:Func} {body:Code} {gs:List G} {vs:Array Value} {Q:Exit → St → Prop} (h:RelB P cx st a w β) (hfn:P.funcs[fid]? = some fn) (hb:fn.body = some body) (hn:gs.length ≤ fn.ntmps) (hsz:vs.size = gs.length)
  (hv:∀ (i:Nat) (g:G) (u:Value),gs[i]? = some g → vs[i]? = some u → RV β (Av cx.S0 β st.σ) w g u) (hT:Tr P body ⟨fn.ntmps,st.gl,enterFr 0 gs,st.σ,st.c,st.c,false⟩ Q) (hQ:∀ e s,Q e s → (e = .normal ∨ e = .ret) ∧ s.gl = st.gl ∧ ∃ gs',fn.results.toList.mapM (gres P s) = some gs') :
  Calls P fid vs w fun E w' => ∃ v e s gs' β1,E = .returned v ∧ Q e s ∧ fn.results.toList.mapM (gres P s) = some gs' ∧ RelB P cx { st with σ:=s.σ,c:=s.c } a w' β1 ∧ RV β1 (Av cx.S0 β1 s.σ) w' (gtup gs') v ∧ (∀ k x,β k = some x → β1 k = some x) ∧ Keeps (Liv β st.σ) w w':=by
 refine calls_tr (cx:=⟨w,Liv β st.σ,cx.S0,β,Fence.wide,9⟩) hfn hb hT rfl rfl ⟨β,h.front loose_wide (fun _ => rfl) (by simp [hsz]; omega) (enter_rv hsz hn hv)⟩ ?_
 rintro e s a' w' hq ⟨β1,hr⟩
 obtain ⟨he,hgl,gs',hgs⟩:=hQ e s hq
 obtain ⟨v,hres,hv'⟩:=results_run hr hgs
 obtain ⟨h1,h2,h3⟩:=h.back hr hgl
 exact ⟨he,v,hres,v,e,s,gs',β1,rfl,hq,hgs,h1,hv',h2,h3⟩
theorem gsn_callI {o:Oper} {st:St} {f:Operand} {xs:Array Operand} {ats:Array TypeId} {fid:FuncId} {fst cap:List G} {fn:Func} {body:Code} {Q:Exit → St → Prop}
  (ho:o.op = .call { callee:=.value f,args:=xs,argTypes:=ats }) (hd:∀ d,o.dst = some d → d < st.n) (hf:gev st f = .clo (.func fid) fst cap) (hc:callable P fid = true) (hfn:P.funcs[fid]? = some fn) (hb:fn.body = some body)
  (hn:(fst ++ xs.toList.map (gev st) ++ cap).length ≤ fn.ntmps) (hT:Tr P body ⟨fn.ntmps,st.gl,enterFr 0 (fst ++ xs.toList.map (gev st) ++ cap),st.σ,st.c,st.c,false⟩ Q) (hQ:∀ e s,Q e s → (e = .normal ∨ e = .ret) ∧ s.gl = st.gl ∧ ∃ gs',fn.results.toList.mapM (gres P s) = some gs') :
  GSn P o st (fun s' => ∃ e s gs',Q e s ∧ fn.results.toList.mapM (gres P s) = some gs' ∧ s' = { st with σ:=s.σ,c:=s.c }.put o.dst (gtup gs')):=by
 intro cx a w K R ⟨β,h⟩ hK
 obtain ⟨vs,hrun,hsz,hv⟩:=run_call h ho hf hc
 refine h.loose.oper (fun c hc => by rw [ho] at hc; cases hc) ?_
 unfold Oper.wp
 rw [hrun]
 refine (call_core h hfn hb hn hsz hv hT hQ).mono ?_
 rintro E w' ⟨v,e,s,gs',β1,rfl,hq,hgs,h1,h2,_⟩
 exact hK _ ⟨e,s,gs',hq,hgs,rfl⟩ _ _ ⟨β1,h1.put o.dst hd h2⟩

theorem RelB.xob {cx:Cx} {st:St} {a:Act} {w:World} {β:Bm} (h:RelB P cx st a w β) {i:Nat} {t:TypeId} {l:List G} {x:Xob} (ho:sget st.σ i = some ⟨t,l,some x⟩) (hn:x ≠ .resv):∃ b o,β i = some (some (b,0)) ∧ w.heap[b]? = some o ∧ XO β (Av cx.S0 β st.σ) w x o:=by
 rcases h.ob i _ ho with ⟨_,_,h3⟩ | ⟨b,x',o,h1,h2,h3,h4,h5⟩ | ⟨b',C',cur,h1,_⟩
 ·rcases h3 with h3 | h3
  ·cases h3
  ·cases h3; exact absurd rfl hn
 ·cases h1; exact ⟨b,o,h3,h4,h5⟩
 ·cases h1

/-! ### a loop over a function -/
def LoopEnd (P:Program) (st:St) (Q:Exit → St → Prop) (e:Exit) (s:St):Prop :=
 (e = .normal ∨ e = .ret) ∧ s.gl = st.gl ∧ ∃ t ls pe n fr ps as bd,sget s.σ st.c = some ⟨t,[],some (.loop ls pe n fr ps as bd)⟩ ∧ ls ≠ .busy ∧
  match pe with
  | none => Q .normal { st with σ:=(st.c,none) :: (st.c,some ⟨t,[],some (.loop .exhausted pe n fr ps as bd)⟩) :: s.σ,c:=s.c }
  | some c => Tr P c { st with σ:=(st.c,none) :: (st.c,some ⟨t,[],some (.loop .exhausted pe n fr ps as bd)⟩) :: s.σ,c:=s.c } Q
theorem tr_rangeFunc {g:Operand} {ps:Array Tmp} {assign body:Code} {st:St} {Q:Exit → St → Prop} {fid:FuncId} {fst cap:List G} {fn:Func} {fbody:Code} (hr:st.r = false) (hg:gev st g = .clo (.func fid) fst cap) (hc:callable P fid = true) (hfn:P.funcs[fid]? = some fn) (hb:fn.body = some fbody)
  (hn:(fst ++ [G.yld st.c] ++ cap).length ≤ fn.ntmps) (hres:fn.results.toList = [])
  (hT:Tr P fbody ⟨fn.ntmps,st.gl,enterFr 0 (fst ++ [G.yld st.c] ++ cap),(st.c,some ⟨0,[],some (.loop .ready none st.n st.fr ps assign body)⟩) :: st.σ,st.c + 1,st.c + 1,false⟩ (LoopEnd P st Q)) :
  Tr P (.rangeFunc g ps assign body) st Q:=by
 intro cx a w R ⟨β,h⟩ hk
 have hround:cx.F.round = none:=h.rnd hr
 refine wpIn_rangeFunc ?_
 intro fnid hfnid
 rw [hround]
 have hx:=h.ev g
 rw [hg] at hx
 obtain ⟨fs,cs,hgv,h1,h2,h3,h4⟩:=hx.clo_form
 obtain ⟨rec,hrec⟩:∃ rec:LoopState → Option Code → Loop,rec = fun st pe => { state:=st,pending:=pe,fn:=fnid,tmps:=a.tmps,params:=ps,assign,body,defers:=w.heap.size }:=⟨_,rfl⟩
 obtain ⟨W1,hW1⟩:∃ W1,(w.alloc (.deferred (some []))).alloc (.loop (rec .ready none)) = W1:=⟨_,rfl⟩
 have hW0:RelB P cx st a (w.alloc (.deferred (some []))) β:=h.world ((Keeps.refl _ _).alloc _)
 have hsz0:(w.alloc (.deferred (some []))).heap.size = w.heap.size + 1:=by simp
 have hL1:W1.heap[w.heap.size + 1]? = some (.loop (rec .ready none)):=by
  rw [← hW1]; have:=World.alloc_heap_new (w.alloc (.deferred (some []))) (.loop (rec .ready none)); rwa [World.size_alloc] at this
 have hD1:W1.heap[w.heap.size]? = some (.deferred (some [])):=by
  rw [← hW1]; exact (Below.heap_alloc _ _ _ (by simp)).trans (World.alloc_heap_new w _)
 have hk1:Keeps (fun _ => False) (w.alloc (.deferred (some []))) W1:=by rw [← hW1]; exact (Keeps.refl _ _).alloc _
 have hR1:=hW0.allocX (w':=W1) hk1 (b:=w.heap.size + 1) (ob:=⟨0,[],some (.loop .ready none st.n st.fr ps assign body)⟩) (x:=.loop .ready none st.n st.fr ps assign body) (by rw [hsz0]; exact Nat.le_refl _) hL1 rfl rfl ⟨fnid,a.tmps,w.heap.size,by rw [hrec],hW0.size,fun j => hW0.fr j⟩ (Nat.le_refl st.c)
 refine ⟨w.heap.size + 1,[{ target:=.collected w.heap.size,args:=#[] }],W1,{ target:=.fn (.func fid) cs,args:=fs ++ #[.func (.yield (w.heap.size + 1)) #[] #[]] },W1,fid,
  fs ++ #[.func (.yield (w.heap.size + 1)) #[] #[]] ++ cs,W1,?_,?_,fun _ _ => h.loose.fn _,?_,h.loose.some,?_⟩
 ·rw [← hW1,hrec]; exact run_enterLoop_outer _ _ _ _ _
 ·simp only [resolve,hgv]
  simp [go_sem]
 ·simp [invoke,go_sem,run_callFunc hc]
 refine h.loose.calls ?_
 have hsub:∀ b,b < w.heap.size → Av cx.S0 (fun i => if i = st.c then some (some (w.heap.size + 1,0)) else β i) ((st.c,some ⟨0,[],some (.loop .ready none st.n st.fr ps assign body)⟩) :: st.σ) b → Av cx.S0 β st.σ b:=by
  rintro b hlt (hb | ⟨i,ob,C,ho,hb⟩)
  ·exact .inl hb
  ·rw [sget_cons] at ho
   by_cases e:i = st.c
   ·subst e
    simp at hb
    omega
   ·rw [if_neg (fun x => e x.symm)] at ho
    simp only [if_neg e] at hb
    exact .inr ⟨i,ob,C,ho,hb⟩
 have hext1:∀ i x,β i = some x → (fun i => if i = st.c then some (some (w.heap.size + 1,0)) else β i) i = some x:=by
  intro i x hx
  have:i ≠ st.c:=fun e => by rw [e,h.fresh st.c (Nat.le_refl _)] at hx; cases hx
  simp [this,hx]
 have hkw:Keeps (Av cx.S0 β st.σ) w W1:=by
  rw [← hW1]
  exact ((Keeps.refl _ _).alloc _).alloc _
 refine (call_core hR1 hfn hb hn (by simp [h1,h2]; omega) (fun i g u hg' hu => ?_) hT (fun e s (hq:LoopEnd P st Q e s) => ⟨hq.1,hq.2.1,[],by rw [hres]; rfl⟩)).mono ?_
 ·by_cases c1:i < fst.length
  ·rw [List.append_assoc,List.getElem?_append_left c1] at hg'
   rw [Array.append_assoc,Array.getElem?_append_left (by omega)] at hu
   exact (h3 i g u hg' hu).step hext1 hsub hkw
  ·by_cases c2:i < fst.length + 1
   ·have e:i = fst.length:=by omega
    subst e
    rw [List.append_assoc,List.getElem?_append_right (Nat.le_refl _),Nat.sub_self] at hg'
    rw [Array.append_assoc,Array.getElem?_append_right (by omega),h1,Nat.sub_self,Array.getElem?_append_left (by simp)] at hu
    simp at hg' hu
    subst hg'; subst hu
    exact .yld _ _ 0 (by simp)
   ·rw [List.getElem?_append_right (by simp; omega)] at hg'
    rw [Array.getElem?_append_right (by simp; omega)] at hu
    refine (h4 (i - (fst.length + 1)) g u ?_ ?_).step hext1 hsub hkw
    ·rw [← hg']; congr 1; simp
    ·rw [← hu]; congr 1; simp [h1]
 ·rintro E w2 ⟨v,e,s,gs',β2,rfl,⟨he,hgl,t,ls,pe,n,fr,ps',as',bd',hob,hbusy,hpe⟩,hgs,hrel,hrv,hext2,hkeep⟩
  have hob':sget ({ st with σ:=s.σ,c:=s.c }:St).σ st.c = some ⟨t,[],some (.loop ls pe n fr ps' as' bd')⟩:=hob
  obtain ⟨b,o,hb2,hh,hxo⟩:=hrel.xob (st:={ st with σ:=s.σ,c:=s.c }) hob' (fun e => by cases e)
  have hbl:β2 st.c = some (some (w.heap.size + 1,0)):=hext2 st.c _ (by simp)
  rw [hbl] at hb2
  simp only [Option.some.injEq,Prod.mk.injEq,and_true] at hb2
  subst hb2
  obtain ⟨fn2,tmps2,D2,rfl,hts,htf⟩:=hxo
  have hend:=run_endLoop (P:=P) hh hbusy
  refine ⟨pe,_,hend,?_⟩
  have hlt:w.heap.size + 1 < w2.heap.size:=(Array.getElem?_eq_some_iff.1 hh).1
  have hX:=hrel.writeX (x:=.loop .exhausted pe n fr ps' as' bd') hob' hbl (keeps_put (.loop { state:=.exhausted,pending:=pe,fn:=fn2,tmps:=tmps2,params:=ps',assign:=as',body:=bd',defers:=D2 })) (World.putObj_heap_same hlt) ⟨fn2,tmps2,D2,rfl,hts,htf⟩
  have hK2:=hX.kill st.c
  have hD2:w2.heap[w.heap.size]? = some (.deferred (some [])):=(hkeep.block _ (Array.getElem?_eq_some_iff.1 hD1).1 (fun ⟨j,ob2,C,h5,h6⟩ => hR1.not_marks h5 h6 hD1)).trans hD1
  have hrelA:Rel P cx { st with σ:=(st.c,none) :: (st.c,some ⟨t,[],some (.loop .exhausted pe n fr ps' as' bd')⟩) :: s.σ,c:=s.c } { a with defers:=[{ target:=.collected w.heap.size,args:=#[] }] ++ a.defers } (w2.putObj (w.heap.size + 1) (.loop { state:=.exhausted,pending:=pe,fn:=fn2,tmps:=tmps2,params:=ps',assign:=as',body:=bd',defers:=D2 })):=by
   refine ⟨β2,{ hK2 with size:=hK2.size,defers:=?_,fr:=hK2.fr }⟩
   obtain ⟨ds,d1,d2,d3⟩:=hK2.defers
   have hold:∀ D ∈ ds,D < w.heap.size:=by
    intro D hD
    obtain ⟨ds0,f1,f2,f3⟩:=h.defers
    have:ds0.map markOf = ds.map markOf:=f1.symm.trans d1
    have hm:ds0 = ds:=by
     have hinj:∀ x y,markOf x = markOf y → x = y:=fun x y hxy => by simp only [markOf,Deferred.mk.injEq,Target.collected.injEq,and_true] at hxy; exact hxy
     clear f1 f2 f3 d1 d2 d3 hD
     induction ds0 generalizing ds with
     | nil => cases ds with
      | nil => rfl
      | cons y r => simp at this
     | cons x r ih => cases ds with
      | nil => simp at this
      | cons y r' =>
       simp only [List.map_cons,List.cons.injEq] at this
       rw [hinj _ _ this.1,ih _ this.2]
    subst hm
    exact (Array.getElem?_eq_some_iff.1 (f3 D hD).2).1
   refine ⟨w.heap.size :: ds,by simp [d1,markOf],List.nodup_cons.2 ⟨fun hD => by have:=hold _ hD; omega,d2⟩,fun D hD => ?_⟩
   rcases List.mem_cons.1 hD with rfl | hD
   ·exact ⟨h.keep.size,(World.putObj_heap_other (by omega)).trans hD2⟩
   ·exact d3 D hD
  cases pe with
  | none => exact hk _ _ _ _ hpe hrelA
  | some c => exact hpe cx _ _ _ hrelA hk

/-! ### a round -/
def setAll:List (Tmp × G) → Fr → Fr
 | [],fr => fr
 | (p,g) :: r,fr => setAll r ((p,g) :: fr)
theorem setAll_rv {β:Bm} {S:Nat → Prop} {w:World} {n:Nat}:∀ (l:List (Tmp × G)) (vs:List Value) (fr:Fr) (tmps:Array Value),vs.length = l.length → tmps.size = n → (∀ p ∈ l,p.1 < n) → (∀ i,RV β S w (fget fr i) (tmps.getD i undef)) → (∀ (i:Nat) (q:Tmp × G) (u:Value),l[i]? = some q → vs[i]? = some u → RV β S w q.2 u) →
  (((l.map (·.1)).zip vs).foldl (fun t (p,v) => t.setIfInBounds p v) tmps).size = n ∧ ∀ i,RV β S w (fget (setAll l fr) i) ((((l.map (·.1)).zip vs).foldl (fun t (p,v) => t.setIfInBounds p v) tmps).getD i undef)
 | [],vs,fr,tmps,hl,hs,_,hf,_ => ⟨hs,hf⟩
 | (p,g) :: r,v :: vs,fr,tmps,hl,hs,hp,hf,hv => by
  refine setAll_rv r vs ((p,g) :: fr) (tmps.setIfInBounds p v) (by simpa using hl) (by simpa using hs) (fun q hq => hp q (by simp [hq])) (fun i => ?_) (fun i q u hq hu => hv (i + 1) q u (by simpa using hq) (by simpa using hu))
  have hlt:p < tmps.size:=by rw [hs]; exact hp (p,g) (by simp)
  have:=tmps_put { tmps:=tmps,defers:=[] } p v hlt i
  simp only [Act.put] at this
  rw [this,fget_cons]
  split
  ·exact hv 0 (p,g) v rfl rfl
  ·exact hf i
 | (p,g) :: r,[],fr,tmps,hl,_,_,_,_ => by simp at hl
def jumpOf:Exit → Option (Option Code)
 | .normal => some none
 | .ret => some (some .ret)
 | .exit id => some (some (.exit id))
 | .goto t => some (some (.goto t))
 | _ => none
def RoundEnd (P:Program) (st:St) (i:Nat) (S:Option Code → Xob → TypeId → St → Prop) (e:Exit) (s:St):Prop :=
 s.gl = st.gl ∧ ∃ j t ls pe n fr ps as bd,jumpOf e = some j ∧ sget s.σ i = some ⟨t,[],some (.loop ls pe n fr ps as bd)⟩ ∧ S j (.loop (if j.isNone then .ready else .done) j n fr ps as bd) t s
theorem gsn_yield {o:Oper} {st:St} {f:Operand} {xs:Array Operand} {ats:Array TypeId} {i n:Nat} {t:TypeId} {pe:Option Code} {fr:Fr} {ps:Array Tmp} {as bd:Code} {S:Option Code → Xob → TypeId → St → Prop}
  (ho:o.op = .call { callee:=.value f,args:=xs,argTypes:=ats }) (hd:∀ d,o.dst = some d → d < st.n) (hf:gev st f = .yld i) (hob:sget st.σ i = some ⟨t,[],some (.loop .ready pe n fr ps as bd)⟩) (hsz:xs.size = ps.size) (hps:∀ p ∈ ps.toList,p < n)
  (hA:Tr P as ⟨n,st.gl,setAll (ps.toList.zip (xs.toList.map (gev st))) fr,st.σ,st.c,st.c,true⟩ (fun e s => e = .normal ∧ s.gl = st.gl ∧ ∃ t' pe' n' fr' ps' as' bd',sget s.σ i = some ⟨t',[],some (.loop .ready pe' n' fr' ps' as' bd')⟩ ∧
   Tr P bd { s with σ:=(i,some ⟨t',[],some (.loop .busy pe' n' fr' ps' as' bd')⟩) :: s.σ } (RoundEnd P st i S))) :
  GSn P o st (fun s' => ∃ j x t' s,S j x t' s ∧ s' = { st with σ:=(i,some ⟨t',[],some x⟩) :: s.σ,c:=s.c }.put o.dst (.lit (.bool j.isNone))):=by
 intro cx a w K R ⟨β,h⟩ hK
 obtain ⟨l,o0,hbi,hh,hxo⟩:=h.xob hob (fun e => by cases e)
 obtain ⟨fn,tmps,D,rfl,hts,htf⟩:=hxo
 have hfv:a.eval f = .func (.yield l) #[] #[]:=by
  have:=h.ev f
  rw [hf] at this
  obtain ⟨b,C,h1,h2⟩:=this.yld_form
  rw [hbi] at h1
  cases h1
  exact h2
 have hrun:(execOp a.eval o).run P w = .ok (.round l fn ((ps.zip (xs.map a.eval)).foldl (fun t (p,v) => t.setIfInBounds p v) tmps) as bd) w:=by
  unfold execOp
  have hy:=run_yield (P:=P) (args:=xs.map a.eval) hh (by simpa using hsz)
  simp only [ho,resolve,hfv]
  simp [go_sem,invoke,Deferred.ofValue,hy]
 refine ⟨fun g _ => h.loose.fn g,?_⟩
 have hs:o.semAt cx.F.round a.eval = execOp a.eval o:=by
  cases cx.F.round with
  | none => rfl
  | some l => exact Oper.semAt_some l _ _ (fun c hc => by rw [ho] at hc; cases hc)
 rw [hs,hrun,Oper.uponIn_round]
 refine ⟨h.loose.some,?_⟩
 have hLr:Loose (cx.F.inRound l):=⟨h.loose.fn,h.loose.depth,h.loose.alive⟩
 obtain ⟨q1,q2⟩:=setAll_rv (β:=β) (S:=Av cx.S0 β st.σ) (w:=w) (n:=n) (ps.toList.zip (xs.toList.map (gev st))) (xs.toList.map a.eval) fr tmps (by simp; omega) hts (fun p hp => hps p.1 (List.of_mem_zip hp).1) htf (fun k q u hq hu => by
  rw [List.getElem?_zip_eq_some] at hq
  obtain ⟨_,hq2⟩:=hq
  rw [List.getElem?_map] at hq2 hu
  cases hx:xs.toList[k]? with
  | none => rw [hx] at hu; cases hu
  | some x =>
   rw [hx] at hq2 hu
   simp at hq2 hu
   rw [← hq2,← hu]
   exact h.ev x)
 have e0:(ps.toList.zip (xs.toList.map (gev st))).map (·.1) = ps.toList:=by
  rw [List.map_fst_zip]; simp; omega
 rw [e0] at q1 q2
 have e1:(ps.zip (xs.map a.eval)).foldl (fun t (p,v) => t.setIfInBounds p v) tmps = (ps.toList.zip (xs.toList.map a.eval)).foldl (fun t (p,v) => t.setIfInBounds p v) tmps:=by
  rw [← Array.foldl_toList]
  congr 1
  simp [Array.toList_zip]
 rw [e1]
 refine roundIn_of_wpIn (h.loose.fn fn) ?_
 have hfront:=h.front (F:=cx.F.inRound l) (n:=cx.nn - 1) (m:=n) (r:=true) hLr (fun hx => by cases hx) q1 q2
 refine hA ⟨w,Liv β st.σ,cx.S0,β,cx.F.inRound l,cx.nn - 1⟩ _ w _ ⟨β,hfront⟩ ?_
 ·rintro e s a1 w1 ⟨rfl,hgl,t',pe',n',fr',ps',as',bd',hob1,hT2⟩ ⟨β1,hr1⟩
  obtain ⟨b1,o1,hb1,hh1,hxo1⟩:=hr1.xob hob1 (fun e => by cases e)
  have hext1:=(hr1.pin i _ hbi).2
  rw [hext1] at hb1
  simp only [Option.some.injEq,Prod.mk.injEq,and_true] at hb1
  subst hb1
  obtain ⟨fn1,tmps1,D1,rfl,hts1,htf1⟩:=hxo1
  have hlt1:l < w1.heap.size:=(Array.getElem?_eq_some_iff.1 hh1).1
  refine ⟨_,run_beginRound hh1 rfl,?_⟩
  have hX1:=hr1.writeX (x:=.loop .busy pe' n' fr' ps' as' bd') hob1 hext1 (keeps_put (.loop { state:=.busy,pending:=pe',fn:=fn1,tmps:=tmps1,params:=ps',assign:=as',body:=bd',defers:=D1 })) (World.putObj_heap_same hlt1) ⟨fn1,tmps1,D1,rfl,hts1,htf1⟩
  refine hT2 ⟨w,Liv β st.σ,cx.S0,β,cx.F.inRound l,cx.nn - 1⟩ a1 _ _ ⟨β1,hX1⟩ ?_
  rintro e2 s2 a2 w2 ⟨hgl2,j,t2,ls2,pe2,n2,fr2,ps2,as2,bd2,hj,hob2,hS⟩ ⟨β2,hr2⟩
  obtain ⟨b2,o2,hb2,hh2,hxo2⟩:=hr2.xob hob2 (fun e => by cases e)
  have hext2:=(hr2.pin i _ hbi).2
  rw [hext2] at hb2
  simp only [Option.some.injEq,Prod.mk.injEq,and_true] at hb2
  subst hb2
  obtain ⟨fn2,tmps2,D2,rfl,hts2,htf2⟩:=hxo2
  have hlt2:l < w2.heap.size:=(Array.getElem?_eq_some_iff.1 hh2).1
  have hend:=run_endRound (P:=P) j hh2
  have hX2:=hr2.writeX (x:=.loop (if j.isNone then .ready else .done) j n2 fr2 ps2 as2 bd2) hob2 hext2 (keeps_put (.loop { state:=if j.isNone then .ready else .done,pending:=j,fn:=fn2,tmps:=tmps2,params:=ps2,assign:=as2,body:=bd2,defers:=D2 })) (World.putObj_heap_same hlt2) ⟨fn2,tmps2,D2,rfl,hts2,htf2⟩
  obtain ⟨hback,_,_⟩:=h.back hX2 hgl2
  have hfin:K (a.put o.dst (.bool j.isNone)) (w2.putObj l (.loop { state:=if j.isNone then .ready else .done,pending:=j,fn:=fn2,tmps:=tmps2,params:=ps2,assign:=as2,body:=bd2,defers:=D2 })) :=
   hK _ ⟨j,_,t2,s2,hS,rfl⟩ _ _ ⟨β2,hback.put o.dst hd (.imm _ _ (.lit _))⟩
  cases e2 with
  | normal => cases hj; exact ⟨_,_,hend,hfin⟩
  | ret => cases hj; exact ⟨_,_,hend,hfin⟩
  | exit id => cases hj; exact ⟨_,_,hend,hfin⟩
  | goto q => cases hj; exact ⟨_,_,hend,hfin⟩
  | panic c => cases hj
  | outgrown => cases hj
end
end Go.Proofs.YtpehhhbmobmedaaGreatDoor
