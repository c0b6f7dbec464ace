/- A machine of values over the model: numbers kept for objects; calls that see some of the objects. -/
import Derived.Test.YtpehhhbmobmedaaGreatDoorGY
import Derived.Test.YtpehhhbmobmedaaGreatDoorGV
namespace Go.Proofs.YtpehhhbmobmedaaGreatDoor
set_option linter.unusedVariables false
set_option linter.unusedSimpArgs false
set_option linter.unusedSectionVars false
section
open Go.RowKit
section
variable {P:Program}

def resvOb:Ob:=⟨0,[],some .resv⟩
theorem le_resv (st:St):Le P st { st with σ:=(st.c,some resvOb) :: st.σ,c:=st.c + 1 }:=by
 rintro cx a w ⟨β,h⟩
 exact ⟨_,h.virtX 0 (.inr rfl) (Nat.le_refl _)⟩
def addResv:Nat → St → St
 | 0,s => s
 | n + 1,s => addResv n { s with σ:=(s.c,some resvOb) :: s.σ,c:=s.c + 1 }
theorem le_addResv:∀ (n:Nat) (st:St),Le P st (addResv n st)
 | 0,st => Le.refl st
 | n + 1,st => (le_resv st).trans (le_addResv n _)

theorem sget_append_some {a b:Sto} {i:Nat} {o:Ob} (h:sget (a ++ b) i = some o):sget a i = some o ∨ (i ∉ a.map (·.1) ∧ sget b i = some o):=by
 induction a with
 | nil => exact .inr ⟨by simp,h⟩
 | cons x r ih =>
  obtain ⟨d,ob⟩:=x
  rw [List.cons_append,sget_cons] at h
  rw [sget_cons]
  split at h
  ·rename_i e; rw [if_pos e]; exact .inl h
  ·rename_i e
   rw [if_neg e]
   rcases ih h with h | ⟨h1,h2⟩
   ·exact .inl h
   ·exact .inr ⟨by simp only [List.map_cons,List.mem_cons,not_or]; exact ⟨fun x => e x.symm,h1⟩,h2⟩
theorem sget_append_in {a b:Sto} {i:Nat} (h:i ∈ a.map (·.1)):sget (a ++ b) i = sget a i:=by
 induction a with
 | nil => simp at h
 | cons x r ih =>
  obtain ⟨d,ob⟩:=x
  rw [List.cons_append,sget_cons,sget_cons]
  split
  ·rfl
  ·rename_i e
   simp only [List.map_cons,List.mem_cons] at h
   rcases h with h | h
   ·exact absurd h.symm e
   ·exact ih h
theorem sget_append_out {a b:Sto} {i:Nat} (h:i ∉ a.map (·.1)):sget (a ++ b) i = sget b i:=by
 induction a with
 | nil => rfl
 | cons x r ih =>
  obtain ⟨d,ob⟩:=x
  simp only [List.map_cons,List.mem_cons,not_or] at h
  rw [List.cons_append,sget_cons,if_neg (fun e => h.1 e.symm)]
  exact ih h.2
def Hidden (cx:Cx) (β:Bm) (σ σR:Sto) (b:Nat):Prop:=cx.S0 b ∨ ∃ i ob C,sget σ i = some ob ∧ β i = some (some (b,C)) ∧ sget σR i = none
theorem RelB.frontF {cx:Cx} {st:St} {a:Act} {w:World} {β:Bm} {F:Fence} {n m:Nat} {r:Bool} {fr:Fr} {tmps:Array Value} (h:RelB P cx st a w β) (σR:Sto) (hR:∀ i o,sget σR i = some o → sget st.σ i = some o) (hL:Loose F) (hr:r = false → F.round = none) (hsz:tmps.size = m) (hf:∀ i,RV β (Av cx.S0 β st.σ) w (fget fr i) (tmps.getD i undef)) :
  RelB P ⟨w,Liv β σR,Hidden cx β st.σ σR,β,F,n⟩ ⟨m,st.gl,fr,σR,st.c,st.c,r⟩ { tmps:=tmps,defers:=[] } w β ∧ (∀ b,Av (Hidden cx β st.σ σR) β σR b ↔ Av cx.S0 β st.σ b):=by
 have hav:∀ b,Av (Hidden cx β st.σ σR) β σR b ↔ Av cx.S0 β st.σ b:=fun b => by
  constructor
  ·rintro ((hb | ⟨i,ob,C,h1,h2,_⟩) | ⟨i,ob,C,h1,h2⟩)
   ·exact .inl hb
   ·exact .inr ⟨i,ob,C,h1,h2⟩
   ·exact .inr ⟨i,ob,C,hR i ob h1,h2⟩
  ·rintro (hb | ⟨i,ob,C,h1,h2⟩)
   ·exact .inl (.inl hb)
   ·cases hi:sget σR i with
    | none => exact .inl (.inr ⟨i,ob,C,h1,h2,hi⟩)
    | some o => exact .inr ⟨i,o,C,hi,h2⟩
 refine ⟨{
  size:=hsz
  defers:=.nil rfl
  loose:=hL
  rnd:=hr
  fr:=fun i => (hf i).step (fun _ _ x => x) (fun b _ hb => (hav b).1 hb) (Keeps.refl _ _)
  ob:=fun i o ho => (h.ob i o (hR i o ho)).step (fun _ _ x => x) (fun b _ hb => (hav b).1 hb) (Keeps.refl _ _) (fun _ _ _ => rfl)
  inj:=fun i j o o' b C D h1 h2 => h.inj i j o o' b C D (hR i o h1) (hR j o' h2)
  own:=fun i o b C ho hb => .inl ⟨i,o,C,ho,hb⟩
  sep:=fun i o b C ho hb hx => by
   rcases hx with hx | ⟨j,ob,D,h1,h2,h3⟩
   ·exact h.sep i o b C (hR i o ho) hb hx
   ·have:=h.inj i j o ob b C D (hR i o ho) h1 hb h2
    subst this
    rw [ho] at h3; cases h3
  fresh:=h.fresh
  glob:=fun g l hl => (h.glob g l hl).sub fun b _ hb => (hav b).1 hb
  keep:=Keeps.refl _ _
  old:=fun b hb => by
   rcases hb with hb | ⟨i,ob,C,h1,h2,_⟩
   ·exact h.keep.lt (h.old b hb)
   ·exact h.lt h1 h2
  pin:=fun i x hx => ⟨(by
   rcases Nat.lt_or_ge i st.c with h' | h'
   ·exact h'
   ·have:=h.fresh i h'
    have hx':β i = some x:=hx
    rw [this] at hx'
    cases hx'),hx⟩ },hav⟩
theorem RelB.backF {cx:Cx} {st s:St} {a a':Act} {w w':World} {β β1:Bm} {F:Fence} {n:Nat} {σR τ:Sto} (h:RelB P cx st a w β) (hR:∀ i o,sget σR i = some o → sget st.σ i = some o) (hr:RelB P ⟨w,Liv β σR,Hidden cx β st.σ σR,β,F,n⟩ s a' w' β1) (hgl:s.gl = st.gl)
  (hτ:∀ i o,sget τ i = some o → sget s.σ i = some o ∨ (sget st.σ i = some o ∧ sget σR i = none)) :
  RelB P cx { st with σ:=τ,c:=s.c } a w' β1 ∧ ∀ g v,RV β1 (Av (Hidden cx β st.σ σR) β1 s.σ) w' g v → RV β1 (Av cx.S0 β1 τ) w' g v:=by
 have hext:∀ k x,β k = some x → β1 k = some x:=fun k x hx => (hr.pin k x hx).2
 have hlive:∀ i o,sget st.σ i = some o → ∃ x,β i = some x:=fun i o ho => by
  rcases (h.ob i o ho).at with h1 | ⟨b,C,_,h1,_⟩
  ·exact ⟨_,h1⟩
  ·exact ⟨_,h1⟩
 have hblk:∀ i o b C,sget st.σ i = some o → β1 i = some (some (b,C)) → β i = some (some (b,C)):=fun i o b C ho hb => by
  obtain ⟨x,hx⟩:=hlive i o ho
  rw [hext i x hx] at hb
  rw [hx]; exact hb
 -- what is avoided, behind
 have hav:∀ b,Av cx.S0 β1 τ b → Av (Hidden cx β st.σ σR) β1 s.σ b:=by
  rintro b (hb | ⟨i,ob,C,h1,h2⟩)
  ·exact .inl (.inl hb)
  ·rcases hτ i ob h1 with h3 | ⟨h3,h4⟩
   ·exact .inr ⟨i,ob,C,h3,h2⟩
   ·exact .inl (.inr ⟨i,ob,C,h3,hblk i ob b C h3 h2,h4⟩)
 have hAo:∀ b,b < w.heap.size → Av cx.S0 β1 τ b → Av cx.S0 β st.σ b:=by
  intro b hlt hb
  rcases hav b hb with (hb | ⟨i,ob,C,h1,h2,_⟩) | ⟨i,ob,C,h1,h2⟩
  ·exact .inl hb
  ·exact .inr ⟨i,ob,C,h1,h2⟩
  ·rcases hr.own i ob b C h1 h2 with ⟨j,ob2,E,g3,g4⟩ | hb
   ·exact .inr ⟨j,ob2,E,hR j ob2 g3,g4⟩
   ·exact absurd hlt (by have:w.heap.size ≤ b:=hb; omega)
 have hkp:Keeps (Av cx.S0 β st.σ) w w':=hr.keep.mono fun b _ ⟨j,ob2,E,g3,g4⟩ => .inr ⟨j,ob2,E,hR j ob2 g3,g4⟩
 have hframe:∀ i o b C,sget st.σ i = some o → sget σR i = none → β i = some (some (b,C)) → w'.heap[b]? = w.heap[b]?:=fun i o b C ho hn hb => hr.keep.block b (h.lt ho hb) (fun ⟨j,ob2,E,g3,g4⟩ => by
  have:=h.inj i j o ob2 b C E ho (hR j ob2 g3) hb g4
  subst this
  rw [hn] at g3; cases g3)
 refine ⟨{
  size:=h.size
  defers:=h.defers.keep hr.keep (fun D hD ⟨j,ob2,E,g3,g4⟩ => h.not_marks (hR j ob2 g3) g4 hD)
  loose:=h.loose
  rnd:=h.rnd
  fr:=fun i => (h.fr i).step hext hAo hkp
  ob:=fun i o ho => by
   rcases hτ i o ho with h1 | ⟨h1,h2⟩
   ·exact (hr.ob i o h1).step (fun _ _ x => x) (fun b _ hb => hav b hb) (Keeps.refl _ _) (fun _ _ _ => rfl)
   ·exact (h.ob i o h1).step hext hAo hkp (fun b C hb => hframe i o b C h1 h2 hb)
  inj:=fun i j o o' b C D hi hj hbi hbj => by
   rcases hτ i o hi with h1 | ⟨h1,h2⟩ <;> rcases hτ j o' hj with h3 | ⟨h3,h4⟩
   ·exact hr.inj i j o o' b C D h1 h3 hbi hbj
   ·exact absurd (.inr ⟨j,o',D,h3,hblk j o' b D h3 hbj,h4⟩) (hr.sep i o b C h1 hbi)
   ·exact absurd (.inr ⟨i,o,C,h1,hblk i o b C h1 hbi,h2⟩) (hr.sep j o' b D h3 hbj)
   ·exact h.inj i j o o' b C D h1 h3 (hblk i o b C h1 hbi) (hblk j o' b D h3 hbj)
  own:=fun i o b C hi hbi => by
   rcases hτ i o hi with h1 | ⟨h1,h2⟩
   ·rcases hr.own i o b C h1 hbi with ⟨j,ob2,E,g3,g4⟩ | hb
    ·exact h.own j ob2 b E (hR j ob2 g3) g4
    ·have:=h.keep.size
     have hb':w.heap.size ≤ b:=hb
     right; omega
   ·exact h.own i o b C h1 (hblk i o b C h1 hbi)
  sep:=fun i o b C hi hbi hx => by
   rcases hτ i o hi with h1 | ⟨h1,h2⟩
   ·exact hr.sep i o b C h1 hbi (.inl hx)
   ·exact h.sep i o b C h1 (hblk i o b C h1 hbi) hx
  fresh:=hr.fresh
  glob:=fun g l hl => (hr.glob g l (by rw [hgl]; exact hl)).sub fun b _ hb => hav b hb
  keep:=h.keep.then hr.keep (fun b hb ⟨j,ob2,E,g3,g4⟩ => by
   rcases h.own j ob2 b E (hR j ob2 g3) g4 with h1 | h1
   ·exact h1
   ·omega)
  old:=h.old
  pin:=fun i x hx => ⟨(h.pin i x hx).1,hext i x (h.pin i x hx).2⟩ },fun g v hv => hv.step (fun _ _ x => x) (fun b _ hb => hav b hb) (Keeps.refl _ _)⟩
theorem gsn_callF {o:Oper} {st:St} {f:Operand} {xs:Array Operand} {ats:Array TypeId} {fid:FuncId} {fst cap:List G} {fn:Func} {body:Code} {Q:Exit → St → Prop} {T:Exit → St → Sto → Prop} (σR:Sto) (hR:∀ i o,sget σR i = some o → sget st.σ i = some o)
  (ho:o.op = .call { callee:=.value f,args:=xs,argTypes:=ats }) (hd:∀ d,o.dst = some d → d < st.n) (hf:gev st f = .clo (.func fid) fst cap) (hc:callable P fid = true) (hfn:P.funcs[fid]? = some fn) (hb:fn.body = some body)
  (hn:(fst ++ xs.toList.map (gev st) ++ cap).length ≤ fn.ntmps) (hT:Tr P body ⟨fn.ntmps,st.gl,enterFr 0 (fst ++ xs.toList.map (gev st) ++ cap),σR,st.c,st.c,false⟩ Q) (hQ:∀ e s,Q e s → (e = .normal ∨ e = .ret) ∧ s.gl = st.gl ∧ ∃ gs',fn.results.toList.mapM (gres P s) = some gs')
  (hτ:(∀ i o,sget st.σ i = some o → i < st.c) → ∀ e s,Q e s → ∃ τ,T e s τ ∧ ∀ i o,sget τ i = some o → sget s.σ i = some o ∨ (sget st.σ i = some o ∧ sget σR i = none)) :
  GSn P o st (fun s' => ∃ e s gs' τ,Q e s ∧ fn.results.toList.mapM (gres P s) = some gs' ∧ T e s τ ∧ s' = { st with σ:=τ,c:=s.c }.put o.dst (gtup gs')):=by
 intro cx a w K R ⟨β,h⟩ hK
 obtain ⟨vs,hrun,hsz,hv⟩:=run_call h ho hf hc
 refine h.loose.oper (fun c hc => by rw [ho] at hc; cases hc) ?_
 unfold Oper.wp
 rw [hrun]
 have hbound:∀ i o,sget st.σ i = some o → i < st.c:=fun i ob ho => by
  rcases Nat.lt_or_ge i st.c with hlt | hge
  ·exact hlt
  ·have hf:=h.fresh i hge
   rcases (h.ob i ob ho).at with h1 | ⟨b,C,_,h1,_⟩ <;> rw [hf] at h1 <;> cases h1
 obtain ⟨hfront,_⟩:=h.frontF (F:=Fence.wide) (n:=9) (m:=fn.ntmps) (r:=false) σR hR loose_wide (fun _ => rfl) (by rw [Array.size_append,Array.size_replicate,hsz]; omega) (enter_rv hsz hn hv)
 refine calls_tr (cx:=⟨w,Liv β σR,Hidden cx β st.σ σR,β,Fence.wide,9⟩) hfn hb hT rfl rfl ⟨β,hfront⟩ ?_
 rintro e s a' w' hq ⟨β1,hr⟩
 obtain ⟨he,hgl,gs',hgs⟩:=hQ e s hq
 obtain ⟨v,hres,hv'⟩:=results_run hr hgs
 obtain ⟨τ,hT1,hT2⟩:=hτ hbound e s hq
 obtain ⟨h1,h2⟩:=h.backF (τ:=τ) hR hr hgl hT2
 exact ⟨he,v,hres,hK _ ⟨e,s,gs',τ,hq,hgs,hT1,rfl⟩ _ _ ⟨β1,h1.put o.dst hd (h2 _ _ hv')⟩⟩
end
end
section
open Go.RowKit

structure Eqv (st st':St):Prop where
 n:st'.n = st.n
 gl:st'.gl = st.gl
 fr:∀ i,fget st'.fr i = fget st.fr i
 σ:∀ i,sget st'.σ i = sget st.σ i
 c:st'.c = st.c
 p:st'.p = st.p
 r:st'.r = st.r
section
variable {P:Program}
theorem Eqv.rel {st st':St} (e:Eqv st st') {cx:Cx} {a:Act} {w:World} (h:Rel P cx st a w):Rel P cx st' a w:=by
 obtain ⟨β,h⟩:=h
 have hA:Av cx.S0 β st'.σ = Av cx.S0 β st.σ:=by
  funext b
  simp only [Av,e.σ]
 refine ⟨β,?_⟩
 exact {
  size:=by rw [e.n]; exact h.size
  defers:=h.defers
  loose:=h.loose
  rnd:=by rw [e.r]; exact h.rnd
  fr:=fun i => by rw [e.fr,hA]; exact h.fr i
  ob:=fun i o ho => by rw [hA]; exact h.ob i o (by rw [← e.σ]; exact ho)
  inj:=fun i j o o' b C D h1 h2 => h.inj i j o o' b C D (by rw [← e.σ]; exact h1) (by rw [← e.σ]; exact h2)
  own:=fun i o b C h1 => h.own i o b C (by rw [← e.σ]; exact h1)
  sep:=fun i o b C h1 => h.sep i o b C (by rw [← e.σ]; exact h1)
  fresh:=fun i hi => h.fresh i (by rw [← e.c]; exact hi)
  glob:=fun g l hl => by rw [hA]; exact h.glob g l (by rw [← e.gl]; exact hl)
  keep:=h.keep
  old:=h.old
  pin:=fun i x hx => by rw [e.p]; exact h.pin i x hx }
theorem Eqv.refl (st:St):Eqv st st:=⟨rfl,rfl,fun _ => rfl,fun _ => rfl,rfl,rfl,rfl⟩

inductive DI where
 | rd (R:List Nat) (ck:Sto → Bool)
 | wr (R:List Nat) (U O:Sto) (cu:Bool)
def DI.keys:DI → List Nat
 | .rd .. => []
 | .wr _ U _ _ => U.map (·.1)
def DI.cu:DI → Bool
 | .rd .. => false
 | .wr _ _ _ cu => cu
def meets (a b:List Nat):Bool:=a.any fun x => b.any (Nat.beq x)
theorem meets_no {a b:List Nat} (h:meets a b = false) {x:Nat} (ha:x ∈ a):x ∉ b:=fun hb => by
 have:meets a b = true:=List.any_eq_true.2 ⟨x,ha,List.any_eq_true.2 ⟨x,hb,Nat.beq_refl x⟩⟩
 rw [this] at h; cases h
def okS:DI → DI → Bool
 | .rd ..,.rd .. => true
 | .rd R _,.wr _ U _ _ => !meets (U.map (·.1)) R
 | .wr _ U _ _,.rd R _ => !meets (U.map (·.1)) R
 | .wr R U _ cu,.wr R' U' _ cu' => !meets (U.map (·.1)) R' && !meets (U.map (·.1)) (U'.map (·.1)) && !meets (U'.map (·.1)) R && !(cu && cu')
def okA:DI → DI → Bool
 | .rd _ ck,.wr _ U _ _ => ck U
 | .wr _ _ O _,.rd _ ck => ck O
 | _,_ => false
def dinf (inf:List DI) (j:Nat):DI:=inf.getD j (.rd [] fun _ => false)
def drawOk4 (l:List Oper) (inf:List DI) (n:Nat):Bool:=drawStat l n && (match (drawPairs l).filter fun q => !okS (dinf inf q.1) (dinf inf q.2) with
 | [] => true
 | [q] => okA (dinf inf q.1) (dinf inf q.2)
 | _ => false)

def StepF (P:Program) (ops:Array Oper) (inf:DI) (o:Oper) (g:G) (st st':St):Prop :=
 (isFree o = true → ∃ ck,inf = .rd [] ck) ∧
 ((gwant st ops o = some true ∧ ((∃ R U O cu c,inf = .wr R U O cu ∧ st' = { st with σ:=U ++ st.σ,c:=c }.put o.dst g ∧ (cu = false → c = st.c) ∧ (∀ x,x ∈ U.map (·.1) → sget O x = sget st.σ x) ∧ O.map (·.1) = U.map (·.1) ∧
   ∀ st'',st''.n = st.n → st''.gl = st.gl → st''.pr = st.pr → (cu = true → st''.c = st.c) → (∀ x ∈ R,sget st''.σ x = sget st.σ x) → (∀ x ∈ o.op.operands,gev st'' x = gev st x) → GS P o st'' ({ st'' with σ:=U ++ st''.σ,c:=if cu then c else st''.c }.put o.dst g)) ∨
  (∃ R ck,inf = .rd R ck ∧ st' = st.put o.dst g ∧ ∀ V:Sto,(V = [] ∨ ck V = true) → ∀ st'',st''.n = st.n → st''.gl = st.gl → (∀ x ∈ R,sget st''.σ x = sget (V ++ st.σ) x) → (∀ x ∈ o.op.operands,gev st'' x = gev st x) → GS P o st'' (st''.put o.dst g)))) ∨
 (gwant st ops o = some false ∧ g = .lit undef ∧ st' = st.put o.dst g ∧ ∃ ck,inf = .rd [] ck))
def RunF (P:Program) (ops:Array Oper) (K:St → Prop):List Oper → List DI → St → Prop
 | [],[],st => K st
 | o :: rest,i :: inf,st => ∃ g st',StepF P ops i o g st st' ∧ RunF P ops K rest inf st'
 | _,_,_ => False
theorem runF_states {ops:Array Oper} {K:St → Prop}:∀ (l:List Oper) (inf:List DI) (st:St),RunF P ops K l inf st →
  ∃ (sts:Nat → St) (gs:Nat → G),sts 0 = st ∧ K (sts l.length) ∧ ∀ i o,l[i]? = some o → StepF P ops (dinf inf i) o (gs i) (sts i) (sts (i + 1))
 | [],[],st,h => ⟨fun _ => st,fun _ => .junk,rfl,h,by simp⟩
 | o :: rest,q :: inf,st,⟨g,st1,hs,hr⟩ => by
  obtain ⟨sts,gs,h1,h2,h3⟩:=runF_states rest inf st1 hr
  refine ⟨fun i => match i with | 0 => st | i + 1 => sts i,fun i => match i with | 0 => g | i + 1 => gs i,rfl,h2,fun i o' ho => ?_⟩
  cases i with
  | zero => simp at ho; subst ho; simpa [h1,dinf] using hs
  | succ i => simpa [dinf] using h3 i o' (by simpa using ho)
 | o :: rest,[],st,h => h.elim
 | [],q :: inf,st,h => h.elim
theorem StepF.like {ops:Array Oper} {inf:DI} {o:Oper} {g:G} {st st':St} (h:StepF P ops inf o g st st'):st'.n = st.n ∧ (st'.gl = st.gl ∧ st'.pr = st.pr) ∧ (∀ t,fget st'.fr t = if o.dst = some t then g else fget st.fr t) ∧ (inf.cu = false → st'.c = st.c) ∧ ∀ x,x ∉ inf.keys → sget st'.σ x = sget st.σ x:=by
 have hp:∀ (s:St),(s.put o.dst g).n = s.n ∧ ((s.put o.dst g).gl = s.gl ∧ (s.put o.dst g).pr = s.pr) ∧ (∀ t,fget (s.put o.dst g).fr t = if o.dst = some t then g else fget s.fr t) ∧ (s.put o.dst g).σ = s.σ ∧ (s.put o.dst g).c = s.c:=fun s => by
  cases o.dst with
  | none => exact ⟨rfl,⟨rfl,rfl⟩,fun t => by simp [St.put],rfl,rfl⟩
  | some d => exact ⟨rfl,⟨rfl,rfl⟩,fun t => by simp [St.put,fget_cons],rfl,rfl⟩
 rcases h with ⟨_,⟨_,⟨R,U,O,cu,c,rfl,rfl,hc,_,_⟩ | ⟨R,ck,rfl,rfl,_⟩⟩ | ⟨_,_,rfl,ck,rfl⟩⟩
 ·obtain ⟨a,b,c',d,e⟩:=hp { st with σ:=U ++ st.σ,c:=c }
  exact ⟨a,b,c',fun h => e.trans (hc h),fun x hx => by rw [d]; exact sget_append_out hx⟩
 ·obtain ⟨a,b,c',d,e⟩:=hp st
  exact ⟨a,b,c',fun _ => e,fun x _ => by rw [d]⟩
 ·obtain ⟨a,b,c',d,e⟩:=hp st
  exact ⟨a,b,c',fun _ => e,fun x _ => by rw [d]⟩

section draw
variable {l:List Oper} {inf:List DI} {st:St} {K:St → Prop} {cx:Cx} {Q:Exit → Act → World → Prop}
structure FFacts (P:Program) (l:List Oper) (inf:List DI) (st:St) (sts:Nat → St) (gs:Nat → G):Prop where
 zero:sts 0 = st
 dstn:∀ (j:Nat) (o:Oper) (d:Tmp),l[j]? = some o → o.dst = some d → d < st.n
 step:∀ i o,l[i]? = some o → StepF P l.toArray (dinf inf i) o (gs i) (sts i) (sts (i + 1))
 edges:∀ j o,l[j]? = some o → ∀ e ∈ o.after,Region.binds .any e = true → e.on < j
 uniq:∀ i j d,dsts l i = some d → dsts l j = some d → i = j
 look:∀ i j o d,l[j]? = some o → dsts l i = some d → d ∈ looks l o → (i < j ∧ edge o i = true) ∨ (j < i ∧ Reach l j i)
 pair:∃ sp:Option (Nat × Nat),(∀ q,sp = some q → okA (dinf inf q.1) (dinf inf q.2) = true ∧ q.1 < q.2) ∧ ∀ i j,i < j → j < l.length → Reach l i j ∨ okS (dinf inf i) (dinf inf j) = true ∨ sp = some (i,j)

theorem drawOk4_facts {sts:Nat → St} {gs:Nat → G} (h:drawOk4 l inf st.n = true) (h0:sts 0 = st) (hs:∀ i o,l[i]? = some o → StepF P l.toArray (dinf inf i) o (gs i) (sts i) (sts (i + 1))):FFacts P l inf st sts gs:=by
 simp only [drawOk4,Bool.and_eq_true] at h
 obtain ⟨h,hpair⟩:=h
 have hj:∀ j o,l[j]? = some o → j < l.length:=fun j o ho => (List.getElem?_eq_some_iff.1 ho).1
 have key:=fun j o (ho:l[j]? = some o) => by
  have:=List.all_eq_true.1 h j (List.mem_range.2 (hj j o ho))
  rw [ho] at this
  simp only [Bool.and_eq_true] at this
  exact this
 have hlt:∀ q ∈ drawPairs l,q.1 < q.2:=by
  intro q hq
  unfold drawPairs at hq
  obtain ⟨j,_,hq⟩:=List.mem_flatMap.1 hq
  split at hq
  ·cases hq
  ·rename_i o _
   cases hf:isFree o with
   | true => rw [hf] at hq; cases hq
   | false =>
    rw [hf] at hq
    obtain ⟨i,hi,hq⟩:=List.mem_filterMap.1 hq
    split at hq
    ·cases hq
    ·rename_i oi _
     cases hb:(isFree oi || reaches (reachGo l []) i j) with
     | true => rw [hb] at hq; cases hq
     | false => rw [hb] at hq; cases hq; exact List.mem_range.1 hi
 refine ⟨h0,fun j o d ho hd => ?_,hs,fun j o ho e he hb => ?_,fun i j d hi hj' => ?_,fun i j o d ho hi hl => ?_,?_⟩
 ·have:=(key j o ho).1.1
  rw [hd] at this
  exact Nat.le_of_ble_eq_true this
 ·have:=List.all_eq_true.1 (key j o ho).1.2 e (by simpa using he)
  rw [hb] at this
  simp only [Bool.not_true,Bool.false_or] at this
  exact Nat.le_of_ble_eq_true this
 ·cases hoj:l[j]? with
  | none => simp [dsts,hoj] at hj'
  | some oj =>
   cases hoi:l[i]? with
   | none => simp [dsts,hoi] at hi
   | some oi =>
    have:=List.all_eq_true.1 (key j oj hoj).2 i (List.mem_range.2 (hj i oi hoi))
    have hi':(l[i]?).bind (·.dst) = some d:=hi
    have hj'':oj.dst = some d:=by simpa [dsts,hoj] using hj'
    rw [hi'] at this
    simp only [Bool.and_eq_true,Bool.or_eq_true,bne_iff_ne] at this
    rcases this.1 with h1 | h1
    ·exact Nat.eq_of_beq_eq_true h1
    ·exact absurd hj'' h1
 ·cases hoi:l[i]? with
  | none => simp [dsts,hoi] at hi
  | some oi =>
   have:=List.all_eq_true.1 (key j o ho).2 i (List.mem_range.2 (hj i oi hoi))
   have hi':(l[i]?).bind (·.dst) = some d:=hi
   rw [hi'] at this
   simp only [Bool.and_eq_true,Bool.or_eq_true,Bool.not_eq_true'] at this
   rcases this.2 with h1 | h1
   ·rw [any_beq hl] at h1; cases h1
   ·rcases h1 with h1 | h1
    ·exact .inl ⟨Nat.le_of_ble_eq_true h1.1,h1.2⟩
    ·exact .inr ⟨Nat.le_of_ble_eq_true h1.1,reaches_ok h1.2⟩
 ·have strict:∀ i j,i < j → j < l.length → Reach l i j ∨ okS (dinf inf i) (dinf inf j) = true ∨ (i,j) ∈ (drawPairs l).filter fun q => !okS (dinf inf q.1) (dinf inf q.2):=by
   intro i j hij hjl
   have hoj:l[j]? = some (l[j]'hjl):=List.getElem?_eq_getElem hjl
   have hoi:l[i]? = some (l[i]'(by omega)):=List.getElem?_eq_getElem (by omega)
   have hfree:∀ k o,l[k]? = some o → isFree o = true → ∃ ck,dinf inf k = .rd [] ck:=fun k o ho hf => (hs k o ho).1 hf
   have hzero:∀ (ck:Sto → Bool) (q:DI),okS (.rd [] ck) q = true ∧ okS q (.rd [] ck) = true:=fun ck q => by
    have hm:∀ a:List Nat,meets a [] = false:=fun a => by simp [meets]
    cases q <;> exact ⟨by simp [okS,hm],by simp [okS,hm]⟩
   cases hfj:isFree (l[j]'hjl) with
   | true =>
    obtain ⟨ck,hck⟩:=hfree j _ hoj hfj
    right; left; rw [hck]; exact (hzero ck _).2
   | false =>
    cases hfi:isFree (l[i]'(by omega)) with
    | true =>
     obtain ⟨ck,hck⟩:=hfree i _ hoi hfi
     right; left; rw [hck]; exact (hzero ck _).1
    | false =>
     cases hr:reaches (reachGo l []) i j with
     | true => exact .inl (reaches_ok hr)
     | false =>
      right
      have hm:(i,j) ∈ drawPairs l:=by
       unfold drawPairs
       rw [List.mem_flatMap]
       refine ⟨j,List.mem_range.2 hjl,?_⟩
       rw [hoj]
       simp only [hfj,cond_false]
       rw [List.mem_filterMap]
       refine ⟨i,List.mem_range.2 hij,?_⟩
       rw [hoi]
       simp [hfi,hr]
      cases hok:okS (dinf inf i) (dinf inf j) with
      | true => exact .inl rfl
      | false => exact .inr (List.mem_filter.2 ⟨hm,by simp [hok]⟩)
  split at hpair
  ·rename_i hnil
   refine ⟨none,fun q hq => (by cases hq),fun i j hij hjl => ?_⟩
   rcases strict i j hij hjl with h1 | h1 | h1
   ·exact .inl h1
   ·exact .inr (.inl h1)
   ·rw [hnil] at h1; cases h1
  ·rename_i q hone
   refine ⟨some q,fun q' hq => ?_,fun i j hij hjl => ?_⟩
   ·cases hq
    have:q ∈ (drawPairs l).filter fun q => !okS (dinf inf q.1) (dinf inf q.2):=by rw [hone]; simp
    exact ⟨hpair,hlt q (List.mem_filter.1 this).1⟩
   ·rcases strict i j hij hjl with h1 | h1 | h1
    ·exact .inl h1
    ·exact .inr (.inl h1)
    ·rw [hone] at h1
     obtain rfl:=List.mem_singleton.1 h1
     exact .inr (.inr rfl)
  ·cases hpair

variable {sts:Nat → St} {gs:Nat → G}
theorem FFacts.ngl (F:FFacts P l inf st sts gs):∀ i,i ≤ l.length → (sts i).n = st.n ∧ (sts i).gl = st.gl ∧ (sts i).pr = st.pr
 | 0,_ => by rw [F.zero]; exact ⟨rfl,rfl,rfl⟩
 | i + 1,hi => by
  obtain ⟨a,b,b'⟩:=F.ngl i (by omega)
  obtain ⟨c,⟨d,d'⟩,_⟩:=(F.step i _ (List.getElem?_eq_getElem (by omega))).like
  exact ⟨c.trans a,d.trans b,d'.trans b'⟩
theorem FFacts.fr1 (F:FFacts P l inf st sts gs) {j:Nat} {t:Tmp} (hd:dsts l j = some t):∀ i,j < i → i ≤ l.length → fget (sts i).fr t = gs j
 | 0,h,_ => by omega
 | i + 1,h,hi => by
  have ho:l[i]? = some (l[i]'(by omega)):=List.getElem?_eq_getElem (by omega)
  obtain ⟨_,_,c,_⟩:=(F.step i _ ho).like
  rw [c t]
  by_cases e:j = i
  ·subst e
   have:(l[j]'(by omega)).dst = some t:=by simpa [dsts,ho] using hd
   rw [if_pos this]
  ·have:(l[i]'(by omega)).dst ≠ some t:=fun x => e (F.uniq j i t hd (by simp [dsts,ho,x]))
   rw [if_neg this]
   exact F.fr1 hd i (by omega) (by omega)
theorem FFacts.fr2 (F:FFacts P l inf st sts gs) {t:Tmp}:∀ i,i ≤ l.length → (∀ j,j < i → dsts l j ≠ some t) → fget (sts i).fr t = fget st.fr t
 | 0,_,_ => by rw [F.zero]
 | i + 1,hi,h => by
  have ho:l[i]? = some (l[i]'(by omega)):=List.getElem?_eq_getElem (by omega)
  obtain ⟨_,_,c,_⟩:=(F.step i _ ho).like
  rw [c t,if_neg (fun x => h i (by omega) (by simp [dsts,ho,x]))]
  exact F.fr2 i (by omega) (fun j hj => h j (by omega))
theorem FFacts.stc (F:FFacts P l inf st sts gs) {a:Nat}:∀ b,a ≤ b → b ≤ l.length → (∀ k,a ≤ k → k < b → (dinf inf k).cu = false) → (sts b).c = (sts a).c
 | 0,h,_,_ => by
           obtain rfl:a = 0:=by omega
           rfl
 | b + 1,h,hl,hb => by
  by_cases e:a = b + 1
  ·subst e; rfl
  ·have ho:l[b]? = some (l[b]'(by omega)):=List.getElem?_eq_getElem (by omega)
   obtain ⟨_,_,_,d,_⟩:=(F.step b _ ho).like
   exact (d (hb b (by omega) (by omega))).trans (F.stc b (by omega) (by omega) (fun k h1 h2 => hb k h1 (by omega)))
theorem FFacts.sto (F:FFacts P l inf st sts gs) {a x:Nat}:∀ b,a ≤ b → b ≤ l.length → (∀ k,a ≤ k → k < b → x ∉ (dinf inf k).keys) → sget (sts b).σ x = sget (sts a).σ x
 | 0,h,_,_ => by
           obtain rfl:a = 0:=by omega
           rfl
 | b + 1,h,hl,hb => by
  by_cases e:a = b + 1
  ·subst e; rfl
  ·have ho:l[b]? = some (l[b]'(by omega)):=List.getElem?_eq_getElem (by omega)
   obtain ⟨_,_,_,_,d⟩:=(F.step b _ ho).like
   exact (d x (hb b (by omega) (by omega))).trans (F.sto b (by omega) (by omega) (fun k h1 h2 => hb k h1 (by omega)))

structure FInv (P:Program) (l:List Oper) (inf:List DI) (st:St) (sts:Nat → St) (gs:Nat → G) (cx:Cx) (L:Array Bool) (a:Act) (w:World) (st':St):Prop where
 size:L.size = l.length
 closed:∀ j o,L.getD j false = true → l[j]? = some o → ∀ e ∈ o.after,Region.binds .any e = true → L.getD e.on false = true
 rel:Rel P cx st' a w
 n:st'.n = st.n
 gl:st'.gl = st.gl
 σ:∀ x m,m ≤ l.length → (∀ i,i < l.length → x ∈ (dinf inf i).keys → (L.getD i false = true ↔ i < m)) → sget st'.σ x = sget (sts m).σ x
 c:∀ m,m ≤ l.length → (∀ i,i < l.length → (dinf inf i).cu = true → (L.getD i false = true ↔ i < m)) → st'.c = (sts m).c
 p:st'.pr = st.pr
 f1:∀ j t,L.getD j false = true → dsts l j = some t → fget st'.fr t = gs j
 f2:∀ t,(∀ j,L.getD j false = true → dsts l j ≠ some t) → fget st'.fr t = fget st.fr t

theorem FInv.same (F:FFacts P l inf st sts gs) {L:Array Bool} {a:Act} {w:World} {st':St} (I:FInv P l inf st sts gs cx L a w st') {j:Nat} {o:Oper} (ho:l[j]? = some o) (hr:∀ e ∈ o.after,Region.binds .any e = true → L.getD e.on false = true) (hL:L.getD j false = false) {t:Tmp} (ht:t ∈ looks l o):fget st'.fr t = fget (sts j).fr t:=by
 have hjl:=(List.getElem?_eq_some_iff.1 ho).1
 by_cases hx:∃ i,dsts l i = some t
 ·obtain ⟨i,hi⟩:=hx
  rcases F.look i j o t ho hi ht with ⟨h1,h2⟩ | ⟨h1,h2⟩
  ·obtain ⟨e,he,hbe,hon⟩:=edge_spec h2
   have hL:L.getD i false = true:=by rw [← hon]; exact hr e he hbe
   rw [I.f1 i t hL hi,F.fr1 hi j h1 (by omega)]
  ·have hiu:L.getD i false = false:=by
    cases hd:L.getD i false with
    | false => rfl
    | true => have:=reach_done I.closed h2 (.inl hd); rw [hL] at this; cases this
   rw [I.f2 t (fun k hk h => by
    have:=F.uniq k i t h hi
    subst this
    rw [hiu] at hk; cases hk),F.fr2 j (by omega) (fun k hk h => by
    have:=F.uniq k i t h hi
    omega)]
 ·rw [I.f2 t (fun i _ h => hx ⟨i,h⟩),F.fr2 j (by omega) (fun i _ h => hx ⟨i,h⟩)]
theorem okS_ww {R R':List Nat} {U O U' O':Sto} {cu cu':Bool} (h:okS (.wr R U O cu) (.wr R' U' O' cu') = true):(∀ x,x ∈ U.map (·.1) → x ∉ R' ∧ x ∉ U'.map (·.1)) ∧ (∀ x,x ∈ U'.map (·.1) → x ∉ R) ∧ ¬ (cu = true ∧ cu' = true):=by
 simp only [okS,Bool.and_eq_true,Bool.not_eq_true'] at h
 obtain ⟨⟨⟨h1,h2⟩,h3⟩,h4⟩:=h
 exact ⟨fun x hx => ⟨meets_no h1 hx,meets_no h2 hx⟩,fun x hx => meets_no h3 hx,fun ⟨a,b⟩ => by rw [a,b] at h4; cases h4⟩
theorem okS_symm (a b:DI):okS a b = okS b a:=by
 have hm:∀ x y:List Nat,meets x y = meets y x:=fun x y => by
  rw [Bool.eq_iff_iff]
  constructor <;> intro h
  ·obtain ⟨u,hu,h⟩:=List.any_eq_true.1 h
   obtain ⟨v,hv,h⟩:=List.any_eq_true.1 h
   have:=Nat.eq_of_beq_eq_true h
   subst this
   exact List.any_eq_true.2 ⟨u,hv,List.any_eq_true.2 ⟨u,hu,Nat.beq_refl u⟩⟩
  ·obtain ⟨u,hu,h⟩:=List.any_eq_true.1 h
   obtain ⟨v,hv,h⟩:=List.any_eq_true.1 h
   have:=Nat.eq_of_beq_eq_true h
   subst this
   exact List.any_eq_true.2 ⟨u,hv,List.any_eq_true.2 ⟨u,hu,Nat.beq_refl u⟩⟩
 cases a <;> cases b <;> simp only [okS]
 rename_i R U O cu R' U' O' cu'
 rw [hm (U'.map (·.1)) (U.map (·.1)),Bool.and_comm cu' cu]
 cases meets (U.map (·.1)) R' <;> cases meets (U.map (·.1)) (U'.map (·.1)) <;> cases meets (U'.map (·.1)) R <;> rfl

theorem FInv.order (F:FFacts P l inf st sts gs) {L:Array Bool} {a:Act} {w:World} {st':St} (I:FInv P l inf st sts gs cx L a w st') {j:Nat} {o:Oper} (ho:l[j]? = some o) (hr:∀ e ∈ o.after,Region.binds .any e = true → L.getD e.on false = true) (hL:L.getD j false = false) {i:Nat} (hil:i < l.length) (hne:i ≠ j) (hno:okS (dinf inf i) (dinf inf j) = false) (hsp:∀ sp,F.pair.choose = some sp → sp ≠ (i,j) ∧ sp ≠ (j,i)):(L.getD i false = true ↔ i < j):=by
 have hjl:=(List.getElem?_eq_some_iff.1 ho).1
 obtain ⟨h1,h2⟩:=F.pair.choose_spec
 rcases Nat.lt_or_gt_of_ne hne with h | h
 ·have:L.getD i false = true:=by
   rcases h2 i j h hjl with h3 | h3 | h3
   ·exact reach_done I.closed h3 (.inr ⟨o,ho,hr⟩)
   ·rw [hno] at h3; cases h3
   ·exact absurd rfl (hsp _ h3).1
  simp [this,h]
 ·have:L.getD i false = false:=by
   rcases h2 j i h hil with h3 | h3 | h3
   ·cases hd:L.getD i false with
    | false => rfl
    | true => have:=reach_done I.closed h3 (.inl hd); rw [hL] at this; cases this
   ·rw [okS_symm,hno] at h3; cases h3
   ·exact absurd rfl (hsp _ h3).2
  rw [this]
  simp; omega
theorem keys_wr {d:DI} {x:Nat} (h:x ∈ d.keys):∃ R U O cu,d = .wr R U O cu ∧ x ∈ U.map (·.1):=by
 cases d with
 | rd R ck => cases h
 | wr R U O cu => exact ⟨R,U,O,cu,rfl,h⟩
theorem sp_wr {d d':DI} (h:okA d d' = true):(∃ R ck R' U' O' cu',d = .rd R ck ∧ d' = .wr R' U' O' cu' ∧ ck U' = true) ∨ (∃ R U O cu R' ck',d = .wr R U O cu ∧ d' = .rd R' ck' ∧ ck' O = true):=by
 cases d <;> cases d' <;> simp only [okA] at h
 ·cases h
 ·exact .inl ⟨_,_,_,_,_,_,rfl,rfl,h⟩
 ·exact .inr ⟨_,_,_,_,_,_,rfl,rfl,h⟩
 ·cases h
theorem FInv.stoW (F:FFacts P l inf st sts gs) {L:Array Bool} {a:Act} {w:World} {st':St} (I:FInv P l inf st sts gs cx L a w st') {j:Nat} {o:Oper} (ho:l[j]? = some o) (hr:∀ e ∈ o.after,Region.binds .any e = true → L.getD e.on false = true) (hL:L.getD j false = false) {R:List Nat} {U O:Sto} {cu:Bool} (hj:dinf inf j = .wr R U O cu) :
  (∀ x ∈ R,sget st'.σ x = sget (sts j).σ x) ∧ (cu = true → st'.c = (sts j).c):=by
 have hjl:=(List.getElem?_eq_some_iff.1 ho).1
 obtain ⟨h1,h2⟩:=F.pair.choose_spec
 have hsp:∀ i R' U' O' cu',dinf inf i = .wr R' U' O' cu' → ∀ sp,F.pair.choose = some sp → sp ≠ (i,j) ∧ sp ≠ (j,i):=by
  intro i R' U' O' cu' hi sp hs
  have:=(h1 sp hs).1
  constructor
  ·rintro rfl; rw [hi,hj] at this; cases this
  ·rintro rfl; rw [hi,hj] at this; cases this
 refine ⟨fun x hx => I.σ x j (by omega) fun i hil hk => ?_,fun hcu => I.c j (by omega) fun i hil hc => ?_⟩
 ·by_cases e:i = j
  ·subst e; rw [hL]; simp
  ·obtain ⟨R',U',O',cu',hi,hxk⟩:=keys_wr hk
   refine I.order F ho hr hL hil e ?_ (hsp i _ _ _ _ hi)
   cases hok:okS (dinf inf i) (dinf inf j) with
   | false => rfl
   | true => rw [hi,hj] at hok; exact absurd hx ((okS_ww hok).1 x hxk).1
 ·by_cases e:i = j
  ·subst e; rw [hL]; simp
  ·obtain ⟨R',U',O',cu',hi⟩:∃ R' U' O' cu',dinf inf i = .wr R' U' O' cu':=by
    cases hd:dinf inf i with
    | rd _ _ => rw [hd] at hc; cases hc
    | wr R' U' O' cu' => exact ⟨_,_,_,_,rfl⟩
   refine I.order F ho hr hL hil e ?_ (hsp i _ _ _ _ hi)
   cases hok:okS (dinf inf i) (dinf inf j) with
   | false => rfl
   | true =>
    rw [hi,hj] at hok
    rw [hi] at hc
    exact absurd ⟨hc,hcu⟩ (okS_ww hok).2.2
theorem FInv.stoR (F:FFacts P l inf st sts gs) {L:Array Bool} {a:Act} {w:World} {st':St} (I:FInv P l inf st sts gs cx L a w st') {j:Nat} {o:Oper} (ho:l[j]? = some o) (hr:∀ e ∈ o.after,Region.binds .any e = true → L.getD e.on false = true) (hL:L.getD j false = false) {R:List Nat} {ck:Sto → Bool} (hj:dinf inf j = .rd R ck) :
  ∃ V:Sto,(V = [] ∨ ck V = true) ∧ ∀ x ∈ R,sget st'.σ x = sget (V ++ (sts j).σ) x:=by
 have hjl:=(List.getElem?_eq_some_iff.1 ho).1
 obtain ⟨h1,h2⟩:=F.pair.choose_spec
 -- writers but for the one that does not matter
 have ord:∀ x ∈ R,∀ i,i < l.length → x ∈ (dinf inf i).keys → (∀ sp,F.pair.choose = some sp → sp ≠ (i,j) ∧ sp ≠ (j,i)) → (L.getD i false = true ↔ i < j):=by
  intro x hx i hil hk hsp
  obtain ⟨R',U',O',cu',hi,hxk⟩:=keys_wr hk
  by_cases e:i = j
  ·subst e; rw [hj] at hi; cases hi
  ·refine I.order F ho hr hL hil e ?_ hsp
   cases hok:okS (dinf inf i) (dinf inf j) with
   | false => rfl
   | true =>
    rw [hi,hj] at hok
    simp only [okS,Bool.not_eq_true'] at hok
    exact absurd hx (meets_no hok hxk)
 have plain:(∀ x ∈ R,∀ i,i < l.length → x ∈ (dinf inf i).keys → (L.getD i false = true ↔ i < j)) → ∃ V:Sto,(V = [] ∨ ck V = true) ∧ ∀ x ∈ R,sget st'.σ x = sget (V ++ (sts j).σ) x :=
  fun h => ⟨[],.inl rfl,fun x hx => I.σ x j (by omega) fun i hil hk => h x hx i hil hk⟩
 cases hsp:F.pair.choose with
 | none => exact plain fun x hx i hil hk => ord x hx i hil hk fun sp hs => by rw [hsp] at hs; cases hs
 | some sp =>
  obtain ⟨u,v⟩:=sp
  obtain ⟨hA,huv⟩:=h1 (u,v) hsp
  have huv':u < v:=huv
  by_cases hv:v = j
  ·-- a writer ahead of it in the text
   subst hv
   rcases sp_wr hA with ⟨_,_,_,_,_,_,_,h4,_⟩ | ⟨R0,U0,O0,cu0,R',ck',h3,h4,h5⟩
   ·rw [hj] at h4; cases h4
   rw [hj] at h4
   cases h4
   have h3':dinf inf u = .wr R0 U0 O0 cu0:=h3
   have hul:u < l.length:=by omega
   have others:∀ x ∈ R,∀ i,i < l.length → x ∈ (dinf inf i).keys → i ≠ u → (L.getD i false = true ↔ i < v):=fun x hx i hil hk hne => ord x hx i hil hk fun sp hs => by
    rw [hsp] at hs; cases hs
    exact ⟨fun e => hne (by cases e; rfl),fun e => by cases e; omega⟩
   by_cases hLu:L.getD u false = true
   ·exact plain fun x hx i hil hk => by
     by_cases e:i = u
     ·subst e; simp [hLu,huv']
     ·exact others x hx i hil hk e
   ·have hLu':L.getD u false = false:=by simpa using hLu
    obtain ⟨_,hst⟩:=F.step u _ (List.getElem?_eq_getElem hul)
    have hO:(∀ x,x ∈ U0.map (·.1) → sget O0 x = sget (sts u).σ x) ∧ O0.map (·.1) = U0.map (·.1):=by
     rcases hst with ⟨_,⟨R1,U1,O1,cu1,c1,e1,_,_,e2,e3,_⟩ | ⟨R1,ck1,e1,_⟩⟩ | ⟨_,_,_,ck1,e1⟩
     ·rw [h3'] at e1; cases e1; exact ⟨e2,e3⟩
     ·rw [h3'] at e1; cases e1
     ·rw [h3'] at e1; cases e1
    refine ⟨O0,.inr h5,fun x hx => ?_⟩
    by_cases hxu:x ∈ U0.map (·.1)
    ·rw [sget_append_in (by rw [hO.2]; exact hxu),hO.1 x hxu]
     refine I.σ x u (by omega) fun i hil hk => ?_
     by_cases e:i = u
     ·subst e; rw [hLu']; simp
     ·have hi:=others x hx i hil hk e
      obtain ⟨R2,U2,O2,cu2,hi2,hxk⟩:=keys_wr hk
      have hno:∀ a b,(a = i ∧ b = u) ∨ (a = u ∧ b = i) → okS (dinf inf a) (dinf inf b) = false:=by
       intro a b hab
       cases hok:okS (dinf inf a) (dinf inf b) with
       | false => rfl
       | true =>
        exfalso
        rcases hab with ⟨rfl,rfl⟩ | ⟨rfl,rfl⟩
        ·rw [hi2,h3'] at hok; exact ((okS_ww hok).1 x hxk).2 hxu
        ·rw [hi2,h3'] at hok; exact ((okS_ww hok).1 x hxu).2 hxk
      rcases Nat.lt_or_gt_of_ne e with hlt | hgt
      ·simp only [hi.2 (by omega),hlt]
      ·have hLi:L.getD i false = false:=by
        rcases h2 u i hgt hil with h6 | h6 | h6
        ·cases hd:L.getD i false with
         | false => rfl
         | true => have:=reach_done I.closed h6 (.inl hd); rw [hLu'] at this; cases this
        ·rw [hno u i (.inr ⟨rfl,rfl⟩)] at h6; cases h6
        ·rw [hsp] at h6
         cases h6
         rw [hj] at hi2; cases hi2
       rw [hLi]; simp; omega
    ·rw [sget_append_out (by rw [hO.2]; exact hxu)]
     exact I.σ x v (by omega) fun i hil hk => others x hx i hil hk fun e => by
      subst e
      rw [h3'] at hk
      exact hxu hk
  ·by_cases hu:u = j
   ·-- a writer behind it in the text
    subst hu
    rcases sp_wr hA with ⟨R',ck',R0,U0,O0,cu0,h3,h4,h5⟩ | ⟨_,_,_,_,_,_,h3,_⟩
    ·rw [hj] at h3
     cases h3
     have h4':dinf inf v = .wr R0 U0 O0 cu0:=h4
     by_cases hvl:v < l.length
     ·have others:∀ x ∈ R,∀ i,i < l.length → x ∈ (dinf inf i).keys → i ≠ v → (L.getD i false = true ↔ i < u):=fun x hx i hil hk hne => ord x hx i hil hk fun sp hs => by
       rw [hsp] at hs; cases hs
       exact ⟨fun e => by cases e; omega,fun e => hne (by cases e; rfl)⟩
      by_cases hLv:L.getD v false = true
      ·obtain ⟨_,hst⟩:=F.step v _ (List.getElem?_eq_getElem hvl)
       have hU:∀ x,x ∈ U0.map (·.1) → sget (sts (v + 1)).σ x = sget U0 x:=by
        have hp:∀ (s:St) (o:Oper) (g:G),(s.put o.dst g).σ = s.σ:=fun s o g => by cases o.dst <;> rfl
        rcases hst with ⟨_,⟨R1,U1,O1,cu1,c1,e1,e4,_,e2,e3,_⟩ | ⟨R1,ck1,e1,_⟩⟩ | ⟨_,_,_,ck1,e1⟩
        ·rw [h4'] at e1; cases e1
         intro x hx
         rw [e4,hp]
         exact sget_append_in hx
        ·rw [h4'] at e1; cases e1
        ·rw [h4'] at e1; cases e1
       refine ⟨U0,.inr h5,fun x hx => ?_⟩
       by_cases hxu:x ∈ U0.map (·.1)
       ·rw [sget_append_in hxu,← hU x hxu]
        refine I.σ x (v + 1) (by omega) fun i hil hk => ?_
        by_cases e:i = v
        ·subst e; simp [hLv]
        ·have hi:=others x hx i hil hk e
         obtain ⟨R2,U2,O2,cu2,hi2,hxk⟩:=keys_wr hk
         have hno:okS (dinf inf i) (dinf inf v) = false:=by
          cases hok:okS (dinf inf i) (dinf inf v) with
          | false => rfl
          | true => rw [hi2,h4'] at hok; exact absurd hxu ((okS_ww hok).1 x hxk).2
         rcases Nat.lt_or_gt_of_ne e with hlt | hgt
         ·have hLi:L.getD i false = true:=by
           rcases h2 i v hlt hvl with h6 | h6 | h6
           ·exact reach_done I.closed h6 (.inl hLv)
           ·rw [hno] at h6; cases h6
           ·rw [hsp] at h6; cases h6; rw [hj] at hi2; cases hi2
          rw [hLi]; simp; omega
         ·have:¬ i < u:=by omega
          have hLi:L.getD i false = false:=by
           cases hd:L.getD i false with
           | false => rfl
           | true => exact absurd (hi.1 hd) this
          rw [hLi]; simp; omega
       ·rw [sget_append_out hxu]
        exact I.σ x u (by omega) fun i hil hk => others x hx i hil hk fun e => by
         subst e
         rw [h4'] at hk
         exact hxu hk
      ·have hLv':L.getD v false = false:=by simpa using hLv
       exact plain fun x hx i hil hk => by
        by_cases e:i = v
        ·subst e; rw [hLv']; simp; omega
        ·exact others x hx i hil hk e
     ·exact plain fun x hx i hil hk => ord x hx i hil hk fun sp hs => by
       rw [hsp] at hs; cases hs
       exact ⟨fun e => by cases e; omega,fun e => by cases e; omega⟩
    ·rw [hj] at h3; cases h3
   ·exact plain fun x hx i hil hk => ord x hx i hil hk fun sp hs => by
     rw [hsp] at hs; cases hs
     exact ⟨fun e => hv (by cases e; rfl),fun e => hu (by cases e; rfl)⟩

theorem FInv.next (F:FFacts P l inf st sts gs) {L:Array Bool} {a a':Act} {w w':World} {st':St} (I:FInv P l inf st sts gs cx L a w st') {j:Nat} {o:Oper} (ho:l[j]? = some o) (hr:∀ e ∈ o.after,Region.binds .any e = true → L.getD e.on false = true) (hL:L.getD j false = false) {σ:Sto} {c:Nat}
  (hrel:Rel P cx ({ st' with σ:=σ,c:=c }.put o.dst (gs j)) a' w') (hσ1:∀ x,x ∉ (dinf inf j).keys → sget σ x = sget st'.σ x) (hσ2:∀ x,x ∈ (dinf inf j).keys → sget σ x = sget (sts (j + 1)).σ x) (hc1:(dinf inf j).cu = false → c = st'.c) (hc2:(dinf inf j).cu = true → c = (sts (j + 1)).c):∃ st2,FInv P l inf st sts gs cx (L.setIfInBounds j true) a' w' st2:=by
 have hjl:=(List.getElem?_eq_some_iff.1 ho).1
 have hjs:j < L.size:=by rw [I.size]; exact hjl
 obtain ⟨h1,h2⟩:=F.pair.choose_spec
 have hcl:∀ k ok,(L.setIfInBounds j true).getD k false = true → l[k]? = some ok → ∀ e ∈ ok.after,Region.binds .any e = true → (L.setIfInBounds j true).getD e.on false = true:=by
  intro k ok hk hok e he hbe
  rw [getD_set hjs]
  split
  ·rfl
  ·rw [getD_set hjs] at hk
   by_cases ek:j = k
   ·subst ek; rw [ho] at hok; cases hok; exact hr e he hbe
   ·rw [if_neg ek] at hk
    exact I.closed k ok hk hok e he hbe
 have hpf:∀ t,fget ({ st' with σ:=σ,c:=c }.put o.dst (gs j)).fr t = if o.dst = some t then gs j else fget st'.fr t:=fun t => by
  cases hd':o.dst with
  | none => simp [St.put]
  | some d =>
   show fget ((d,gs j) :: st'.fr) t = _
   rw [fget_cons]
   by_cases e:d = t <;> simp [e]
 have hps:({ st' with σ:=σ,c:=c }.put o.dst (gs j)).σ = σ ∧ ({ st' with σ:=σ,c:=c }.put o.dst (gs j)).c = c:=by cases o.dst <;> exact ⟨rfl,rfl⟩
 have set:∀ i,(L.setIfInBounds j true).getD i false = if j = i then true else L.getD i false:=fun i => getD_set hjs
 -- behind j no writer of the same is done
 have behind:∀ i,j < i → i < l.length → okS (dinf inf j) (dinf inf i) = false → (∀ sp,F.pair.choose = some sp → sp ≠ (j,i)) → L.getD i false = false:=by
  intro i hji hil hno hsp
  rcases h2 j i hji hil with h6 | h6 | h6
  ·cases hd:L.getD i false with
   | false => rfl
   | true => have:=reach_done I.closed h6 (.inl hd); rw [hL] at this; cases this
  ·rw [hno] at h6; cases h6
  ·exact absurd rfl (hsp _ h6)
 refine ⟨_,{ size:=by simp [I.size],closed:=hcl,rel:=hrel,n:=?_,gl:=?_,σ:=fun x m hm hcons => ?_,c:=fun m hm hcons => ?_,p:=?_,f1:=fun k t hk hd => ?_,f2:=fun t ht => ?_ }⟩
 ·rw [← I.n]; cases o.dst <;> rfl
 ·rw [← I.gl]; cases o.dst <;> rfl
 ·rw [hps.1]
  by_cases hx:x ∈ (dinf inf j).keys
  ·rw [hσ2 x hx]
   have hjm:j < m:=(hcons j hjl hx).1 (by rw [set,if_pos rfl])
   refine (F.sto (a:=j + 1) m hjm hm fun k hk1 hk2 hkx => ?_).symm
   have hLk:=(hcons k (by omega) hkx).2 hk2
   rw [set,if_neg (by omega)] at hLk
   obtain ⟨R1,U1,O1,cu1,e1,hx1⟩:=keys_wr hx
   obtain ⟨R2,U2,O2,cu2,e2,hx2⟩:=keys_wr hkx
   have:=behind k (by omega) (by omega) (by
    cases hok:okS (dinf inf j) (dinf inf k) with
    | false => rfl
    | true => rw [e1,e2] at hok; exact absurd hx2 ((okS_ww hok).1 x hx1).2) (fun sp hs e => by
    subst e
    have:=(h1 _ hs).1
    rw [e1,e2] at this; cases this)
   rw [this] at hLk; cases hLk
  ·rw [hσ1 x hx]
   refine I.σ x m hm fun i hil hk => ?_
   have:=hcons i hil hk
   rw [set,if_neg (fun e => by subst e; exact hx hk)] at this
   exact this
 ·rw [hps.2]
  cases hcu:(dinf inf j).cu with
  | true =>
   rw [hc2 hcu]
   have hjm:j < m:=(hcons j hjl hcu).1 (by rw [set,if_pos rfl])
   refine (F.stc (a:=j + 1) m hjm hm fun k hk1 hk2 => ?_).symm
   cases hkc:(dinf inf k).cu with
   | false => rfl
   | true =>
    exfalso
    have hLk:=(hcons k (by omega) hkc).2 hk2
    rw [set,if_neg (by omega)] at hLk
    obtain ⟨R1,U1,O1,cu1,e1⟩:∃ R' U' O' cu',dinf inf j = .wr R' U' O' cu':=by
     cases hd:dinf inf j with
     | rd _ _ => rw [hd] at hcu; cases hcu
     | wr R' U' O' cu' => exact ⟨_,_,_,_,rfl⟩
    obtain ⟨R2,U2,O2,cu2,e2⟩:∃ R' U' O' cu',dinf inf k = .wr R' U' O' cu':=by
     cases hd:dinf inf k with
     | rd _ _ => rw [hd] at hkc; cases hkc
     | wr R' U' O' cu' => exact ⟨_,_,_,_,rfl⟩
    have:=behind k (by omega) (by omega) (by
     cases hok:okS (dinf inf j) (dinf inf k) with
     | false => rfl
     | true =>
      rw [e1,e2] at hok
      rw [e1] at hcu; rw [e2] at hkc
      exact absurd ⟨hcu,hkc⟩ (okS_ww hok).2.2) (fun sp hs e => by
     subst e
     have:=(h1 _ hs).1
     rw [e1,e2] at this; cases this)
    rw [this] at hLk; cases hLk
  | false =>
   rw [hc1 hcu]
   refine I.c m hm fun i hil hk => ?_
   have:=hcons i hil hk
   rw [set,if_neg (fun e => by subst e; rw [hcu] at hk; cases hk)] at this
   exact this
 ·rw [← I.p]; cases o.dst <;> rfl
 ·rw [hpf]
  by_cases e:j = k
  ·subst e
   have:o.dst = some t:=by simpa [dsts,ho] using hd
   rw [if_pos this]
  ·rw [if_neg (fun x => e (F.uniq j k t (by simp [dsts,ho,x]) hd))]
   rw [getD_set hjs,if_neg e] at hk
   exact I.f1 k t hk hd
 ·rw [hpf,if_neg (fun x => ht j (by rw [getD_set hjs,if_pos rfl]) (by simp [dsts,ho,x]))]
  exact I.f2 t (fun k hk => ht k (by
   rw [getD_set hjs]
   split
   ·rfl
   ·exact hk))
theorem FInv.run (F:FFacts P l inf st sts gs) (hK:∀ a w,Rel P cx (sts l.length) a w → Q .normal a w):∀ (fuel:Nat) (L:Array Bool) (a:Act) (w:World) (st':St),L.toList.count false ≤ fuel → FInv P l inf st sts gs cx L a w st' → wpAnyIn cx.F cx.nn P .any l.toArray Q fuel L a w:=by
 have done:∀ (L:Array Bool) (a:Act) (w:World) (st':St),FInv P l inf st sts gs cx L a w st' → (∀ j,j < l.length → L.getD j false = true) → Q .normal a w:=by
  intro L a w st' I hall
  obtain ⟨hn,hg,hp⟩:=F.ngl l.length (Nat.le_refl _)
  have hpp:(sts l.length).pr = st'.pr:=hp.trans I.p.symm
  simp only [St.pr,Prod.mk.injEq] at hpp
  refine hK a w (Eqv.rel ⟨hn.trans I.n.symm,hg.trans I.gl.symm,fun t => ?_,fun x => (I.σ x l.length (Nat.le_refl _) fun i hil _ => by simp [hall i hil,hil]).symm,(I.c l.length (Nat.le_refl _) fun i hil _ => by simp [hall i hil,hil]).symm,hpp.1,hpp.2⟩ I.rel)
  by_cases hx:∃ i,dsts l i = some t
  ·obtain ⟨i,hi⟩:=hx
   have hil:i < l.length:=by
    rcases Nat.lt_or_ge i l.length with h | h
    ·exact h
    ·simp [dsts,List.getElem?_eq_none h] at hi
   rw [F.fr1 hi l.length hil (Nat.le_refl _),I.f1 i t (hall i hil) hi]
  ·rw [F.fr2 l.length (Nat.le_refl _) (fun i _ h => hx ⟨i,h⟩),I.f2 t (fun i _ h => hx ⟨i,h⟩)]
 have empty:∀ (L:Array Bool) (a:Act) (w:World) (st':St),FInv P l inf st sts gs cx L a w st' → Region.ready .any l.toArray L = [] → ∀ j,j < l.length → L.getD j false = true:=by
  intro L a w st' I hr j
  induction j using Nat.strongRecOn with
  | _ j ih =>
   intro hj
   cases h:L.getD j false with
   | true => rfl
   | false =>
    have:j ∈ Region.ready .any l.toArray L:=by
     rw [mem_ready]
     have ho:l[j]? = some (l[j]'hj):=List.getElem?_eq_getElem hj
     refine ⟨?_,l[j]'hj,by simp,fun e he hbe => ?_⟩
     ·have hs:j < L.size:=by rw [I.size]; exact hj
      simp [hs] at h ⊢; exact h
     ·have:=F.edges j _ ho e he hbe
      exact ih e.on this (by omega)
    rw [hr] at this
    cases this
 intro fuel
 induction fuel with
 | zero =>
  intro L a w st' hc I
  have hall:∀ j,j < l.length → L.getD j false = true:=by
   intro j hj
   have hs:j < L.size:=by rw [I.size]; exact hj
   have h0:L.toList.count false = 0:=by omega
   rw [List.count_eq_zero] at h0
   cases h:L.getD j false with
   | true => rfl
   | false =>
    simp [hs] at h
    exact absurd (by rw [← h]; simp:false ∈ L.toList) h0
  refine ⟨?_,done L a w st' I hall⟩
  cases hr:Region.ready .any l.toArray L with
  | nil => rfl
  | cons x xs =>
   have hx:x ∈ Region.ready .any l.toArray L:=by rw [hr]; simp
   obtain ⟨h1,o,ho,_⟩:=mem_ready.1 hx
   have hxl:x < l.length:=by have:=(Array.getElem?_eq_some_iff.1 ho).1; simpa using this
   have hs:x < L.size:=by rw [I.size]; exact hxl
   have:=hall x hxl
   simp [hs] at h1 this
   rw [h1] at this; cases this
 | succ fuel ih =>
  intro L a w st' hc I
  refine ⟨fun hr => done L a w st' I (empty L a w st' I hr),fun j hj => ?_⟩
  obtain ⟨h1,o,ho',hr⟩:=mem_ready.1 hj
  have ho:l[j]? = some o:=by simpa using ho'
  have hjl:=(List.getElem?_eq_some_iff.1 ho).1
  have hs:j < L.size:=by rw [I.size]; exact hjl
  have hL:L.getD j false = false:=by simp [hs] at h1 ⊢; exact h1
  have hcnt:(L.setIfInBounds j true).toList.count false ≤ fuel:=by
   have:=count_set L.toList j (by simp [hs] at h1; simp [hs,h1])
   rw [Array.toList_setIfInBounds]
   omega
  have next:∀ (σ:Sto) (c:Nat) a' w',Rel P cx ({ st' with σ:=σ,c:=c }.put o.dst (gs j)) a' w' → (∀ x,x ∉ (dinf inf j).keys → sget σ x = sget st'.σ x) → (∀ x,x ∈ (dinf inf j).keys → sget σ x = sget (sts (j + 1)).σ x) → ((dinf inf j).cu = false → c = st'.c) → ((dinf inf j).cu = true → c = (sts (j + 1)).c) → wpAnyIn cx.F cx.nn P .any l.toArray Q fuel (L.setIfInBounds j true) a' w':=by
   intro σ c a' w' h h2 h3 h4 h5
   obtain ⟨st2,I2⟩:=I.next F ho hr hL h h2 h3 h4 h5
   exact ih _ a' w' st2 hcnt I2
  obtain ⟨hn,hg,hp⟩:=F.ngl j (by omega)
  have hlook:=fun t (ht:t ∈ looks l o) => I.same F ho hr hL ht
  have hgev:∀ x ∈ o.op.operands,gev st' x = gev (sts j) x:=fun x hx => gev_same (I.gl.trans hg.symm) (fun t e => hlook t (by
   subst e
   exact List.mem_append_left _ (List.mem_filterMap.2 ⟨.tmp t,by simpa using hx,rfl⟩)))
  have hgw:gwant st' l.toArray o = gwant (sts j) l.toArray o:=by
   unfold gwant
   cases hgd:o.guard with
   | none => rfl
   | some gw =>
    obtain ⟨g,want⟩:=gw
    simp only
    cases hd:(l.toArray[g]?).bind (·.dst) with
    | none => rfl
    | some d =>
     simp only
     rw [hlook d (List.mem_append_right _ (by
      rw [hgd]
      have:(l[g]?).bind (·.dst) = some d:=by simpa using hd
      simp [this]))]
  obtain ⟨β,rb⟩:=I.rel
  unfold wpOpIn
  simp only [ho']
  have hstep:=F.step j o ho
  have hput:∀ (s:St) (g:G),(s.put o.dst g).σ = s.σ ∧ (s.put o.dst g).c = s.c:=fun s g => by cases o.dst <;> exact ⟨rfl,rfl⟩
  rcases hstep with ⟨_,⟨hw,⟨R,U,O,cu,c,hinf,hst,hcc,_,_,hB⟩ | ⟨R,ck,hinf,hst,hR⟩⟩ | ⟨hw,hge,hst,ck,hinf⟩⟩
  ·rw [← hgw] at hw
   rw [if_pos (gwant_spec rb hw)]
   obtain ⟨s1,s2⟩:=I.stoW F ho hr hL hinf
   have hk:(dinf inf j).keys = U.map (·.1):=by rw [hinf]; rfl
   have hcu:(dinf inf j).cu = cu:=by rw [hinf]; rfl
   refine hB st' (I.n.trans hn.symm) (I.gl.trans hg.symm) (I.p.trans hp.symm) s2 s1 hgev cx a w _ Q ⟨β,rb⟩ fun a' w' r' => next _ _ a' w' r' (fun x hx => ?_) (fun x hx => ?_) (fun hx => ?_) (fun hx => ?_)
   ·exact sget_append_out (by rw [← hk]; exact hx)
   ·rw [hst,(hput _ _).1,sget_append_in (by rw [← hk]; exact hx),sget_append_in (by rw [← hk]; exact hx)]
   ·rw [hcu] at hx; rw [hx]; rfl
   ·rw [hcu] at hx; rw [hx,hst,(hput _ _).2]; rfl
  ·rw [← hgw] at hw
   rw [if_pos (gwant_spec rb hw)]
   have hk:(dinf inf j).keys = []:=by rw [hinf]; rfl
   obtain ⟨V,hV,hs⟩:=I.stoR F ho hr hL hinf
   exact hR V hV st' (I.n.trans hn.symm) (I.gl.trans hg.symm) hs hgev cx a w _ Q ⟨β,rb⟩ fun a' w' r' => next st'.σ st'.c a' w' r' (fun _ _ => rfl) (fun x hx => by rw [hk] at hx; cases hx) (fun _ => rfl) (fun hx => by rw [hinf] at hx; cases hx)
  ·rw [← hgw] at hw
   rw [if_neg (by rw [gwant_spec rb hw]; simp)]
   refine ⟨fun f _ => rb.loose.fn f,?_⟩
   have hd:∀ d,o.dst = some d → d < st'.n:=fun d h => by rw [I.n]; exact F.dstn j o d ho h
   have hk:(dinf inf j).keys = []:=by rw [hinf]; rfl
   have hrel:Rel P cx (st'.put o.dst (gs j)) (a.put o.dst undef) w:=⟨β,by rw [hge]; exact rb.put o.dst hd (.imm _ _ (.lit _))⟩
   exact next st'.σ st'.c _ w hrel (fun _ _ => rfl) (fun x hx => by rw [hk] at hx; cases hx) (fun _ => rfl) (fun hx => by rw [hinf] at hx; cases hx)

theorem tr_region_draw4 {id:Nat} {Q:Exit → St → Prop} (hm:P.follows .mixedOrders = true) (hok:drawOk4 l inf st.n = true) (h:RunF P l.toArray (Q .normal) l inf st):Tr P (.region id l.toArray true) st Q:=fun cx a w R ⟨β,r⟩ k => by
 obtain ⟨sts,gs,h0,hK,hs⟩:=runF_states l inf st h
 have F:=drawOk4_facts hok h0 hs
 refine wpIn_region_any hm ?_
 have hr:RelB P cx st a { w with drawn:=w.drawn + 1 } β:=r.world ⟨rfl,rfl,rfl,Nat.le_refl _,fun _ _ _ => rfl,Nat.le_succ _⟩
 have hno:∀ i,(Array.replicate l.toArray.size false).getD i false = false:=fun i => by
  rw [Array.getD_eq_getD_getElem?]
  cases hx:(Array.replicate l.toArray.size false)[i]? with
  | none => rfl
  | some b => rw [Array.getElem?_replicate] at hx; split at hx <;> cases hx; rfl
 have I:FInv P l inf st sts gs cx (Array.replicate l.toArray.size false) a { w with drawn:=w.drawn + 1 } st:={
  size:=by simp
  closed:=fun j o hj => by rw [hno] at hj; cases hj
  rel:=⟨β,hr⟩
  n:=rfl
  gl:=rfl
  σ:=fun x m hm hc => by
   rw [← h0]
   refine (F.sto (a:=0) m (Nat.zero_le _) hm fun k _ hk hx => ?_).symm
   have:=(hc k (by omega) hx).2 hk
   rw [hno] at this; cases this
  c:=fun m hm hc => by
   rw [← h0]
   refine (F.stc (a:=0) m (Nat.zero_le _) hm fun k _ hk => ?_).symm
   cases hx:(dinf inf k).cu with
   | false => rfl
   | true =>
    have:=(hc k (by omega) hx).2 hk
    rw [hno] at this; cases this
  p:=rfl
  f1:=fun j t hj => by rw [hno] at hj; cases hj
  f2:=fun _ _ => rfl }
 exact I.run F (fun a' w' r' => k _ _ a' w' hK r') _ _ _ _ _ (by simp)
end draw
end
end
end Go.Proofs.YtpehhhbmobmedaaGreatDoor
