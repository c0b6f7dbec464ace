/- Texts. -/
import Derived.IntWalk
import Derived.Laws.IdiomStrings
import Derived.Lib.AppendStr
import Derived.MapKept
import Derived.Test.YtjbfcillbjiajaaGreatDoorLib
namespace Go.Proofs.YtjbfcillbjiajaaGreatDoor
set_option linter.unusedSectionVars false
set_option linter.unusedVariables false
set_option linter.unusedSimpArgs false
open Go.RowKit Go.Lib
variable {cx:Cx}{st st':St}{a:Act}{w:World}{β:Bm}{clock i j m n r s:Nat}{v vk vm:Value}{cap fst gs l l' m' news:Bk}{e kt t t' ty u:Bj}{d:Option Tmp}{o:Oper}{x y:DC}{g gk gm:G}{gl:CC}{f fid:FuncId}{xs:Array DC}{ats:Array Bj}{ρ:DH}{es:List (Value×G×Nat)}{fr:Fr}{pos:String}{af:Array Edge}{gd:Option (Nat×Bool)}{L:Br}{k k':IntKind}{parts:Array (Nat×DC)}{b:Frame}{cs:List Frame}{c:Code}{S:Fu}{ok:Bool}
section
variable {P:Bu}
theorem zC(w:World)(a:Nat)(t ty e:Bj)(i:TypeInfo)(size:Nat)(ht:P.underlying t=some (.slice e))(hi:P.info? e=some i)
  (v:Value) (n:Nat) (xs:List Value) (hown:w.ownsRow a e size v n xs) (A:Option Addr) (c:Nat):(Builtin.append_ #[t,t] ty #[v,.slice A 0 c]).run P w= .ok v w:=by
 rcases hown.2 with⟨rfl,rfl⟩|⟨g,cap,cur,rfl,_,_,b,_⟩
 .cases A<;>simp[Builtin.append_,Gc ht,sizeOf,typeInfo,hi,Builtin.lenOf,Builtin.firstCells,loadCells,loadCellsFrom]
 .cases A<;>simp[Builtin.append_,Gc ht,sizeOf,typeInfo,hi,Builtin.lenOf,Builtin.firstCells,b,loadCells,loadCellsFrom,storeCells]
theorem BQ(w:World)(t ty e:Bj)(i:TypeInfo)(z:Value)(size d:Nat)(ht:P.underlying t=some (.slice e))(hi:P.info? e=some i)(hz:i.zero=some z)
  (hsize:i.size=size) (hby:i.bytes=d) (g:z.cells.size=size) (hsz:0<size)
  (v:Value) (n:Nat) (xs:List Value) (hown:w.ownsRow 0 e size v n xs)
  (A:Option Addr) (m c:Nat) (b:List Value) (hl:b.length=m*size) (k:∀(j:Nat) (u:Value),b[j]?=some u->∃a,A=some a/\w.cell? (a.add j)=some u) (h1:∀u∈b,u.oneCell'=true)
  (h:n+m<=maxLen) (f:(n+m)*d<=140737488355328):
  ∃v' w',(Builtin.append_ #[t,t] ty #[v,.slice A m c]).run P w= .ok v' w'/\w'.ownsRow 0 e size v' (n+m) (xs++b)/\w.grownBy w' v.ownBlock/\(v'.ownBlock=v.ownBlock\/v'.ownBlock=some w.heap.size):=by
 rcases Nat.eq_zero_or_pos m with hm|hm
 .subst hm
  grind [zC,World.grownBy.refl]
 .cases A with
  |none=>
   obtain⟨u,hu⟩:∃u,b[0]?=some u:=by grind [Nat.mul_pos]
   grind
  |some a=>obtain⟨v',w',hr,h2,h3,h4,_⟩:=zw (P:=P) w 0 t ty e i z size d ht hi hz hsize hby g hsz v n xs hown a m c b hl (by grind) h1 hm h f (Nat.zero_le _);grind
def fO(σ:aQ)(s:Nat):G->Option (Bk×Nat)
 | .sl l m=>if l.length=m*s then some (l,m)else none
 | .rsl j o m=>(ag σ j).bind λob=>if o+m*s<=ob.l.length then some ((ob.l.drop o).take (m*s),m)else none
 | .lit (.slice none 0 _)=>some ([],0)
 |_=>none
theorem xN(h:Bx P cx st a w β){x:G}(hx:RV β (Av cx.S0 β st.σ) w x v)(hg:fO st.σ s x=some (l,m)):
  ∃A c d,v= .slice A m c/\d.length=m*s/\Rw β (Av cx.S0 β st.σ) w l d/\(∀(j:Nat) (u:Value),d[j]?=some u->∃a,A=some a/\w.cell? (a.add j)=some u):=by
 cases x with
 |sl l' m'=>
  simp only[fO] at hg
  split at hg
  .rename_i hl
   simp at hg
   obtain⟨rfl,rfl⟩:=hg
   obtain⟨A,cap,us,rfl,hn,hm,ha,h1,hr⟩:=hx.sl_cells
   have hu:∀(j:Nat) (u:Value),((List.range l'.length).map us)[j]?=some u->j<l'.length/\u=us j:=by grind
   refine⟨A,cap,(List.range l'.length).map us,rfl,by simp[hl],⟨aC,λu hu'=>?_,λi g u hg hu'=>?_⟩,λj u hu'=>?_⟩
   all_goals grind [RV,iS]
  .cases hg
 |rsl j o m'=>
  simp only[fO,Gf] at hg
  obtain⟨ob,hob,hg⟩:=hg
  split at hg
  .rename_i hle
   simp at hg
   obtain⟨rfl,rfl⟩:=hg
   rcases hx.rsl_form with⟨hb,rfl,rfl⟩|⟨b,C,f,cap,hb,rfl,hn,hm,ho,p⟩
   .exact⟨none,0,[],rfl,aC,⟨aC,aC,aC⟩,aC⟩
   .obtain⟨us,hc⟩:=(h.ob j ob hob).cells hb
    have hl:((ob.l.drop o).take (m'*s)).length=m'*s:=by simp;omega
    have hu:∀(k:Nat) (u:Value),((List.range (m'*s)).map λi=>us (o+i))[k]?=some u->k<m'*s/\u=us (o+k):=by grind
    refine⟨_,cap,(List.range (m'*s)).map λi=>us (o+i),rfl,aC,⟨by rw[hl];simp,λu hu'=>?_,λi g u hg hu'=>?_⟩,λk u hu'=>?_⟩
    .obtain⟨k,hk⟩:=List.mem_iff_getElem?.1 hu'
     obtain⟨hlt,rfl⟩:=hu k u hk
     exact hc.2.1 _ aa
    .obtain⟨hlt,rfl⟩:=hu i u hu'
     rw[List.getElem?_take,BB hlt,List.getElem?_drop] at hg
     exact hc.2.2 _ g hg
    .obtain⟨hlt,rfl⟩:=hu k u hu'
     have hpos:0<m':=by grind
     have e:=ho aa
     subst e
     have:=hc.1 (f+k) aa
     grind [iS]
  .cases hg
 |lit u=>
  cases u with
  |slice A n c=>
   cases A with
   |none=>
    cases n with
    |zero=>
     simp[fO] at hg
     obtain⟨rfl,rfl⟩:=hg
     have:=hx.lit_eq
     subst this
     exact⟨none,c,[],rfl,aC,⟨aC,aC,aC⟩,aC⟩
    |succ n=>simp[fO] at hg
   |some _=>simp[fO] at hg
  |_=>simp[fO] at hg
 |_=>simp[fO] at hg
def xO(σ:aQ)(c:Nat)(e:Bj)(s:Nat):G->Option (Nat×Nat×Bk)
 | .lit (.slice none 0 0)=>some (c,0,[])
 | .rsl i 0 n=>(ag σ i).bind λob=>if ob.t=e/\ob.l.length=n*s/\ob.x.isNone=true then some (i,n,ob.l)else none
 |_=>none
theorem yP(h:Bx P cx st a w β)(hs:bw P e=some s){gx:G}{vx:Value}(hvx:RV β (Av cx.S0 β st.σ) w gx vx){i n m:Nat}{newsV:List Value}(hx:xO st.σ st.c e s gx=some (i,n,l))
  (hnl:newsV.length=m*s) (hnr:Rw β (Av cx.S0 β st.σ) w news newsV) {X:Value->World->Prop} (D:∀v' w',X v' w'->w.drawn<=w'.drawn) (E:∀xs,w.ownsRow 0 e s vx n xs->∃v' w',X v' w'/\w'.ownsRow 0 e s v' (n+m) (xs++newsV)/\w.grownBy w' vx.ownBlock/\(v'.ownBlock=vx.ownBlock\/v'.ownBlock=some w.heap.size))  (hd:∀x,d=some x->x<st.n) {pl:Fq} (hpl:zB st pl):
  ∃v' w',X v' w'/\mh P cx ({st with σ:=(iT st pl,some ⟨e,l++news,none⟩)::(i,none)::st.σ,c:=ZS st pl}.put d (.rsl (iT st pl) 0 (n+m))) (a.put d v') w':=by
 obtain⟨xs,hown,f,hrow⟩:∃xs,w.ownsRow 0 e s vx n xs/\Rw β (Av cx.S0 β st.σ) w l xs/\∀b,vx.ownBlock=some b->∃ob C,ag st.σ i=some ob/\β i=some (some (b,C)):=by
  have hx':=hvx;unfold xO at hx;split at hx
  .simp at hx;obtain⟨rfl,rfl,rfl⟩:=hx;rw[hx'.lit_eq];exact⟨[],World.ownsRow_nil w _ _ _,⟨aC,aC,aC⟩,by simp[Value.ownBlock]⟩
  .rename_i K A;rw[Gf] at hx;obtain⟨ob,hob,hx⟩:=hx;split at hx
   .rename_i hc;obtain⟨rfl,hol,F⟩:=hc;simp at hx;obtain⟨rfl,rfl,rfl⟩:=hx;rcases hx'.rsl_form with⟨hb,hv,rfl⟩|⟨b,C,J,cap,hb,hv,hn,hm,ho',H⟩
    .rw[hv];refine⟨[],World.ownsRow_nil w _ _ _,?_,by simp[Value.ownBlock]⟩;have:ob.l=[]:=by grind
     rw[this];exact⟨aC,aC,aC⟩
    .rw[hv];rcases h.ob _ ob hob with⟨h1,_⟩|⟨b',B,J,hx',_⟩|⟨b',C',cur,_,h1,h2,h3,h4,h5,h6⟩
     .grind
     .grind
     .rw[h1] at hb;cases hb;obtain⟨q,r⟩:=H rfl;subst q;have hcs:cur.size=cap*s:=by rw[h3,Ng hs]
      have hns:A*s<=cur.size:=by grind
      subst r;refine⟨cur.toList.take (A*s),(by constructor<;>grind),⟨by simp;omega,λu hu=>?_,(by grind)⟩,λb' hb'=>?_⟩
      .obtain⟨j,hj⟩:=List.mem_iff_getElem?.1 hu;rw[List.getElem?_take] at hj;split at hj
       .obtain⟨L,hu',h7,_⟩:=h6 j _ (EA aa);grind
       .cases hj
      all_goals grind [Value.ownBlock]
   .cases hx
  .cases hx
 obtain⟨v',w',y,p,I,hblk⟩:=E xs hown
 refine⟨v',w',y,?_⟩
 have hkp:A3 (λB=>vx.ownBlock=some B) w w':=by grind [A3,World.grownBy.os,World.grownBy.tape,World.grownBy.output,World.grownBy.size,World.grownBy.block]
 rcases p.2 with⟨rfl,hnm⟩|⟨g,cap,cur,rfl,_,hg,hle,hm,hcs,z⟩
 ·
  have hnone:vx.ownBlock=none:=by grind [Value.ownBlock]
  have h0:l++news=[]:=by have e1:=f.1;have e2:=hnr.1;have e3:=hown.1;have a1:n=0:=aa;have a2:m=0:=aa;subst a1;subst a2;grind
  have hw:=h.world (hkp.mono λb _ hb=>by rw[hnone] at hb;cases hb)
  have h00:n+m=0:=hnm
  rw[h0,h00]
  cases pl with
  |none=>
   have hv:=(hw.kill i).virt e (k:=st.c) (Dk _)
   exact⟨_,hv.put d hd (.rsl0 _ _ (by simp[iT]))⟩
  |some k=>
   obtain⟨_,ob0,hr0,t⟩:=hpl
   have hk0:β k=some none:=by
    rcases h.ob k ob0 hr0 with⟨h1,_⟩|⟨b,x,o,h1,_,_,_,h5⟩|⟨b,C,cur,h1,_⟩
    .exact h1
    .rw[t] at h1;cases h1;exact h5.elim
    grind
   have hik:i≠k:=by intro e;unfold xO at hx;grind [Gf]
   have hv:=(hw.kill i).matV e (k:=k) (ob0:=ob0) (by grind) t
   exact⟨_,hv.put d hd (by grind [RV,iT])⟩
 .have hgb:vx.ownBlock=some g\/w.heap.size<=g:=by grind [Value.ownBlock]
  have hlen:(l++news).length<=cur.size:=by have e1:=f.1;have e2:=hnr.1;grind [UQ]
  have hw:=h.regrowP (hpl:=hpl) hrow hkp (b:=g) (C:=cap) (cur:=cur) (ob:=⟨e,l++news,none⟩) hgb hg (by grind [Ng]) hm hlen rfl (λj v hg'=>by
   have hlt:j<(l++news).length:=by grind
   have hltc:j<cur.size:=Nat.lt_of_lt_of_le hlt hlen;have e1:=f.1;have e2:=hnr.1;have e3:=hown.1;have hcu:cur[j]?=(xs++newsV)[j]? :=by grind
   rw[hcu];by_cases hj:j<l.length
   .have hg'':l[j]?=some v:=by grind
    have hxj:xs[j]?=some (xs[j]'aa):=by grind
    refine⟨_,by grind,f.2.1 _ (bO hxj),f.2.2 j v _ hg'' hxj⟩
   .have hg'':news[j-l.length]?=some v:=by grind
    have hlt2:=(cr hg'').1;have hxj:newsV[j-l.length]?=some (newsV[j-l.length]'aa):=by grind
    refine⟨_,by grind,hnr.2.1 _ (bO hxj),hnr.2.2 _ v _ hg'' hxj⟩)
  exact⟨_,hw.put d hd (.rsl _ _ _ _ _ _ _ aC hle hm (λ_=>rfl) (λ_=>⟨rfl,rfl⟩))⟩
theorem J4{pl:Fq}{bytes:Nat}{zs:List Value}(ho:o.op= .call {callee:= .builtin .append,args:= #[x,y],argTypes:= #[t,t]})(hd:LV o st.n)
  (he:dp P t=some e) (hs:bw P e=some s) (g:0<s) (hz:jj P e=some zs) (r:zs.length=s) (hby:(P.info? e).map (·.bytes)=some bytes)
  (hx:xO st.σ st.c e s (aB st x)=some (i,n,l)) (hy:fO st.σ s (aB st y)=some (news,m)) (j:n+m<=maxLen) (b:(n+m)*bytes<=140737488355328) (hpl:zB st pl):
  GS P o st ({st with σ:=(iT st pl,some ⟨e,l++news,none⟩)::(i,none)::st.σ,c:=ZS st pl}.put o.dst (.rsl (iT st pl) 0 (n+m))):=by
 intro cx a w K R ⟨β,h⟩ u
 obtain⟨q,z,hi,hz',v,B⟩:=ii hz
 have ht:=cE he
 have hsize:q.size=s:=by grind [bw]
 have hbytes':q.bytes=bytes:=by grind
 have hzc:z.cells.size=s:=by grind
 obtain⟨A,c,d,hyv,hnl,hnr,k⟩:=xN h (h.ev y) hy
 obtain⟨v',w',hrun,f⟩:=yP h hs (h.ev x) hx hnl hnr (X:=λv' w'=>(execOp a.eval o).run P w= .ok (.value v') w') (λv' w' hr=>Ep _ _ _ _ _ hr) (λxs hown=>by obtain⟨v',w',p,h2,h3,h4⟩:=BQ (P:=P) w t o.type e q z s bytes ht hi hz' hsize hbytes' hzc g (a.eval x) n xs hown A m c d hnl k hnr.2.1 j b;refine⟨v',w',?_,h2,h3,h4⟩;unfold execOp;grind [resolve,invoke,builtin,E0,HA,E1]) hd hpl
 refine h.loose.oper (by grind) ?_
 unfold Oper.wp
 rw[hrun]
 exact u _ _ f
def Gls(gl:CC)(S:Fu)(w:World):Prop:=∀g l,gl.lookup g=some l->IV S w (.ptr l 0) (.pointer (some ⟨g,0,none⟩))
def ba(P:Bu)(gl:CC)(f:FuncId)(gs:Bk)(r:G):Prop:=
 ∀(w:World) (S:Fu) (vs:Array Value),(∀b,S b->b<w.heap.size)->Gls gl S w->vs.size=gs.length->(∀(i:Nat) (g:G) (u:Value),gs[i]?=some g->vs[i]?=some u->IV S w g u)->
  Calls P f vs w λe w'=>∃v,e= .returned v/\IV S w' r v/\A3 (λ_=>False) w w'
def bB(g:G):Prop:=∀β S w v,RV β S w g v->IV S w g v
theorem mN(v:Value):bB (.lit v):=λβ S w u h=>by grind [RV]
theorem FC(l:Bk)(n:Nat):bB (.sl l n):=λβ S w u h=>by grind [RV]
theorem Ah(l:Bk)(o:Nat):bB (.ptr l o):=λβ S w u h=>by grind [RV]
theorem J5(a:List Value)(vs:Bk)(b:Br)(c:Nat):bB (.mp a vs b c):=λβ S w u h=>by grind [RV]
theorem L6(hl:∀g∈l,bB g):bB (.agg l):=λβ S w u h=>by obtain⟨us,rfl,h2,h1,hr⟩:=h.agg_form;exact .agg _ _ h2 h1 λi g u hg hu=>hl g (bO hg) _ _ _ _ (hr i g u hg hu)
theorem L7(hl:∀g∈l,bB g):bB (.tup l):=λβ S w u h=>by obtain⟨us,rfl,h2,hr⟩:=h.tup_form;exact .tup _ _ h2 λi g u hg hu=>hl g (bO hg) _ _ _ _ (hr i g u hg hu)
theorem L8{fn:Fn}{a b:Bk}(ha:∀g∈a,bB g)(hb:∀g∈b,bB g):bB (.clo fn a b):=λβ S w u h=>by obtain⟨fs,cs,rfl,h1,h2,h3,h4⟩:=h.clo_form;exact .clo _ _ _ _ _ h1 h2 (λi g u hg hu=>ha g (bO hg) _ _ _ _ (h3 i g u hg hu)) (λi g u hg hu=>hb g (bO hg) _ _ _ _ (h4 i g u hg hu))
def ve(P:Bu)(st:St)(g b:G):Prop:=∀cx a w β,Bx P cx st a w β->∀v,RV β (Av cx.S0 β st.σ) w g v->IV cx.S0 w b v
theorem jB(h:bB g):ve P st g g:=λcx a w β _ v hv=>(h _ _ _ _ hv).sub (by grind)
theorem L9(hl:l'.length=l.length)(h:∀(i:Nat) (g g':G),l[i]?=some g->l'[i]?=some g'->ve P st g g'):ve P st (.agg l) (.agg l'):=λcx a w β r v hv=>by
 obtain⟨us,rfl,h2,h1,hr⟩:=hv.agg_form;refine .agg _ _ aa h1 λi g u hg hu=>?_;have hlt:=(cr hg).1;have hx:l[i]?=some (l[i]'aa):=by grind
 exact h i _ g hx hg cx a w β r u (by grind)
theorem Ma(hl:l'.length=l.length)(h:∀(i:Nat) (g g':G),l[i]?=some g->l'[i]?=some g'->ve P st g g'):ve P st (.tup l) (.tup l'):=λcx a w β r v hv=>by
 obtain⟨us,rfl,h2,hr⟩:=hv.tup_form;refine .tup _ _ aa λi g u hg hu=>?_;have hlt:=(cr hg).1;have hx:l[i]?=some (l[i]'aa):=by grind
 exact h i _ g hx hg cx a w β r u (by grind)
theorem FD{i o n s:Nat}{ob:Ob}(ho:ag st.σ i=some ob)(hs:bw P ob.t=some s)(hle:o+n*s<=ob.l.length)(hl:l.length=n*s)(h:∀(j:Nat) (g c:G),ob.l[o+j]?=some g->l[j]?=some c->ve P st g c):ve P st (.rsl i o n) (.sl l n):=λcx a w β r v hv=>by
 rcases hv.rsl_form with⟨hb,rfl,rfl⟩|⟨b,C,d,cap,hb,rfl,hn,hm,ho',f⟩
 .have:l=[]:=by grind
  subst this;exact .sl [] 0 none 0 (λ_=>undef) (Dk _) (Nat.zero_le _) aC aC aC
 .obtain⟨us,hc⟩:=(r.ob i ob ho).cells hb;refine .sl l n _ cap (λj=>us (o+j)) hn hm (λj hj=>?_) (λj hj=>hc.2.1 _ aa) (λj c hg'=>?_)
  .have hpos:0<n:=by grind
   have e:=ho' aa;subst e;have:=hc.1 (d+j) aa;grind [Bx.lt]
  .have hlt:=(cr hg').1;have hx:ob.l[o+j]?=some (ob.l[o+j]'aa):=by grind
   exact h j _ c hx hg' cx a w β r _ (hc.2.2 _ _ hx)
theorem Mb{o:Nat}{ob:Ob}(ho:ag st.σ i=some ob)(hl:l.length<=ob.l.length)(h:∀(j:Nat) (g c:G),ob.l[j]?=some g->l[j]?=some c->ve P st g c):ve P st (.ref i o) (.ptr l o):=λcx a w β r v hv=>by
 obtain⟨b,C,hb,rfl⟩:=hv.ref_addr;obtain⟨us,hc⟩:=(r.ob i ob ho).cells hb;have:=IV.ptr (S:=cx.S0) (w:=w) l o b 0 us (by grind) (r.lt ho hb) (λj hj=>hc.1 j aa) (λj hj=>hc.2.1 j aa) (λj c hg'=>by
  have hlt:=(cr hg').1;have hx:ob.l[j]?=some (ob.l[j]'aa):=by grind
  exact h j _ c hx hg' cx a w β r _ (hc.2.2 _ _ hx))
 grind
def jV(P:Bu)(st:St):ResultVar->Option G
 | .tmp t=>some (aD st.fr t)
 | .cell a t=>jU P st.σ t (aD st.fr a)
def bQ:Nat->Bk->Fr
 |_,[]=>[]
 |k,g::r=>(k,g)::bQ (k+1) r
theorem px:∀(gs:Bk) (k i:Nat),aD (bQ k gs) i=if k<=i then(gs[i-k]?).getD .junk else .junk
 |[],k,i=>by simp[bQ,aD]
 |g::r,k,i=>by rw[bQ,aO,px r (k+1) i];grind
def St.enter(fn:Func)(gl:CC)(gs:Bk):St:=⟨fn.ntmps,gl,bQ 0 gs,[],0,0,false⟩
def iU:Bk->G
 |[g]=>g
 |gs=> .tup gs
def tH(P:Bu)(fn:Func)(r:G)(e:Exit)(st:St):Prop:=(e= .normal\/e= .ret)/\∃gs,fn.results.toList.mapM (jV P st)=some gs/\ve P st (iU gs) r
theorem BR{cx:Cx}{st:St}{a:Act}{w:World}{β:Bm}(h:Bx P cx st a w β):∀(rs:List ResultVar) (gs:Bk),rs.mapM (jV P st)=some gs->
  ∃vs,(rs.mapM λ(x:ResultVar)=>(match x with| .tmp t=>pure (a.tmps.getD t undef)| .cell b t=>do loadVar t (<-asAddr (a.tmps.getD b undef)):Sem Value)).run P w= .ok vs w/\vs.length=gs.length/\∀(i:Nat) (g:G) (u:Value),gs[i]?=some g->vs[i]?=some u->RV β (Av cx.S0 β st.σ) w g u
 |[],gs,hm=>by simp_all
 |r::rs,gs,hm=>by
  simp only[List.mapM_cons,Option.bind_eq_bind,Gf,Option.pure_def,Fe] at hm;obtain⟨g,hg,c,hgs,rfl⟩:=hm;obtain⟨vs,hv,hl,hr⟩:=BR h rs c hgs;obtain⟨v,hv1,hr1⟩:∃v,((match r with| .tmp t=>pure (a.tmps.getD t undef)| .cell b t=>do loadVar t (<-asAddr (a.tmps.getD b undef)):Sem Value)).run P w= .ok v w/\RV β (Av cx.S0 β st.σ) w g v:=by
   cases r with
   |tmp t=>simp[jV] at hg;subst hg;exact⟨_,aC,h.fr t⟩
   |cell b t=>
    simp only[jV] at hg;obtain⟨u,hu,hr⟩:=Eb h (h.fr b) hg;refine⟨u,?_,hr⟩;simp only[Instr.loadAt,E0] at hu⊢;cases hx:a.tmps.getD b undef with
    |pointer p=>
     cases p with
     |none=>rw[hx] at hu;simp[Instr.sureAddr,stuck] at hu
     |some p=>grind [Instr.sureAddr,asAddr]
    |_=>rw[hx] at hu;simp[Instr.sureAddr,stuck] at hu
  refine⟨v::vs,?_,by simp[hl],(by grind)⟩;all_goals grind [E0,E1,HA]
theorem HL{fn:Func}{c:Code}{r:G}(hf:P.funcs[f]?=some fn)(hb:fn.body=some c)(hn:gs.length<=fn.ntmps)(h:Tr P c (St.enter fn gl gs) (tH P fn r)):ba P gl f gs r:=by
 intro w S vs hS hG hsz m;refine rq (cx:=⟨w,λ_=>False,S,λ_=>none,Fence.wide,9⟩) hf hb h rfl rfl ⟨λ_=>none,?_⟩ ?_
 .have hav:∀b,Av S (λ_=>none) [] b->S b:=by grind
  constructor<;>try grind [St.enter,D7.nil,lP,A3.refl]
  .exact λ_=>rfl
  .exact λi=>by
    show RV _ _ w (aD (bQ 0 gs) i) _;rw[px];simp only[Nat.zero_le,if_true,Nat.sub_zero];cases hg:gs[i]? with
    |none=>exact .junk _
    |some g=>
     have hlt:=(cr hg).1;have hu:vs[i]?=some (vs[i]'aa):=by grind
     refine .imm _ _ (IV.sub (S:=S) ?_ (by grind));have e:(vs++Array.replicate (fn.ntmps-vs.size) undef).getD i undef=vs[i]'aa:=by rw[Array.getD_eq_getD_getElem?,Array.getElem?_append_left aa,hu];rfl
     grind
  .exact λi o ho=>by cases ho
  .exact λg l hl=>(hG g l hl).sub (by grind)
 .rintro e st' a' w' ⟨he,j,hgs,d⟩ ⟨β,hr⟩;obtain⟨us,k,hl,a⟩:=BR hr _ _ hgs;have hres:(results fn a'.tmps).run P w'= .ok (if h:us.toArray.size=1 then us.toArray[0]else .tuple us.toArray) w':=by unfold results;rw[Array.mapM_eq_mapM_toList];simp only[E0,Sem.run_map];erw[k];rfl
  have hv:RV β (Av S β st'.σ) w' (iU j) (if h:us.toArray.size=1 then us.toArray[0]else .tuple us.toArray):=by
   match j,us,hl,a with
   |[],[],_,_=>exact .tup _ _ rfl aC
   |[g],[u],_,a=>exact a 0 g u rfl rfl
   |g::g'::gr,u::u'::ur,hl,a=>exact .tup _ _ (by grind) (by grind)
  exact⟨he,_,hres,_,rfl,d _ _ _ β hr _ hv,hr.keep⟩
attribute [irreducible] tH
def aK(P:Bu)(f:FuncId):Bool:=match P.funcs[f]? with
 |some fn=>fn.body.isSome&& !(fn.name== "runtime.NumGoroutine")
 |none=>false
theorem wq(h:aK P f=true)(args:Array Value)(w:World):(callFunc f args).run P w= .ok (.enter f args) w:=by
 unfold aK at h;split at h
 .rename_i fn hf;simp only[bA,Bool.not_eq_true'] at h;obtain⟨h1,h2⟩:=h;obtain⟨c,hc⟩:=WE.1 h1;have h3:¬fn.name= "runtime.NumGoroutine" :=by grind
  unfold callFunc;simp_all
 .cases h
theorem lQ(h:Bx P cx st a w β){f:DC}(ho:o.op= .call {callee:= .value f,args:=xs,argTypes:=ats})(hf:aB st f= .clo (.func fid) fst cap)(hc:aK P fid=true):
  ∃vs:Array Value,(execOp a.eval o).run P w= .ok (.enter fid vs) w/\vs.size=(fst++xs.toList.map (aB st)++cap).length/\∀(i:Nat) (g:G) (u:Value),(fst++xs.toList.map (aB st)++cap)[i]?=some g->vs[i]?=some u->RV β (Av cx.S0 β st.σ) w g u:=by
 have hx:=h.ev f
 rw[hf] at hx
 obtain⟨fs,cs,hv,h1,h2,h3,h4⟩:=hx.clo_form
 refine⟨fs++xs.map a.eval++cs,?_,by simp[h1,h2],λi g u hg hu=>?_⟩
 all_goals grind [execOp,resolve,Deferred.ofValue,invoke,wq,Bx.ev]
theorem wt{f:DC}{r:G}(ho:o.op= .call {callee:= .value f,args:=xs,argTypes:=ats})(hd:LV o st.n)(hf:aB st f= .clo (.func fid) fst cap)(hc:aK P fid=true)
  (hi:∀g∈fst++xs.toList.map (aB st)++cap,bB g) (hF:ba P st.gl fid (fst++xs.toList.map (aB st)++cap) r):GS P o st (st.put o.dst r):=by
 intro cx a w K R ⟨β,h⟩ c
 obtain⟨vs,hrun,hsz,hr⟩:=lQ h ho hf hc
 refine h.loose.oper (by grind) ?_
 unfold Oper.wp
 rw[hrun]
 refine(hF w (Av cx.S0 β st.σ) vs (λb hb=>?_) h.glob hsz (λi g u hg hu=>hi g (bO hg) _ _ _ _ (hr i g u hg hu))).mono ?_
 .grind [Bx.lt]
 .rintro e w' ⟨v,rfl,hv,hk⟩
  exact c _ _ ⟨β,(by grind [Bx.put,Bx.world,RV])⟩
def YD(g:G):Prop:=∀S S' w w' v,IV S w g v->IV S' w' g v
theorem lR(v:Value):YD (.lit v):=λS S' w w' u h=>by cases h;exact .lit v
theorem HM(hl:∀g∈l,YD g):YD (.agg l):=λS S' w w' u h=>by
 cases h with
 |agg _ us a h1 h=>exact .agg _ us a h1 λi g u hg hu=>hl g (bO hg) _ _ _ _ _ (h i g u hg hu)
theorem HN(hl:∀g∈l,YD g):YD (.tup l):=λS S' w w' u h=>by
 cases h with
 |tup _ us a h=>exact .tup _ us a λi g u hg hu=>hl g (bO hg) _ _ _ _ _ (h i g u hg hu)
theorem Ai{f:DC}{r:G}(ho:o.op= .call {callee:= .value f,args:=xs,argTypes:=ats})(hd:LV o st.n)(hf:aB st f= .clo (.func fid) fst cap)(hc:aK P fid=true)
  (hl:gs.length=(fst++xs.toList.map (aB st)++cap).length) (hi:∀(i:Nat) (g g':G),(fst++xs.toList.map (aB st)++cap)[i]?=some g->gs[i]?=some g'->ve P st g g') (hF:ba P st.gl fid gs r) (hr:YD r):GS P o st (st.put o.dst r):=by
 intro cx a w K R ⟨β,h⟩ b
 obtain⟨vs,hrun,hsz,hv⟩:=lQ h ho hf hc
 refine h.loose.oper (by grind) ?_
 unfold Oper.wp
 rw[hrun]
 refine(hF w cx.S0 vs (by grind) (λg l hl=>(by grind [IV.sub])) aa (λi g u hg hu=>?_)).mono ?_
 .have hlt:=(cr hg).1
  have hx:(fst++xs.toList.map (aB st)++cap)[i]?=some ((fst++xs.toList.map (aB st)++cap)[i]'aa):=by rw[EA]
  exact hi i _ g hx hg cx a w β h u (by grind)
 .rintro e w' ⟨v,rfl,hv,hk⟩
  exact b _ _ ⟨β,(h.world hk).put o.dst hd (.imm _ _ (hr _ _ _ _ _ hv))⟩
def dq(ρ:DH)(i:Nat):Fq:=ρ.lookup i
def Wk(P:Bu)(st:St)(ρ:DH)(g c:G):Prop:=∀cx a w β,Bx P cx st a w β->∀v,RV β (Av cx.S0 β st.σ) w g v->
 RV (λi=>(dq ρ i).bind β) (λb=>cx.S0 b\/∃i j ob C,dq ρ i=some j/\ag st.σ j=some ob/\β j=some (some (b,C))) w c v
theorem FE:Wk P st ρ g .junk:=λ_ _ _ _ _ v _=> .junk v
theorem ry(h:bB g):Wk P st ρ g g:=λcx a w β r v hv=> .imm _ _ ((h _ _ _ _ hv).sub (by grind))
theorem VH{o:Nat}(h:dq ρ i=some j):Wk P st ρ (.ref j o) (.ref i o):=λcx a w β r v hv=>by grind [RV.ref_addr,RV]
theorem SU(h:dq ρ i=some j):Wk P st ρ (.mref j) (.mref i):=λcx a w β r v hv=>by grind [RV.mref_form,RV]
theorem VI(h:dq ρ i=some j):Wk P st ρ (.yld j) (.yld i):=λcx a w β r v hv=>by grind [RV.yld_form,RV]
theorem Ajb(h:dq ρ i=some j):Wk P st ρ (.rsr j n) (.rsl i 0 n):=λcx a w β r v hv=>by grind [RV.rsr_form,RV]
theorem P4{i j o n:Nat}(h:dq ρ i=some j):Wk P st ρ (.rsl j o n) (.rsl i o n):=λcx a w β r v hv=>by grind [RV.rsl_form,RV]
theorem VJ(hl:l'.length=l.length)(h:∀(i:Nat) (g g':G),l[i]?=some g->l'[i]?=some g'->Wk P st ρ g g'):Wk P st ρ (.agg l) (.agg l'):=λcx a w β r v hv=>by
 obtain⟨us,rfl,h2,h1,hr⟩:=hv.agg_form;refine .agg _ _ aa h1 λi g u hg hu=>?_;have hlt:=(cr hg).1;have hx:l[i]?=some (l[i]'aa):=by grind
 exact h i _ g hx hg cx a w β r u (by grind)
theorem VK(hl:l'.length=l.length)(h:∀(i:Nat) (g g':G),l[i]?=some g->l'[i]?=some g'->Wk P st ρ g g'):Wk P st ρ (.tup l) (.tup l'):=λcx a w β r v hv=>by
 obtain⟨us,rfl,h2,hr⟩:=hv.tup_form;refine .tup _ _ aa λi g u hg hu=>?_;have hlt:=(cr hg).1;have hx:l[i]?=some (l[i]'aa):=by grind
 exact h i _ g hx hg cx a w β r u (by grind)
theorem VL{fn:Fn}{m:Bk}(hl:l'.length=l.length)(hm:m'.length=m.length)(h:∀(i:Nat) (g g':G),l[i]?=some g->l'[i]?=some g'->Wk P st ρ g g')(h':∀(i:Nat) (g g':G),m[i]?=some g->m'[i]?=some g'->Wk P st ρ g g'):Wk P st ρ (.clo fn l m) (.clo fn l' m'):=λcx a w β r v hv=>by
 obtain⟨fs,cs,rfl,h1,h2,h3,h4⟩:=hv.clo_form;refine .clo _ _ _ _ _ aa aa (λi g u hg hu=>?_) (λi g u hg hu=>?_)
 .have hlt:=(cr hg).1;have hx:l[i]?=some (l[i]'aa):=by grind
  exact h i _ g hx hg cx a w β r u (by grind)
 .have hlt:=(cr hg).1;have hx:m[i]?=some (m[i]'aa):=by grind
  exact h' i _ g hx hg cx a w β r u (by grind)
theorem BS{st:St}{ρ:DH}{i o n s:Nat}{ob:Ob}(hk:∀p∈ρ,p.2≠i)(ho:ag st.σ i=some ob)(hs:bw P ob.t=some s)(hle:o+n*s<=ob.l.length)(h:∀g∈ob.l,bB g):Wk P st ρ (.rsl i o n) (.sl ((ob.l.drop o).take (n*s)) n):=λcx a w β r v hv=>by
 have hav:∀b C,β i=some (some (b,C))->¬(cx.S0 b\/∃k j c D,dq ρ k=some j/\ag st.σ j=some c/\β j=some (some (b,D))):=by
  rintro b C hb (hx|⟨k,j,c,D,h1,h2,h3⟩)
  .grind
  .have:=r.inj i j ob c b C D ho h2 hb h3;subst this;unfold dq at h1;rw[List.lookup_eq_some_iff] at h1;obtain⟨l1,l2,rfl,_⟩:=h1;exact hk (k,i) aC rfl
 rcases hv.rsl_form with⟨hb,rfl,rfl⟩|⟨b,C,d,cap,hb,rfl,hn,hm,ho',m⟩
 .have:(ob.l.drop o).take (0*s)=[]:=aC;rw[this];exact .imm _ _ (.sl [] 0 none 0 (λ_=>undef) (Dk _) (Nat.zero_le _) aC aC aC)
 .obtain⟨us,hc⟩:=(r.ob i ob ho).cells hb;have hl:((ob.l.drop o).take (n*s)).length=n*s:=by simp;omega
  refine .imm _ _ (.sl _ n _ cap (λj=>us (o+j)) hn hm (λj hj=>?_) (λj hj=>hc.2.1 _ aa) (λj f hg'=>?_))
  .have hpos:0<n:=by grind
   have e:=ho' aa;subst e;have:=hc.1 (d+j) aa;grind [Bx.lt]
  .have hlt:=(cr hg').1;rw[List.getElem?_take,BB aa,List.getElem?_drop] at hg';have:=(h f (bO hg') _ _ _ _ (hc.2.2 _ _ hg'));grind [IV.sub]
def J6(P:Bu)(st:St)(ρ:DH)(fr:Fr):Prop:=∀d,Wk P st ρ (aD st.fr d) (aD fr d)
theorem P5{ob:Ob}{w:World}(r:Bx P cx st a w β)(hk:∀p∈ρ,p.2≠i)(ho:ag st.σ i=some ob){b C:Nat}(hb:β i=some (some (b,C))):¬(cx.S0 b\/∃k j c D,dq ρ k=some j/\ag st.σ j=some c/\β j=some (some (b,D))):=by
 rintro(hx|⟨k,j,c,D,h1,h2,h3⟩)
 .grind
 .have:=r.inj i j ob c b C D ho h2 hb h3;subst this;unfold dq at h1;rw[List.lookup_eq_some_iff] at h1;obtain⟨l1,l2,rfl,_⟩:=h1;exact hk (k,i) aC rfl
theorem J7{o:Nat}{ob:Ob}(hk:∀p∈ρ,p.2≠i)(ho:ag st.σ i=some ob)(hl:l.length=ob.l.length)(h:∀(j:Nat) (g c:G),ob.l[j]?=some g->l[j]?=some c->Wk P st ρ g c)(hi:∀g∈l,bB g):Wk P st ρ (.ref i o) (.ptr l o):=λcx a w β r v hv=>by
 obtain⟨b,C,hb,rfl⟩:=hv.ref_addr;obtain⟨us,hc⟩:=(r.ob i ob ho).cells hb;have:=IV.ptr (S:=λb=>cx.S0 b\/∃i j ob C,dq ρ i=some j/\ag st.σ j=some ob/\β j=some (some (b,C))) (w:=w) l o b 0 us (P5 r hk ho hb) (r.lt ho hb) (λj hj=>hc.1 j aa) (λj hj=>hc.2.1 j aa) (λj c hg'=>by
  have hlt:=(cr hg').1;have hx:ob.l[j]?=some (ob.l[j]'aa):=by grind
  exact hi c (bO hg') _ _ _ _ (h j _ c hx hg' cx a w β r _ (hc.2.2 _ _ hx)))
 grind [RV]
theorem HO(hk:∀p∈ρ,p.2≠i)(ho:ag st.σ i=some ⟨t,l,some (.map es clock)⟩)(hi:∀e∈es,bB e.2.1):Wk P st ρ (.mref i) (.mp (es.map (·.1)) (es.map (·.2.1)) (es.map (·.2.2)) clock):=λcx a w β r v hv=>by
 obtain⟨b,C,hb,rfl⟩:=hv.mref_form;rcases r.ob i _ ho with⟨_,_,h3⟩|⟨b',x,o,h1,h2,h3,h4,h5⟩|⟨b',C',cur,h1,_⟩
 .grind
 .cases h1;have c:=hb;rw[h3] at hb;cases hb;obtain⟨ents,rfl,e2,e3⟩:=h5;have hav:=P5 r hk ho c;refine .imm _ _ (.mp _ _ _ _ _ ents hav (r.lt ho c) h4 (by simp[e2]) ?_ ?_ λj g e hg he=>?_)
  .apply List.ext_getElem?;grind
  .apply List.ext_getElem?;grind
  .rw[Mu,DQ] at hg;obtain⟨⟨k,f,n⟩,hj,rfl⟩:=hg;obtain⟨e',h6,h7,h8,h9⟩:=e3 j k f n hj;rw[he] at h6;cases h6;refine(hi _ (bO hj) _ _ _ _ h9).sub λb' _ hb'=>?_;rcases hb' with hb'|⟨m,h,d,C',_,h1',h2'⟩
   .exact .inl hb'
   .exact .inr ⟨h,d,C',h1',h2'⟩
 .cases h1
theorem HQ{st:St}:J6 P st ρ []:=λd=>FE
theorem NF{d:Nat}(h:Wk P st ρ (aD st.fr d) g)(hr:J6 P st ρ fr):J6 P st ρ ((d,g)::fr):=λi=>by
 rw[aO];split
 .subst_vars;exact h
 .exact hr i
def Xk(P:Bu)(st:St)(ρ:DH)(x c:QN):Prop:=∀cx a w β,Bx P cx st a w β->∀o,XO β (Av cx.S0 β st.σ) w x o->
 XO (λi=>(dq ρ i).bind β) (λb=>cx.S0 b\/∃i j ob C,dq ρ i=some j/\ag st.σ j=some ob/\β j=some (some (b,C))) w c o
def aak(P:Bu)(st:St)(ρ:DH):Option QN->Option QN->Prop
 |none,none=>True
 |some x,some x'=>Xk P st ρ x x'/\(x= .resv->x'= .resv)
 |_,_=>False
theorem SV{es':List (Value×G×Nat)}(hl:es'.length=es.length)(h:∀(j:Nat) (k k':Value) (g g':G) (n n':Nat),es[j]?=some (k,g,n)->es'[j]?=some (k',g',n')->k'=k/\n'=n/\Wk P st ρ g g'):Xk P st ρ (.map es clock) (.map es' clock):=λcx a w β r o ho=>by
 obtain⟨ents,h1,h2,h3⟩:=ho;refine⟨ents,h1,aa,λj k g n hj=>?_⟩;have hlt:=(cr hj).1;obtain⟨⟨b,g0,c⟩,hx⟩:∃q,es[j]?=some q:=by grind
 obtain⟨e,e1,e2,e3,e4⟩:=h3 j b g0 c hx;obtain⟨rfl,rfl,hw⟩:=h j b k g0 g c n hx hj;exact⟨e,e1,e2,e3,hw cx a w β r _ e4⟩
theorem P6{since last:Nat}{seen:Br}(h:dq ρ i=some j):Xk P st ρ (.iter (some j) since seen last) (.iter (some i) since seen last):=λcx a w β r o ho=>by
 obtain⟨c,h1,h2⟩:=ho;rcases h2 with⟨h2,_⟩|⟨d,b,C,h3,h4,h5⟩
 .cases h2
 .cases h3;exact⟨c,h1,(by grind)⟩
theorem P7{s:LoopState}{pe:Option Code}{fr':Fr}{ps:Array Tmp}{az9 bd:Code}(h:∀d,Wk P st ρ (aD fr d) (aD fr' d)):Xk P st ρ (.loop s pe n fr ps az9 bd) (.loop s pe n fr' ps az9 bd):=λcx a w β r o ho=>by obtain⟨fn,tmps,D,h1,h2,h3⟩:=ho;exact⟨fn,tmps,D,h1,h2,λj=>h j cx a w β r _ (h3 j)⟩
def Dp(P:Bu)(st:St)(ρ:DH)(σ:aQ):Prop:=∀i a,ag σ i=some a->∃j ob,dq ρ i=some j/\ag st.σ j=some ob/\a.t=ob.t/\a.l.length<=ob.l.length/\(ob.l=[]->a.l=[])/\(∀(k:Nat) (g g':G),ob.l[k]?=some g->a.l[k]?=some g'->Wk P st ρ g g')/\aak P st ρ ob.x a.x
theorem BT:Dp P st ρ []:=λi ob h=>by cases h
theorem xP{i j:Nat}{ob:Ob}{σ:aQ}(h1:dq ρ i=some j)(h2:ag st.σ j=some ob)(hx:ob.x=none)(ht:t=ob.t)(hl:l.length<=ob.l.length)(h:∀(k:Nat) (g g':G),ob.l[k]?=some g->l[k]?=some g'->Wk P st ρ g g')(hr:Dp P st ρ σ):Dp P st ρ ((i,some ⟨t,l,none⟩)::σ):=λk a hk=>by
 rw[A9] at hk;split at hk
 .cases hk;subst_vars;exact⟨j,ob,h1,h2,rfl,hl,λe=>(by simp_all),h,by rw[hx];trivial⟩
 .exact hr k a hk
theorem J8{ob:Ob}{x x':QN}{σ:aQ}(h1:dq ρ i=some j)(h2:ag st.σ j=some ob)(hx:ob.x=some x)(ht:t=ob.t)(h:Xk P st ρ x x')(hv:x≠ .resv)(hr:Dp P st ρ σ):Dp P st ρ ((i,some ⟨t,[],some x'⟩)::σ):=λk a hk=>by
 rw[A9] at hk;split at hk
 .cases hk;subst_vars;exact⟨j,ob,h1,h2,rfl,aC,λ_=>rfl,aC,by rw[hx];exact⟨h,(by grind)⟩⟩
 .exact hr k a hk
theorem P8(h:∀g∈l,bB g):∀(k:Nat) (g g':G),l[k]?=some g->l[k]?=some g'->Wk P st ρ g g':=by grind [ry]
theorem Bx.weaken{st st':St}(ρ:DH)(hn:st'.n=st.n)(hgl:st'.gl=st.gl)(hp:st'.p=st.p)(e:∀i,i<st.p->dq ρ i=some i)(hinj:∀i f j,dq ρ i=some j->dq ρ f=some j->i=f)(hc:∀p∈ρ,p.1<st'.c)(hfr:J6 P st ρ st'.fr)(hst:Dp P st ρ st'.σ)(hrr:st'.r=st.r){cx:Cx}{a:Act}{w:World}{β:Bm}(h:Bx P cx st a w β):Bx P cx st' a w (λi=>(dq ρ i).bind β):=by
 have hav:∀b,Av cx.S0 (λi=>(dq ρ i).bind β) st'.σ b->(cx.S0 b\/∃i j ob C,dq ρ i=some j/\ag st.σ j=some ob/\β j=some (some (b,C))):=by
  rintro b (hb|⟨i,d,C,h1,h2⟩)
  .exact .inl hb
  .obtain⟨j,ob,h3,h4,_⟩:=hst i d h1;grind
 have hbind:∀i b C,((dq ρ i).bind β)=some (some (b,C))->∃j,dq ρ i=some j/\β j=some (some (b,C)):=by grind [Gf]
 have same:∀i d,ag st'.σ i=some d->∀b C,((dq ρ i).bind β)=some (some (b,C))->∃j ob,dq ρ i=some j/\ag st.σ j=some ob/\β j=some (some (b,C)):=by intro i d hi b C hb;obtain⟨j,ob,h3,h4,_⟩:=hst i d hi;grind
 exact{
  size:=h.size.trans hn.symm
  defers:=h.defers
  loose:=h.loose
  rnd:=by grind
  fr:=λi=>(hfr i cx a w β h _ (h.fr i)).step (by grind) (by grind) (A3.refl _ _)
  ob:=λi d hi=>by
   obtain⟨j,ob,h3,h4,h5,h6,h7,h8,h9⟩:=hst i d hi;rcases h.ob j ob h4 with⟨e1,e2,e0⟩|⟨b,x,o,e0,e1,e2,e3,e4⟩|⟨b,C,cur,e0,e1,e2,e3,e4,e5,e6⟩
   .refine .inl ⟨by simp[h3,e1],h7 e2,?_⟩;rcases e0 with e0|e0
    .rw[e0] at h9;cases hx:d.x with
     |none=>exact .inl rfl
     |some x=>rw[hx] at h9;exact h9.elim
    .rw[e0] at h9;cases hx:d.x with
     |none=>grind
     |some x=>rw[hx] at h9;exact .inr (by rw[h9.2 rfl])
   .rw[e0] at h9;cases hx:d.x with
    |none=>rw[hx] at h9;exact h9.elim
    |some x'=>rw[hx] at h9;exact .inr (.inl ⟨b,x',o,hx,h7 e1,by simp[h3,e2],e3,(h9.1 cx a w β h o e4).step (by grind) (by grind) (A3.refl _ _)⟩)
   .have e0':d.x=none:=by
     rw[e0] at h9;cases hx:d.x with
     |none=>rfl
     |some x=>rw[hx] at h9;exact h9.elim
    refine .inr (.inr ⟨b,C,cur,e0',by simp[h3,e1],by grind,by grind,e4,aa,λk g hg'=>?_⟩);have hlt:=(cr hg').1;have hx:ob.l[k]?=some (ob.l[k]'aa):=by grind
    obtain⟨u,hu,h1',hr⟩:=e6 k _ hx;exact⟨u,hu,h1',(h8 k _ g hx hg' cx a w β h u hr).step (by grind) (by grind) (A3.refl _ _)⟩
  inj:=by grind
  own:=by grind
  sep:=by grind
  fresh:=by grind [dq]
  glob:=by grind [IV.sub]
  keep:=h.keep
  old:=h.old
  pin:=by grind}
theorem NG(ρ:DH)(hn:st'.n=st.n)(hgl:st'.gl=st.gl)(hp:st'.p=st.p)(b:∀i,i<st.p->dq ρ i=some i)(hinj:∀i d j,dq ρ i=some j->dq ρ d=some j->i=d)(hc:∀p∈ρ,p.1<st'.c)(hfr:J6 P st ρ st'.fr)(hst:Dp P st ρ st'.σ)(hrr:st'.r=st.r:=by rfl):Le P st st':=by rintro cx a w ⟨β,h⟩;exact⟨_,h.weaken ρ hn hgl hp b hinj hc hfr hst hrr⟩
end
section
variable {P:Bu} {rr:Bool}
def b8(P:Bu)(op:BinOp)(t:Bj)(x y:DC)(gx gy:G):Option G:=match cD gx,cD gy with
 |some u,some v=>(bt P (do eqGuard op t x y u v;binOp op t u v)).map db
 |_,_=>none
theorem dd{α β:Type}{p:Bu}:∀(s:Sem α) (f:α->Sem β),bt p (s>>=f)=(bt p s).bind λa=>bt p (f a)
 | .pure a,f=>rfl
 | .program k,f=>dd (k p) f
 | .load ..,f| .store ..,f| .new ..,f| .shape ..,f| .freeze ..,f| .frozen ..,f| .getObj ..,f| .setObj ..,f
 | .choose ..,f| .sys ..,f| .mark ..,f| .halt ..,f=>rfl
theorem rA{ρ:DC->G}{σ:aQ}{op:BinOp}:aX P ρ σ ⟨d,.binOp op t x y t',ty,pos,af,gd⟩=b8 P op t x y (ρ x) (ρ y):=by
 simp only[aX,gJ,b8];cases hx:cD (ρ x) with
 |none=>simp[Op.operands,hx]
 |some u=>
  cases hy:cD (ρ y) with
  |none=>simp[Op.operands,hx,hy]
  |some v=>
   simp only[Op.operands,execOp,hx,hy,Nt];rw[BB (by simp[hx,hy])];have e:=dd (p:=P) (do eqGuard op t x y u v;binOp op t u v:Sem Value) (λr=>(pure (Next.value r):Sem Next));rw[e];cases bt P (do eqGuard op t x y u v;binOp op t u v) with
   |none=>rfl
   |some r=>rfl
theorem bz{α:Type}{p:Bu}(a:α):bt p (pure a:Sem α)=some a:=rfl
section
variable {t:Bj} {x y:DC} {k:IntKind} {a b:Int}
theorem VM:b8 P .add t x y (.lit (.int k a)) (.lit (.int k b))=some (.lit (.int k (k.wrap (a+b)))):=by simp[b8,cD,eqGuard,binOp,Op.intArith,bz,db]
theorem VN:b8 P .sub t x y (.lit (.int k a)) (.lit (.int k b))=some (.lit (.int k (k.wrap (a-b)))):=by simp[b8,cD,eqGuard,binOp,Op.intArith,bz,db]
theorem VO:b8 P .mul t x y (.lit (.int k a)) (.lit (.int k b))=some (.lit (.int k (k.wrap (a*b)))):=by simp[b8,cD,eqGuard,binOp,Op.intArith,bz,db]
theorem VP:b8 P .lss t x y (.lit (.int k a)) (.lit (.int k b))=some (.lit (.bool (decide (a<b)))):=by simp[b8,cD,eqGuard,binOp,Op.intCmp,bz,db]
theorem VQ:b8 P .leq t x y (.lit (.int k a)) (.lit (.int k b))=some (.lit (.bool (decide (a<=b)))):=by simp[b8,cD,eqGuard,binOp,Op.intCmp,bz,db]
theorem VR:b8 P .gtr t x y (.lit (.int k a)) (.lit (.int k b))=some (.lit (.bool (decide (b<a)))):=by simp[b8,cD,eqGuard,binOp,Op.intCmp,bz,db]
theorem VS:b8 P .geq t x y (.lit (.int k a)) (.lit (.int k b))=some (.lit (.bool (decide (b<=a)))):=by simp[b8,cD,eqGuard,binOp,Op.intCmp,bz,db]
theorem VT:b8 P .eql t x y (.lit (.int k a)) (.lit (.int k b))=some (.lit (.bool (decide (a=b)))):=by
 have e:(a==b)=decide (a=b):=by rw[Bool.eq_iff_iff];simp
 simp[b8,cD,eqGuard,binOp,Op.intCmp,bz,db,<-e]
theorem VU:b8 P .neq t x y (.lit (.int k a)) (.lit (.int k b))=some (.lit (.bool (decide (a≠b)))):=by
 have e:(a !=b)=decide (a≠b):=by rw[Bool.eq_iff_iff];simp
 rw[<-e];simp[b8,cD,eqGuard,binOp,Op.intCmp,bz,db]
theorem VV(h:b≠0):b8 P .quo t x y (.lit (.int k a)) (.lit (.int k b))=some (.lit (.int k (k.wrap (a.tdiv b)))):=by simp[b8,cD,eqGuard,binOp,Op.intDiv,bz,db,h]
theorem VW(h:b≠0):b8 P .rem t x y (.lit (.int k a)) (.lit (.int k b))=some (.lit (.int k (a.tmod b))):=by simp[b8,cD,eqGuard,binOp,Op.intDiv,bz,db,h]
end
section
variable {ρ:DC->G} {σ:aQ} {d:Option Tmp} {ty t:Bj} {x y z:DC} {pos:String} {af:Array Edge} {gd:Option (Nat×Bool)} {n k:Nat}
def HS(k:Nat):G->Option G
 | .tup l=>l[k]?
 |_=>none
theorem J9:aX P ρ σ ⟨d,.extract x k,ty,pos,af,gd⟩=HS k (ρ x):=rfl
theorem Ka:aX P ρ σ ⟨d,.call {callee:= .builtin .len,args:= #[x],argTypes:= #[t]},ty,pos,af,gd⟩=if(dp P t).isSome then(HK (ρ x)).map λn=> .lit (.int .i64 n)else gJ P ρ ⟨d,.call {callee:= .builtin .len,args:= #[x],argTypes:= #[t]},ty,pos,af,gd⟩:=rfl
end
theorem w64{x:Int}(h: -9223372036854775808<=x/\x<=9223372036854775807):IntKind.i64.wrap x=x:=IntWalk.i64_in x h
theorem wu8{x:Int}(h:0<=x/\x<=255):IntKind.u8.wrap x=x:=IntWalk.u8_in x h
abbrev gB(b:Bool):G:= .lit (.bool b)
end
section
variable {P:Bu}
theorem SX{fn:Fn}{m:Bk}(hl:l'.length=l.length)(hm:m'.length=m.length)(h:∀(i:Nat) (g g':G),l[i]?=some g->l'[i]?=some g'->ve P st g g')(h':∀(i:Nat) (g g':G),m[i]?=some g->m'[i]?=some g'->ve P st g g'):ve P st (.clo fn l m) (.clo fn l' m'):=λcx a w β r v hv=>by
 obtain⟨fs,cs,rfl,h1,h2,h3,h4⟩:=hv.clo_form;refine .clo _ _ _ _ _ aa aa (λi g u hg hu=>?_) (λi g u hg hu=>?_)
 .have hlt:=(cr hg).1;have hx:l[i]?=some (l[i]'aa):=by grind
  exact h i _ g hx hg cx a w β r u (by grind)
 .have hlt:=(cr hg).1;have hx:m[i]?=some (m[i]'aa):=by grind
  exact h' i _ g hx hg cx a w β r u (by grind)
def GG(β:Bm)(σ:aQ)(b:Nat):Prop:=∃i ob C,ag σ i=some ob/\β i=some (some (b,C))
structure RS (P:Bu) (β:Bm) (S:Fu) (σ:aQ) (w:World):Prop where
 ob:∀i o,ag σ i=some o->RO P β (Av S β σ) w i o
 inj:∀i j o o' b C D,ag σ i=some o->ag σ j=some o'->β i=some (some (b,C))->β j=some (some (b,D))->i=j
 sep:∀i o b C,ag σ i=some o->β i=some (some (b,C))->¬S b
structure ZX (P:Bu) (w:World) (β:Bm) (S:Fu) (σ0:aQ) (p:Nat) (r:G) (σ1:aQ) (v:Value) (w':World) (β':Bm):Prop where
 pin:∀i,i<p->β' i=β i
 rs:RS P β' S σ1 w'
 old:∀b,GG β' σ1 b->GG β σ0 b\/w.heap.size<=b
 val:RV β' (Av S β' σ1) w' r v
 keep:A3 (GG β σ0) w w'
def OU(P:Bu)(gl:CC)(f:FuncId)(gs:Bk)(σ0:aQ)(c0 p:Nat)(r:G)(σ1:aQ):Prop:=
 ∀(w:World) (β:Bm) (S:Fu) (vs:Array Value),(∀b,S b->b<w.heap.size)->(∀i,c0<=i->β i=none)->Gls gl (Av S β σ0) w->RS P β S σ0 w->vs.size=gs.length->(∀(i:Nat) (g:G) (u:Value),gs[i]?=some g->vs[i]?=some u->RV β (Av S β σ0) w g u)->
  Calls P f vs w λe w'=>∃v a,e= .returned v/\ZX P w β S σ0 p r σ1 v w' a
def zE(P:Bu)(fn:Func)(r:G)(σ1:aQ)(e:Exit)(st:St):Prop:=
 (e= .normal\/e= .ret)/\∃gs ρ,fn.results.toList.mapM (jV P st)=some gs/\(∀i,i<st.p->dq ρ i=some i)/\(∀i a j,dq ρ i=some j->dq ρ a=some j->i=a)/\Wk P st ρ (iU gs) r/\Dp P st ρ σ1
theorem mP{fn:Func}{a':Act}{w':World}(hr:Bx P cx st' a' w' β){gs':Bk}(hgs:fn.results.toList.mapM (jV P st')=some gs'):∃v,(results fn a'.tmps).run P w'= .ok v w'/\RV β (Av cx.S0 β st'.σ) w' (iU gs') v:=by
 obtain⟨us,b,hl,a⟩:=BR hr _ _ hgs;refine⟨if h:us.toArray.size=1 then us.toArray[0]else .tuple us.toArray,?_,?_⟩
 .unfold results;rw[Array.mapM_eq_mapM_toList];simp only[E0,Sem.run_map];erw[b];rfl
 .match gs',us,hl,a with
  |[],[],_,_=>exact .tup _ _ rfl aC
  |[g],[u],_,a=>exact a 0 g u rfl rfl
  |g::g'::gr,u::u'::ur,hl,a=>exact .tup _ _ (by grind) (by grind)
theorem Ee{fn:Func}{c:Code}{σ0 σ1:aQ}{c0 p:Nat}{r:G}(hf:P.funcs[f]?=some fn)(hb:fn.body=some c)(hn:gs.length<=fn.ntmps)(hp:∀i,i<p->∃ob,ag σ0 i=some ob)(h:Tr P c ⟨fn.ntmps,gl,bQ 0 gs,σ0,c0,p,false⟩ (zE P fn r σ1)):OU P gl f gs σ0 c0 p r σ1:=by
 intro w β S vs hS hβ hG hR hsz s;have hlive:∀i o,ag σ0 i=some o->∃x,β i=some x:=by grind [RS,RO.at]
 refine rq (cx:=⟨w,GG β σ0,S,λi=>if i<p then β i else none,Fence.wide,9⟩) hf hb h rfl rfl ⟨β,?_⟩ ?_
 .constructor<;>try grind [D7.nil,lP,RS.ob,RS.inj,RS.sep,A3.refl]
  .exact λ_=>rfl
  .exact λi=>by
    show RV _ _ w (aD (bQ 0 gs) i) _;rw[px];simp only[Nat.zero_le,if_true,Nat.sub_zero];cases hg:gs[i]? with
    |none=>exact .junk _
    |some g=>
     have hlt:=(cr hg).1;have hu:vs[i]?=some (vs[i]'aa):=by grind
     have e:(vs++Array.replicate (fn.ntmps-vs.size) undef).getD i undef=vs[i]'aa:=by rw[Array.getD_eq_getD_getElem?,Array.getElem?_append_left aa,hu];rfl
     grind
  .exact λi o b C ho hb=> .inl ⟨i,o,C,ho,hb⟩
  .exact hG
 .rintro e st' a' w' ⟨he,t,ρ,hgs,d,hinj,hw,hst⟩ ⟨l,hr⟩;obtain⟨v,hres,hv⟩:=mP hr hgs;have hp':∀i,i<p->i<st'.p/\l i=β i:=by grind
  obtain⟨c',k⟩:∃c',∀q∈ρ,q.1<c':=by refine⟨(ρ.map (·.1)).foldr (λa b=>max (a+1) b) 0,λq hq=>?_⟩;clear hinj hw hst d;induction ρ<;>grind
  have hw':=Bx.weaken (st:=st') (st':=⟨st'.n,st'.gl,[],σ1,c',st'.p,st'.r⟩) ρ rfl rfl rfl d hinj k HQ hst rfl hr;have hpost:ZX P w β S σ0 p r σ1 v w' (λi=>(dq ρ i).bind l):={
   pin:=by grind
   rs:=⟨hw'.ob,hw'.inj,hw'.sep⟩
   old:=by rintro b ⟨i,ob,C,ho,hb⟩;grind
   val:=(hw _ _ _ l hr v hv).step (by grind) (λb _ hb=>by
    rcases hb with hb|⟨i,m,C,h1,h2⟩
    .exact .inl hb
    .obtain⟨j,ob,h3,h4,_⟩:=hst i m h1;grind) (A3.refl _ _)
   keep:=hr.keep}
  grind
def Vw(P:Bu)(st:St)(ρ:DH)(L:Br)(g c:G):Prop:=∀cx a w β,Bx P cx st a w β->∀v,RV β (Av cx.S0 β st.σ) w g v->
 RV (λi=>(dq ρ i).bind β) (λb=>cx.S0 b\/∃i ob C,ag st.σ i=some ob/\β i=some (some (b,C))/\i∉L) w c v
theorem FG(h:bB g):Vw P st ρ L g g:=λcx a w β r v hv=> .imm _ _ ((h _ _ _ _ hv).sub (by grind))
theorem VY{i j o n:Nat}(h:dq ρ i=some j):Vw P st ρ L (.rsl j o n) (.rsl i o n):=λcx a w β r v hv=>by grind [RV.rsl_form,RV]
def SY(P:Bu)(st:St)(ρ:DH)(L:Br)(σ0:aQ):Prop:=∀i a,ag σ0 i=some a->∃j ob,dq ρ i=some j/\j∉L/\ag st.σ j=some ob/\a.t=ob.t/\a.l.length<=ob.l.length/\(ob.l=[]->a.l=[])/\(ob.x=none/\a.x=none)/\∀(k:Nat) (g g':G),ob.l[k]?=some g->a.l[k]?=some g'->Vw P st ρ L g g'
theorem BY:SY P st ρ L []:=λi ob h=>by cases h
theorem NH{i j:Nat}{ob:Ob}{σ:aQ}(h1:dq ρ i=some j)(hL:j∉L)(h2:ag st.σ j=some ob)(hx:ob.x=none)(ht:t=ob.t)(hl:l.length<=ob.l.length)(h:∀(k:Nat) (g g':G),ob.l[k]?=some g->l[k]?=some g'->Vw P st ρ L g g')(hr:SY P st ρ L σ):SY P st ρ L ((i,some ⟨t,l,none⟩)::σ):=λk a hk=>by
 rw[A9] at hk;split at hk
 .cases hk;subst_vars;exact⟨j,ob,h1,hL,h2,rfl,hl,λe=>(by simp_all),⟨hx,rfl⟩,h⟩
 .exact hr k a hk
def Rn(ρ:DH)(g a:G):Prop:=∀(β β1:Bm) (S:Fu) w v,RV β1 S w g v->RV (λk=>match dq ρ k with|some i=>β1 i|none=>β k) S w a v
theorem FH(h:bB g):Rn ρ g g:=λβ a S w v hv=> .imm _ _ (h _ _ _ _ hv)
theorem BZ{k o:Nat}(h:dq ρ k=some i):Rn ρ (.rsl i o n) (.rsl k o n):=λβ a S w v hv=>by grind [RV.rsl_form,RV]
theorem VZ(hl:l'.length=l.length)(h:∀(i:Nat) (g g':G),l[i]?=some g->l'[i]?=some g'->Rn ρ g g'):Rn ρ (.agg l) (.agg l'):=λβ a S w v hv=>by
 obtain⟨us,rfl,h2,h1,hr⟩:=hv.agg_form;refine .agg _ _ aa h1 λi g u hg hu=>?_;have hlt:=(cr hg).1;have hx:l[i]?=some (l[i]'aa):=by grind
 exact h i _ g hx hg β a S w u (by grind)
def aam(st:St)(c b:DH)(L:Br)(σ1 σ':aQ):Prop:=∀k a,ag σ' k=some a->
 (∃i ob,dq b k=some i/\ag σ1 i=some ob/\a.t=ob.t/\a.l.length<=ob.l.length/\(ob.l=[]->a.l=[])/\(ob.x=none/\a.x=none)/\∀(x:Nat) (g g':G),ob.l[x]?=some g->a.l[x]?=some g'->Rn b g g')\/
 (dq b k=none/\ag st.σ k=some a/\k∉c.map (·.2)/\k∉L)
theorem Mc(h:dq ρ i=some j):j∈ρ.map (·.2):=by grind [dq,List.lookup_eq_some_iff]
theorem fj{i j:Nat}(h:dq ρ i=some j):(i,j)∈ρ:=by grind [dq,List.lookup_eq_some_iff]
theorem B1{f:DC}{fst cap gs:Bk}{r r':G}{σ0 σ1 σ':aQ}{c0 p c':Nat}(s m:DH)(L:Br)
  (ho:o.op= .call {callee:= .value f,args:=xs,argTypes:=ats}) (hd:LV o st.n) (hf:aB st f= .clo (.func fid) fst cap) (hc:aK P fid=true)
  (hF:OU P st.gl fid gs σ0 c0 p r σ1) (hl:gs.length=(fst++xs.toList.map (aB st)++cap).length) (hi:∀(i:Nat) (g B:G),(fst++xs.toList.map (aB st)++cap)[i]?=some g->gs[i]?=some B->Vw P st s L g B)
  (W:∀i F j,dq s i=some j->dq s F=some j->i=F) (hc0:∀q∈s,q.1<c0) (t:SY P st s L σ0)
  (hcc:st.c<=c') (Y:∀k i,dq m k=some i->k<st.c->i<p/\dq s i=some k) (X:∀k k' i,dq m k=some i->dq m k'=some i->k=k') (J:∀q∈m,q.1<c') (I:aam st s m L σ1 σ') (hr:Rn m r r'):
  GS P o st ({st with σ:=σ',c:=c'}.put o.dst r'):=by
 intro cx a w K R ⟨β,h⟩ hK
 obtain⟨vs,hrun,hsz,hv⟩:=lQ h ho hf hc
 refine h.loose.oper (λc hc=>by rw[ho] at hc;cases hc) ?_
 unfold Oper.wp
 rw[hrun]
 let βc:Bm:=λi=>(dq s i).bind β
 let S:Fu:=λb=>cx.S0 b\/∃i ob C,ag st.σ i=some ob/\β i=some (some (b,C))/\i∉s.map (·.2)/\i∉L
 have hlivc:∀b,GG βc σ0 b->∃j ob C,j∈s.map (·.2)/\j∉L/\ag st.σ j=some ob/\β j=some (some (b,C)):=by rintro b ⟨i,d,C,h1,h2⟩;obtain⟨j,ob,h3,h4,h5,_⟩:=t i d h1;grind [Mc]
 have hsub:∀b,Av S βc σ0 b->cx.S0 b\/∃i ob C,ag st.σ i=some ob/\β i=some (some (b,C))/\i∉L:=by
  rintro b ((hb|⟨i,ob,C,h1,h2,_,h3⟩)|hb)
  .exact .inl hb
  .grind
  .obtain⟨j,ob,C,_,h2,h3,h4⟩:=hlivc b hb;grind
 have hsubA:∀b,Av S βc σ0 b->Av cx.S0 β st.σ b:=by grind
 have hSlt:∀b,S b->b<w.heap.size:=by grind [Bx.lt]
 have hRS:RS P βc S σ0 w:={
  ob:=λi d h1=>by
   obtain⟨j,ob,h3,h4,h5,h6,h7,h8,⟨N,hx2⟩,h9⟩:=t i d h1;rcases h.ob j ob h5 with⟨e1,e2,_⟩|⟨b,x',o',hx',_⟩|⟨b,C,cur,_,e1,e2,e3,e4,e5,e6⟩
   .exact .inl ⟨by show(dq s i).bind β=_;rw[h3];exact e1,h8 e2,.inl hx2⟩
   .grind
   .refine .inr (.inr ⟨b,C,cur,hx2,by grind,by grind,by grind,e4,aa,λk B hg'=>?_⟩);have hlt:=(cr hg').1;have hx:ob.l[k]?=some (ob.l[k]'aa):=by grind
    obtain⟨u,hu,h1',hr⟩:=e6 k _ hx;exact⟨u,hu,h1',(h9 k _ B hx hg' cx a w β h u hr).step (λ_ _ x=>x) (λb _ hb=>hsub b hb) (A3.refl _ _)⟩
  inj:=λi F y O b C D h1 h2 h3 h4=>by obtain⟨j,ob,e1,_,e3,_⟩:=t i y h1;obtain⟨j',d,f1,_,H,_⟩:=t F O h2;grind
  sep:=λi y b C h1 h2 hb=>by obtain⟨j,ob,e1,e2,e3,_⟩:=t i y h1;grind [Mc]}
 refine(hF w βc S vs hSlt (λi hi=>?_) (λg l hl=>(h.glob g l hl).sub λb _ hb=>hsubA b hb) hRS aa (λi g u hg hu=>?_)).mono ?_
 .grind [dq]
 .have hlt:=(cr hg).1
  have hx:(fst++xs.toList.map (aB st)++cap)[i]?=some ((fst++xs.toList.map (aB st)++cap)[i]'aa):=by rw[EA]
  exact(hi i _ g hx hg cx a w β h u (hv i _ u hx hu)).step (λ_ _ x=>x) (λb _ hb=>hsub b hb) (A3.refl _ _)
 .rintro e w' ⟨v,z,rfl,M⟩
  refine hK _ _ ⟨λk=>match dq m k with|some i=>z i|none=>β k,?_⟩
  have hext:∀k x,β k=some x->(match dq m k with|some i=>z i|none=>β k)=some x:=by grind [ZX.pin]
  have hkp:A3 (Av cx.S0 β st.σ) w w':=M.keep.mono λb _ hb=>by obtain⟨j,ob,C,_,_,h3,h4⟩:=hlivc b hb;exact .inr ⟨j,ob,C,h3,h4⟩
  have hnew:∀k d b C,ag σ' k=some d->(match dq m k with|some i=>z i|none=>β k)=some (some (b,C))->
    (∃i ob,dq m k=some i/\ag σ1 i=some ob/\z i=some (some (b,C)))\/(dq m k=none/\ag st.σ k=some d/\k∉s.map (·.2)/\k∉L/\β k=some (some (b,C))):=by
   intro k d b C hk hb
   rcases I k d hk with⟨i,ob,h1,h2,_⟩|⟨h1,h2,h3,h4⟩
   all_goals grind
  have hAv:∀b,Av cx.S0 (λk=>match dq m k with|some i=>z i|none=>β k) σ' b->Av S z σ1 b:=by grind
  have hAo:∀b,b<w.heap.size->Av cx.S0 (λk=>match dq m k with|some i=>z i|none=>β k) σ' b->Av cx.S0 β st.σ b:=by
   intro b hlt hb;rcases hAv b hb with(hb|⟨i,ob,C,h1,h2,_⟩)|hb
   .exact .inl hb
   .grind
   .rcases M.old b hb with hb|hb
    all_goals grind
  have hmid:Bx P cx {st with σ:=σ',c:=c'} a w' (λk=>match dq m k with|some i=>z i|none=>β k):={
   size:=h.size
   defers:=h.defers.keep M.keep (λD hD hx=>by obtain⟨j,ob,C,_,_,h3,h4⟩:=hlivc D hx;exact h.not_marks h3 h4 hD)
   loose:=h.loose
   rnd:=h.rnd
   fr:=λi=>(h.fr i).step hext hAo hkp
   ob:=λk d hk=>by
    rcases I k d hk with⟨i,ob,h1,h2,h3,h4,h5,h6⟩|⟨h1,h2,h3,h4⟩
    .obtain⟨⟨N,hx2⟩,h6⟩:=h6;rcases M.rs.ob i ob h2 with⟨e1,e2,_⟩|⟨b,x',o',hx',_⟩|⟨b,C,cur,_,e1,e2,e3,e4,e5,e6⟩
     .exact .inl ⟨by simp only[h1];exact e1,h5 e2,.inl hx2⟩
     .grind
     .refine .inr (.inr ⟨b,C,cur,hx2,by grind,by grind,by grind,e4,aa,λx B hg'=>?_⟩);have hlt:=(cr hg').1;have hx:ob.l[x]?=some (ob.l[x]'aa):=by grind
      obtain⟨u,hu,h1',Q⟩:=e6 x _ hx;exact⟨u,hu,h1',(h6 x _ B hx hg' β z _ _ u Q).step (λ_ _ x=>x) (λb _ hb=>hAv b hb) (A3.refl _ _)⟩
    .refine(h.ob k d h2).step hext hAo hkp (λb C hb=>M.keep.block b (h.lt h2 hb) (λhx=>?_));obtain⟨j,ob,D,f1,_,H,Z⟩:=hlivc b hx;have:=h.inj j k ob d b D C H h2 Z hb;subst this;exact h3 f1
   inj:=λk k' y O b C D h1 h2 h3 h4=>by
    rcases hnew k y b C h1 h3 with⟨i,ob,e1,e2,e3⟩|⟨e1,e2,e3,e4,e5⟩<;>rcases hnew k' O b D h2 h4 with⟨F,d,f1,f2,H⟩|⟨f1,f2,H,Z,f5⟩
    .grind [ZX,RS.inj]
    .exfalso;rcases M.old b ⟨i,ob,C,e2,e3⟩ with hb|hb
     .obtain⟨j,A,E,g1,_,U,V⟩:=hlivc b hb;grind [Bx.inj]
     grind
    .exfalso;rcases M.old b ⟨F,d,D,f2,H⟩ with hb|hb
     .obtain⟨j,A,E,g1,_,U,V⟩:=hlivc b hb;grind [Bx.inj]
     grind
    grind
   own:=λk y b C h1 h3=>by
    rcases hnew k y b C h1 h3 with⟨i,ob,e1,e2,e3⟩|⟨e1,e2,e3,e4,e5⟩
    .rcases M.old b ⟨i,ob,C,e2,e3⟩ with hb|hb
     all_goals grind
    grind
   sep:=λk y b C h1 h3=>by
    rcases hnew k y b C h1 h3 with⟨i,ob,e1,e2,e3⟩|⟨e1,e2,e3,e4,e5⟩
    .exact λhx=>M.rs.sep i ob b C e2 e3 (.inl hx)
    .exact h.sep k y b C e2 e5
   fresh:=λk hk=>by
    have hk':c'<=k:=hk;cases hr1:dq m k with
    |none=>simp only[];exact h.fresh k aa
    |some i=>have:=J _ (fj hr1);simp at this;omega
   glob:=λg l hl=>(h.glob g l hl).step hAo hkp
   keep:=h.keep.then M.keep (λb hb hx=>by
    obtain⟨j,A,E,g1,_,U,V⟩:=hlivc b hx;rcases h.own j A b E U V with h1|h1
    .exact h1
    .omega)
   old:=h.old
   pin:=λi x hx=>⟨(h.pin i x hx).1,hext i x (h.pin i x hx).2⟩}
  exact hmid.put o.dst hd ((hr β z _ _ v M.val).step (λ_ _ x=>x) (λb _ hb=>hAv b hb) (A3.refl _ _))
end
section
variable {P:Bu} {rr:Bool}
theorem uI(w:World)(t u ty e:Bj)(i:TypeInfo)(ht:P.underlying t=some (.slice e))(hu:P.underlying u=some .string)(hi:P.info? e=some i)(hz:i.zero=some (.int .u8 0))
  (hsize:i.size=1) (hby:i.bytes=1) (v:Value) (n:Nat) (xs:List Value) (hown:w.ownsRow 0 e 1 v n xs) (s:ByteArray) (b:n+s.size<=maxLen) (a:n+s.size<=140737488355328):
  ∃v' w',(Builtin.append_ #[t,u] ty #[v,.string s]).run P w= .ok v' w'/\w'.ownsRow 0 e 1 v' (n+s.size) (xs++strCells s)/\w.grownBy w' v.ownBlock/\(v'.ownBlock=v.ownBlock\/v'.ownBlock=some w.heap.size):=by
 obtain⟨v',w',hrun,ho,hg,k⟩:=run_append_own_string (P:=P) w 0 t u ty e i ht hu hi hz hsize hby v n xs hown s b a (Nat.zero_le _)
 refine⟨v',w',hrun,ho,hg,?_⟩
 have hsmall:n+s.size<=9223372036854775807:=by grind
 have hxl:xs.length=n:=by simpa using hown.1
 rcases hown.2 with⟨rfl,rfl⟩|⟨g,cap,cur,rfl,l,f,m,hcm,hcs,h⟩
 .by_cases hm:s.size=0
  .grind
  .have hr:=run_append_nil_string (P:=P) w t u ty e i (.int .u8 0) ht hu hi hz s aa aa (by rw[hby];omega)
   rw[hrun] at hr
   injection hr with e1 e2
   subst e1
   right;rfl
 .by_cases hroom:n+s.size<=cap
  .have hcs':cur.size=cap:=by grind
   have hr:=run_append_room_string (P:=P) w t u ty e i ht hu hi hsize g n cap cur f s hroom aa
   rw[hrun] at hr
   injection hr with e1 e2
   subst e1
   left;rfl
  .have holds:∀j u,xs[j]?=some u->w.cell? ((⟨g,0,none⟩:Addr).add j)=some u:=hown.cells (g:=g) rfl
   have hr:=run_append_grow_string (P:=P) w t u ty e i (.int .u8 0) ht hu hi hz ⟨g,0,none⟩ n cap xs (by rw[hsize];simpa using hxl) holds s aa aa (by rw[hby];exact growslice_fits aa aa)
   rw[hrun] at hr
   injection hr with e1 e2
   subst e1
   right;rfl
def xR(P:Bu)(t:Bj):Option IntKind:=(P.underlying t).bind fun| .int k=>some k|_=>none
def nu(P:Bu)(t:Bj):Bool:=(P.underlying t) matches some .string
theorem oo(h:xR P t=some k):P.underlying t=some (.int k):=by grind [xR,Gf]
theorem oq(h:nu P t=true):P.underlying t=some .string:=by grind [nu]
abbrev gY(b:UInt8):G:= .lit (.int .u8 (b.toNat:Int))
def Kb(l:CY):G:= .sl (l.map gY) l.length
theorem Kc{pl:Fq}{s:CY}(ho:o.op= .call {callee:= .builtin .append,args:= #[x,y],argTypes:= #[t,u]})(hd:LV o st.n)
  (he:dp P t=some e) (hu:nu P u=true) (hs:bw P e=some 1) (hz:(P.info? e).bind (·.zero)=some (.int .u8 0)) (hby:(P.info? e).map (·.bytes)=some 1)
  (hx:xO st.σ st.c e 1 (aB st x)=some (i,n,l)) (hy:aB st y= .lit (.string ⟨s.toArray⟩)) (f:n+s.length<=140737488355328) (hpl:zB st pl):
  GS P o st ({st with σ:=(iT st pl,some ⟨e,l++s.map gY,none⟩)::(i,none)::st.σ,c:=ZS st pl}.put o.dst (.rsl (iT st pl) 0 (n+s.length))):=by
 intro cx a w K R ⟨β,h⟩ q
 obtain⟨g,hi⟩:∃g,P.info? e=some g:=by
  cases hi:P.info? e with
  |none=>rw[hi] at hz;cases hz
  |some g=>exact⟨g,rfl⟩
 have ht:=cE he
 have hsize:g.size=1:=by simp[bw,hi] at hs;exact hs
 have hbytes':g.bytes=1:=by rw[hi] at hby;simpa using hby
 have hz':g.zero=some (.int .u8 0):=by rw[hi] at hz;simpa using hz
 have hyv:a.eval y= .string ⟨s.toArray⟩:=by have:=h.ev y;rw[hy] at this;exact this.lit_eq
 have hsz:(⟨s.toArray⟩:ByteArray).size=s.length:=by simp[ByteArray.size]
 have hsc:strCells ⟨s.toArray⟩=s.map λb=>Value.int .u8 (b.toNat:Int):=by simp[strCells]
 have hnr:Rw β (Av cx.S0 β st.σ) w (s.map gY) (s.map λb=>Value.int .u8 (b.toNat:Int)):=by
  have:=Rw.lits (β:=β) (S:=Av cx.S0 β st.σ) (w:=w) (zs:=s.map λb=>Value.int .u8 (b.toNat:Int)) (λv hv=>by simp only[EO] at hv;obtain⟨b,_,rfl⟩:=hv;rfl)
  rw[Hk] at this;exact this
 obtain⟨v',w',hrun,k⟩:=yP h hs (h.ev x) hx aC hnr (m:=s.length) (X:=λv' w'=>(execOp a.eval o).run P w= .ok (.value v') w') (λv' w' hr=>Ep _ _ _ _ _ hr) (λxs hown=>by obtain⟨v',w',j,h2,h3,h4⟩:=uI (P:=P) w t u o.type e g ht (oq hu) hi hz' hsize hbytes' (a.eval x) n xs hown ⟨s.toArray⟩ (by rw[hsz];unfold maxLen;omega) (by rw[hsz];exact f);rw[hsz,hsc] at h2;refine⟨v',w',?_,h2,h3,h4⟩;unfold execOp;simp only[ho,resolve,invoke,builtin,E0,HA,E1,List.map_toArray,Fi,List.map_nil,hyv,j]) hd hpl
 refine h.loose.oper (λc hc=>by rw[ho] at hc;cases hc) ?_
 unfold Oper.wp
 rw[hrun]
 exact q _ _ k
theorem Kd{s:CY}(ho:o.op= .convert t u x)(hd:LV o st.n)(hs:nu P t=true)(hu:dp P u=some e)(he:xR P e=some .u8)(hx:aB st x= .lit (.string ⟨s.toArray⟩))(hl:s.length<=maxLen):
  GS P o st (st.put o.dst (Kb s)):=by
 intro cx a w K R ⟨β,h⟩ f
 have hv:a.eval x= .string ⟨s.toArray⟩:=by have:=h.ev x;grind [RV.lit_eq]
 have hsz:(⟨s.toArray⟩:ByteArray).size=s.length:=by simp[ByteArray.size]
 have hr:=run_bytes_of_string (P:=P) w t u e ⟨s.toArray⟩ (oq hs) (cE hu) (oo he)
 have hrun:(execOp a.eval o).run P w= .ok (.value (.slice (some ⟨w.heap.size,0,none⟩) s.length (grownCap w s.length 0 e))) (w.drew.alloc (.cells (bytesRow ⟨s.toArray⟩ (grownCap w s.length 0 e)) e ((bytesRow ⟨s.toArray⟩ (grownCap w s.length 0 e)).size,(bytesRow ⟨s.toArray⟩ (grownCap w s.length 0 e)).size+1))):=by grind [execOp,E0,E1,HA]
 refine h.loose.oper (by grind) ?_
 unfold Oper.wp
 rw[hrun]
 have hk:A3 (λ_=>False) w (w.drew.alloc (.cells (bytesRow ⟨s.toArray⟩ (grownCap w s.length 0 e)) e ((bytesRow ⟨s.toArray⟩ (grownCap w s.length 0 e)).size,(bytesRow ⟨s.toArray⟩ (grownCap w s.length 0 e)).size+1))):=((A3.refl _ _).drew).alloc _
 refine f _ _ ⟨β,(h.world hk).put o.dst hd (.imm _ _ ?_)⟩
 have hAv:¬Av cx.S0 β st.σ w.heap.size:=by
  rintro(hb|⟨i,ob,C,h1,h2⟩)
  .grind
  .have:=h.lt h1 h2;omega
 have hmap:∀(i:Nat) (hi:i<s.length),(bytesRow ⟨s.toArray⟩ (grownCap w s.length 0 e))[i]?=some (.int .u8 ((s.getD i 0).toNat:Int)):=by grind [bytesRow]
 refine .sl _ _ _ _ (λi=> .int .u8 ((s.getD i 0).toNat:Int)) (grownCap_ge w s.length 0 e) (grownCap_le_maxLen w s.length 0 e hl) (λi hi=>⟨w.heap.size,0,rfl,hAv,aC,?_⟩) (λ_ _=>rfl) (λi g hg=>?_)
 .have hi':i<s.length:=by grind
  have:=World.cell?_alloc_mark w.drew (bytesRow ⟨s.toArray⟩ (grownCap w s.length 0 e)) e ((bytesRow ⟨s.toArray⟩ (grownCap w s.length 0 e)).size,(bytesRow ⟨s.toArray⟩ (grownCap w s.length 0 e)).size+1) (0+i)
  simp_all
 .rw[Mu] at hg
  obtain⟨b,hb,rfl⟩:=DQ.1 hg
  have:s.getD i 0=b:=by grind
  rw[this]
  exact .lit _
theorem HT{s:CY}(ho:o.op= .convert t u x)(hd:LV o st.n)(ht:dp P t=some e)(he:xR P e=some .u8)(hu:nu P u=true)(hx:fO st.σ 1 (aB st x)=some (s.map gY,s.length)):GS P o st (st.put o.dst (.lit (.string ⟨s.toArray⟩))):=by
 intro cx a w K R ⟨β,h⟩ k;obtain⟨A,c,f,hv,hnl,hnr,g⟩:=xN h (h.ev x) hx;have hns:f=s.map λb=>Value.int .u8 (b.toNat:Int):=by
  apply List.ext_getElem?;intro i;by_cases hi:i<s.length
  .have h1:f[i]?=some (f[i]'(by rw[hnl];omega)):=EA _;have:=hnr.2.2 i (gY s[i]) _ (by simp[hi]) h1;grind [RV.lit_eq]
  grind
 have hconv:(convert t u (.slice A s.length c)).run P w= .ok (.string ⟨s.toArray⟩) w:=by
  cases A with
  |none=>
   have h0:s=[]:=by
    cases s with
    |nil=>rfl
    |cons b r=>obtain⟨a',ha,_⟩:=g 0 (.int .u8 (b.toNat:Int)) (by rw[hns];rfl);cases ha
   subst h0;rw[run_convert_bytes_string w t u e none _ c (cE ht) (oo he) (oq hu)];simp[Conv.bytesToString];rfl
  |some a0=>refine run_convert_bytes_back w t u e a0 c s (cE ht) (oo he) (oq hu) (λj hj=>?_);obtain⟨a',ha,hc⟩:=g j (.int .u8 (s[j].toNat:Int)) (by rw[hns];simp[hj]);cases ha;exact hc
 have hrun:(execOp a.eval o).run P w= .ok (.value (.string ⟨s.toArray⟩)) w:=by grind [execOp,E0,E1,HA]
 refine h.loose.oper (λc hc=>by rw[ho] at hc;cases hc) ?_;unfold Oper.wp;rw[hrun];exact k _ _ ⟨β,h.put o.dst hd (.imm _ _ (.lit _))⟩
theorem jq{d:TypeDesc}(h:P.underlying t=some d):bt P (underlying t)=some d:=by unfold underlying;show bt P (match P.underlying t with|some d=>pure d|none=>stuck "no such type")=_;rw[h];rfl
theorem SZ{ρ:DC->G}{σ:aQ}{s:Bj}{a:IntKind}{n:Int}(hx:ρ x= .lit (.int k n))(hs:xR P s=some a)(ht:xR P t=some k'):aX P ρ σ ⟨d,.convert s t x,ty,pos,af,gd⟩=some (.lit (.int k' (k'.wrap n))):=by
 have h1:=oo hs;have h2:=oo ht;have hc:bt P (convert s t (.int k n))=some (.int k' (k'.wrap n)):=by unfold convert;rw[dd,jq h1,aL,dd,jq h2,aL];rfl
 simp only[aX,gJ];rw[BB (by simp[Op.operands,hx,cD])];simp only[execOp,hx,cD,Nt];have e:=dd (p:=P) (convert s t (.int k n)) (λr=>(pure (Next.value r):Sem Next));rw[e,hc];rfl
theorem V0{ρ:DC->G}{σ:aQ}{m n:Int}(hx:ρ x= .lit (.int k m))(hy:ρ y= .lit (.int k' n)):
  aX P ρ σ ⟨d,.call {callee:= .builtin .min,args:= #[x,y],argTypes:=ats},ty,pos,af,gd⟩=some (.lit (.int k (if n<m then n else m))):=by
 simp only[aX,gJ]
 rw[BB (by simp[Op.operands,Call.operands,hx,hy,cD])]
 simp only[execOp,resolve,hx,hy,cD,Nt,List.map_toArray,Fi,List.map_nil]
 rfl
theorem V1{ρ:DC->G}{σ:aQ}{m n:Int}(hx:ρ x= .lit (.int k m))(hy:ρ y= .lit (.int k' n)):
  aX P ρ σ ⟨d,.call {callee:= .builtin .max,args:= #[x,y],argTypes:=ats},ty,pos,af,gd⟩=some (.lit (.int k (if n>m then n else m))):=by
 simp only[aX,gJ]
 rw[BB (by simp[Op.operands,Call.operands,hx,hy,cD])]
 simp only[execOp,resolve,hx,hy,cD,Nt,List.map_toArray,Fi,List.map_nil]
 rfl
theorem S3{ρ:DC->G}{σ:aQ}{s:ByteArray}(hx:ρ x= .lit (.string s))(ht:nu P t=true):
  aX P ρ σ ⟨d,.call {callee:= .builtin .len,args:= #[x],argTypes:= #[t]},ty,pos,af,gd⟩=some (.lit (.int .i64 s.size)):=by
 have h1:=oq ht
 have he:dp P t=none:=by simp[dp,h1]
 rw[Ka,he]
 simp only[Option.isSome_none,Bool.false_eq_true,if_false,gJ]
 rw[BB (by simp[Op.operands,Call.operands,hx,cD])]
 have hl:bt P (Builtin.len_ #[t] ty #[.string s])=some (.int .i64 s.size):=by unfold Builtin.len_;show bt P (underlying t>>=_)=_;rw[dd,jq h1,aL];rfl
 simp only[execOp,resolve,hx,cD,Nt,List.map_toArray,Fi,List.map_nil,invoke,builtin]
 have e:=dd (p:=P) (Builtin.len_ #[t] ty #[.string s]) (λr=>(pure (Next.value r):Sem Next))
 show(match bt P (Builtin.len_ #[t] ty #[.string s]>>=λr=>(pure (Next.value r):Sem Next)) with|some (.value v)=>some (db v)|_=>none)=_
 rw[e,hl]
 rfl
section
variable {ops:Array Oper} {K:St->Prop} {ty:Bj} {pos:String} {af:Array Edge} {rest:HE} {n:Nat} {gl:CC} {fr:Fr} {σ:aQ} {c p d fid:Nat} {xs:Array DC} {ats:Array Bj}
def iV(P:Bu)(gl:CC)(f:FuncId)(gs:Bk)(t:Bj)(n:Nat)(l:Bk):Prop:=OU P gl f gs [] 0 0 (.rsl 0 0 n) [(0,some ⟨t,l,none⟩)]
end
def Yd(P:Bu)(t:Bj)(m:Nat)(a:List (Nat×G)):Option (Bj×Bk):=
 (dp P t).bind λe=>(bw P e).bind λs=>(jj P e).bind λzs=>if zs.length=s/\m*s<=16777216/\m<=1000000 then(R2 (λi=>some (i*s,s)) ((bN zs (m*s)).map .lit) a).map λl=>(e,l)else none
theorem P9{pl:Fq}(ho:o.op= .buildSlice t m parts)(hd:LV o st.n)(hg:Yd P t m (parts.toList.map λp=>(p.1,aB st p.2))=some (e,l))(hpl:zB st pl):GS P o st (st.newP pl o.dst e l (.rsl (iT st pl) 0 m)):=by
 simp only[Yd,Gf] at hg;obtain⟨e',he,s,hs,zs,hz,hg⟩:=hg;split at hg
 .rename_i hc;simp only[DQ,Ft] at hg;obtain⟨a,hl,rfl,rfl⟩:=hg;exact BP ho hd he hs hz hc.1 hc.2.1 hc.2.2 hl hpl
 .cases hg
def wu(P:Bu)(σ:aQ)(c:Nat)(t:Bj)(gx gy:G):Option (Bj×Nat×Nat×Bk):=
 (
  dp P t).bind λe=>(bw P e).bind λs=>(jj P e).bind λzs=>((P.info? e).map (·.bytes)).bind λb=>(xO σ c e s gx).bind λ(i,n,l)=>(fO σ s gy).bind λ(news,m)=>
  if 0<s/\zs.length=s/\n+m<=9223372036854775807/\(n+m)*b<=140737488355328 then some (e,i,n+m,l++news)else none
section
variable {ops:Array Oper} {K:St->Prop} {ty:Bj} {pos:String} {af:Array Edge} {rest:HE} {n:Nat} {gl:CC} {fr:Fr} {σ:aQ} {c p d j:Nat} {bars:Br}
theorem Yf{st1:St}(hg:o.guard=none)(hs:GS P o st st1)(h:D8 P ops K rest st1):D8 P ops K (o::rest) st:= .inl ⟨by simp[ce,hg],_,hs,h⟩
theorem NI(hg:uH P t (parts.toList.map λq=>(q.1,aB ⟨n,gl,fr,σ,c,p,rr⟩ q.2))=some g)(hd:d<n)(h:D8 P ops K rest ⟨n,gl,(d,g)::fr,σ,c,p,rr⟩):
  D8 P ops K (⟨some d,.build t parts,ty,pos,af,none⟩::rest) ⟨n,gl,fr,σ,c,p,rr⟩:=Yf rfl (BO rfl (λ_ e=>by cases e;exact hd) hg) h
def Qa(P:Bu)(s t:Bj):G->Option G
 | .lit (.int _ n)=>(xR P s).bind λ_=>(xR P t).bind λk=>some (.lit (.int k (k.wrap n)))
 |_=>none
def Qb:G->G->Option G
 | .lit (.int k m),.lit (.int _ n)=>some (.lit (.int k (if n<m then n else m)))
 |_,_=>none
def Qc:G->G->Option G
 | .lit (.int k m),.lit (.int _ n)=>some (.lit (.int k (if n>m then n else m)))
 |_,_=>none
def Qd(P:Bu)(t:Bj):G->Option G
 | .lit (.string s)=>if nu P t=true then some (.lit (.int .i64 s.size))else none
 |_=>none
theorem Qe{ρ:DC->G}{d:Option Tmp}{s ty:Bj}{pos:String}{af:Array Edge}(h:Qa P s t (ρ x)=some g):aX P ρ σ ⟨d,.convert s t x,ty,pos,af,gd⟩=some g:=by
 unfold Qa at h;split at h
 .rename_i k n hx;simp only[Gf] at h;obtain⟨a,h1,k',h2,h3⟩:=h;rw[SZ hx h1 h2];exact h3
 .cases h
theorem S4{ρ:DC->G}{d:Option Tmp}{ty:Bj}{pos:String}{af:Array Edge}(h:Qb (ρ x) (ρ y)=some g):aX P ρ σ ⟨d,.call {callee:= .builtin .min,args:= #[x,y],argTypes:=ats},ty,pos,af,gd⟩=some g:=by
 unfold Qb at h;split at h
 .rename_i hx hy;rw[V0 hx hy];exact h
 .cases h
theorem S5{ρ:DC->G}{d:Option Tmp}{ty:Bj}{pos:String}{af:Array Edge}(h:Qc (ρ x) (ρ y)=some g):aX P ρ σ ⟨d,.call {callee:= .builtin .max,args:= #[x,y],argTypes:=ats},ty,pos,af,gd⟩=some g:=by
 unfold Qc at h;split at h
 .rename_i hx hy;rw[V1 hx hy];exact h
 .cases h
theorem Qf{ρ:DC->G}{d:Option Tmp}{ty:Bj}{pos:String}{af:Array Edge}(h:Qd P t (ρ x)=some g):aX P ρ σ ⟨d,.call {callee:= .builtin .len,args:= #[x],argTypes:= #[t]},ty,pos,af,gd⟩=some g:=by
 unfold Qd at h;split at h
 .rename_i s hx;split at h
  .rename_i ht;rw[S3 hx ht];exact h
  .cases h
 .cases h
def S6(P:Bu)(t:Bj)(g:G):Option Bk:=(dH g).bind λl=>(bw P t).bind λs=>if l.length=s then some l else none
def FJ(P:Bu)(t:Bj):Option Bk:=(jj P t).bind λzs=>(bw P t).bind λs=>if zs.length=s then some (zs.map .lit)else none
def FK(P:Bu)(σ:aQ)(t:Bj)(gx gy:G):Option (Nat×Ob):=match gx with
 | .ref i k=>(ag σ i).bind λob=>(dH gy).bind λl=>(bw P t).bind λs=>if l.length=s/\k+s<=ob.l.length/\ob.x.isNone=true then some (i,⟨ob.t,ob.l.take k++l++ob.l.drop (k+s),none⟩)else none
 |_=>none
theorem Qg{ob:Ob}(ho:o.op= .store t x y)(hd:LV o st.n)(hg:FK P st.σ t (aB st x) (aB st y)=some (i,ob)):GS P o st ({st with σ:=(i,some ob)::st.σ}.put o.dst (.lit undef)):=by
 unfold FK at hg;split at hg
 .rename_i b k hx;simp only[Gf] at hg;obtain⟨a,h1,l,h2,s,h3,hg⟩:=hg;split at hg
  .rename_i hc;simp only[Fe,Ft] at hg;obtain⟨rfl,rfl⟩:=hg;exact P3 ho hd hx h1 (Option.isNone_iff_eq_none.1 hc.2.2) h2 h3 hc.1 hc.2.1
  .cases hg
 .cases hg
end
theorem NJ{fn:Func}{cd:Code}(hf:P.funcs[f]?=some fn)(hb:fn.body=some cd)(hn:gs.length<=fn.ntmps)(h:Tr P cd (St.enter fn gl gs) (zE P fn (.rsl 0 0 m) [(0,some ⟨t,l,none⟩)])):iV P gl f gs t m l:=
 Ee hf hb hn (λi hi=>aa) h
theorem aan{fn:Func}{u:Tmp}(hp:st.p=0)(h:fn.results= #[.tmp u])(hv:aD st.fr u= .rsl i 0 m)(ho:ag st.σ i=some ⟨t,l,none⟩)(hl:∀g∈l,bB g){e:Exit}(he:e= .normal\/e= .ret):zE P fn (.rsl 0 0 m) [(0,some ⟨t,l,none⟩)] e st:=
 ⟨he,[.rsl i 0 m],[(0,i)],by rw[h];simp[jV,hv],λk hk=>aa,λa b j h1 h2=>by have a1:=fj h1;have a2:=fj h2;simp at a1 a2;omega,P4 (by simp[dq]),xP (j:=i) (by simp[dq]) ho rfl rfl (Dk _) (P8 hl) BT⟩
theorem iV.fn{gl:CC}{f:FuncId}{gs:Bk}{t:Bj}{m s:Nat}{l:Bk}(h:iV P gl f gs t m l)(hs:bw P t=some s)(hl:l.length=m*s)(hi:∀g∈l,bB g):ba P gl f gs (.sl l m):=by
 intro w S vs hS hG hsz a;have hav:∀b,Av S (λ_=>none) [] b->S b:=by
  rintro b (hx|⟨i,ob,C,ho,_⟩)
  .exact hx
  .cases ho
 refine(h w (λ_=>none) S vs hS (λ_ _=>rfl) (λg l hl=>(hG g l hl).sub λb _ hb=>hav b hb) ⟨λi o ho=>(by cases ho),λi j o q b C D hi=>(by cases hi),λi o b C hi=>(by cases hi)⟩ hsz (λi g u hg hu=> .imm _ _ ((a i g u hg hu).sub λb _ hb=>hav b hb))).mono ?_;rintro e w' ⟨v,x,rfl,M⟩;have hk:A3 (λ_=>False) w w':=M.keep.mono λb _ hb=>by obtain⟨i,ob,C,ho,_⟩:=hb;cases ho
 refine⟨v,rfl,?_,hk⟩;have hv:=M.val;have ho:ag [((0:Nat),some (⟨t,l,none⟩:Ob))] 0=some ⟨t,l,none⟩:=rfl;rcases hv.rsl_form with⟨hb,rfl,rfl⟩|⟨b,C,q,cap,hb,rfl,hn,hm,ho',k⟩
 .have:l=[]:=List.eq_nil_of_length_eq_zero (by simpa using hl);subst this;exact .sl [] 0 none 0 (λ_=>undef) (Dk _) (Nat.zero_le _) aC aC aC
 .obtain⟨us,hc⟩:=(M.rs.ob 0 _ ho).cells hb;have hlt:b<w'.heap.size:=by
   rcases(M.rs.ob 0 _ ho).at with h1|⟨b',C',cur,h1,h2,_⟩
   .rw[h1] at hb;cases hb
   .rw[h1] at hb;cases hb;exact(Array.getElem?_eq_some_iff.1 h2).1
  refine .sl l m _ cap us hn hm (λj hj=>?_) (λj hj=>hc.2.1 _ hj) (λj r hg'=>?_)
  .have e:=(k rfl).2;subst e;exact⟨b,0,rfl,M.rs.sep 0 _ b C ho hb,hlt,by have:=hc.1 j hj;rw[Nat.zero_add] at this⊢;exact this⟩
  .exact(hi r (bO hg') _ _ _ _ (hc.2.2 _ _ hg')).sub λb' _ hb'=> .inl hb'
end
section
variable {P:Bu}
theorem iv{k:List Item}:step P (lone (b.atR a (.code (.scope c)::k)) cs w)= .next (lone (b.atR a (.code c:: .inScope c::k)) cs w):=
 step_lone_go (by simp[stepG,stepG.exec,Frame.atR])
theorem Dj{k:List Item}:step P (lone (b.atR a (.inScope c::k)) cs w)= .next (lone (b.atR a k) cs w):=
 step_lone_go (by simp[stepG,stepG.exec,Frame.atR])
def A4:Exit->Bool
 | .goto _=>true
 |_=>false
theorem zy{F:Fence}{Q:Exit->Act->World->Prop}(h:c.wpIn F n P (λe a w=>A4 e=false/\Q e a w) a w):(Code.scope c).wpIn F n P Q a w:=by
 intro b k cs hro hb hr;have h0:(lone (b.atR a (.code (.scope c)::k)) cs w).fenced P F:=fenced_calm hb hr rfl;obtain⟨e,f,g,⟨hg,hq⟩,d⟩:=h b (.inScope c::k) cs hro hb hr;cases e with
 |normal=>exact⟨.normal,f,g,hq,.head h0 iv (StepsIn.trans d (.one (fenced_calm hb hr rfl) Dj))⟩
 |exit id'=>
  have hx:exitTo id' (.inScope c::k)=exitTo id' k:=by simp[exitTo]
  exact⟨.exit id',f,g,hq,λk' hk=> .head h0 iv (d.1 k' (by rw[hx];exact hk)),
   λi hk=>let⟨k₁,h1,h2⟩:=d.2 i (by rw[hx];exact hk);⟨k₁,h1,.head h0 iv h2⟩⟩
 |goto l=>cases hg
 |ret=>exact⟨_,f,g,hq,.of_steps (.one h0 iv) d⟩
 |panic ch=>exact⟨_,f,g,hq,.of_steps (.one h0 iv) d⟩
 |outgrown=>exact⟨_,f,g,hq,.of_steps (.one h0 iv) d⟩
theorem Pn{Q:Exit->St->Prop}(h:Tr P c st (λe s=>A4 e=false/\Q e s)):Tr P (.scope c) st Q:=λcx a w R r k=>
 zy (h cx a w _ r λe s a' w' q r'=>⟨q.1,k e s a' w' q.2 r'⟩)
def B6(d:TypeDesc)(k:Value):List Value->Nat->Option Fq
 |[],_=>some none
 |u::r,n=>match Instr.sameNow d k u with
  |some true=>some (some n)
  |some false=>B6 d k r (n+1)
  |none=>none
def Kj(P:Bu)(kt:Bj)(k:Value):List Value->Nat->Option Fq
 |[],_=>some none
 |u::r,n=>match bt P (Op.equal kt k u) with
  |some true=>some (some n)
  |some false=>Kj P kt k r (n+1)
  |none=>none
theorem Eg{d:TypeDesc}{k:Value}:∀{es:List MapEntry} {n:Nat},B6 d k (es.map (·.key)) n=none->Instr.findNow d k es n=none
 |[],n,h=>by cases h
 |e::r,n,h=>by
  simp only[Fi,B6] at h;unfold Instr.findNow;split at h
  .cases h
  .rename_i hs;rw[hs];exact Eg h
  grind
theorem Eh{d:TypeDesc}{k:Value}:∀{es:List MapEntry} {n:Nat} {q:Fq},B6 d k (es.map (·.key)) n=some q->
  ∃p,Instr.findNow d k es n=some p/\((q=none/\p=none)\/∃i e,q=some (n+i)/\es[i]?=some e/\p=some (n+i,e.val))
 |[],n,q,h=>by simp[B6] at h;subst h;exact⟨none,rfl,(by grind)⟩
 |e::r,n,q,h=>by
  simp only[Fi,B6] at h;unfold Instr.findNow;split at h
  .rename_i hs;cases h;simp_all
  .rename_i hs;rw[hs];obtain⟨p,h1,h2⟩:=Eh h;refine⟨p,h1,?_⟩;rcases h2 with h2|⟨i,e',h3,h4,h5⟩
   .exact .inl h2
   .exact .inr ⟨i+1,e',by grind,by grind,by grind⟩
  .cases h
theorem Ei{kt:Bj}{k:Value}{w:World}:∀{es:List MapEntry} {n:Nat} {q:Fq},Kj P kt k (es.map (·.key)) n=some q->
  ∃p,(Instr.findAsking kt k es n).run P w= .ok p w/\((q=none/\p=none)\/∃i e,q=some (n+i)/\es[i]?=some e/\p=some (n+i,e.val))
 |[],n,q,h=>by simp[Kj] at h;subst h;exact⟨none,by simp[Instr.findAsking],(by grind)⟩
 |e::r,n,q,h=>by
  simp only[Fi,Kj] at h;unfold Instr.findAsking;split at h
  .rename_i hs;cases h;have:=oh hs w;simp_all
  .rename_i hs;have:=oh hs w;obtain⟨p,h1,h2⟩:=Ei (w:=w) h;refine⟨p,by simp[this,h1],?_⟩;rcases h2 with h2|⟨i,e',h3,h4,h5⟩
   .exact .inl h2
   .exact .inr ⟨i+1,e',by grind,by grind,by grind⟩
  .cases h
def B7(P:Bu)(kt:Bj)(k:Value)(a:List Value):Option Fq:=match P.underlying kt with
 |some d=>match B6 d k a 0 with
  |some r=>some r
  |none=>Kj P kt k a 0
 |none=>none
theorem gQ{k:Value}{w:World}{es:List MapEntry}{q:Fq}(h:B7 P kt k (es.map (·.key))=some q):
  ∃p,(Instr.findKey kt k es).run P w= .ok p w/\((q=none/\p=none)\/∃i e,q=some i/\es[i]?=some e/\p=some (i,e.val)):=by
 unfold B7 at h
 split at h
 .rename_i d hd
  unfold Instr.findKey
  simp only[E0,Gc hd,E1]
  split at h
  .rename_i r hr
   cases h
   obtain⟨p,h1,h2⟩:=Eh hr
   simp_all
  .rename_i hr
   rw[Eg hr]
   obtain⟨p,h1,h2⟩:=Ei (w:=w) h
   grind
 .cases h
def rB(P:Bu)(b:Bool)(kt:Bj)(k:Value):Bool:=(bt P (Instr.checkKey b 10000 kt k)).isSome
theorem ot{b:Bool}{k:Value}(h:rB P b kt k=true)(w:World):(Instr.checkKey b 10000 kt k).run P w= .ok () w:=by grind [rB,WE,oh]
def pB(P:Bu)(t:Bj):Option (Bj×Bj):=match P.underlying t with
 |some (.map k e)=>some (k,e)
 |_=>none
theorem cJ{k:Bj}(h:pB P t=some (k,e)):P.underlying t=some (.map k e):=by grind [pB]
theorem br{o:Obj}(h:w.heap[r]?=some o)(hn:∀c e f,o≠ .cells c e f):(getObj r).run P w= .ok o w:=by grind [getObj,Sem.run]
theorem G8{o:Obj}(a:Obj)(h:w.heap[r]?=some o)(hn:∀c e f,o≠ .cells c e f):(setObj r a).run P w= .ok () (w.putObj r a):=by grind [setObj,Sem.run,World.putObj]
theorem dJ{es:Array MapEntry}{c:Nat}:∀a e f,(Obj.map es c)≠ .cells a e f:=by grind
theorem Vr{m:Fq}{q:Array Nat}{c:Nat}:∀a e f,(Obj.mapIter m s q c)≠ .cells a e f:=by grind
theorem yT{o:Obj}:(newObj o).run P w= .ok w.heap.size (w.alloc o):=rfl
theorem EQ{l:Nat}(o:Obj):A3 (λb=>b=l) w (w.putObj l o):=⟨rfl,rfl,rfl,aC,λk _ hk=>World.putObj_heap_other hk,Dk _⟩
def LE(σ:aQ):G->Option (Nat×Bj×List (Value×G×Nat)×Nat)
 | .mref i=>match ag σ i with
  |some ⟨t,_,some (.map es clock)⟩=>some (i,t,es,clock)
  |_=>none
 |_=>none
theorem Hz(h:Bx P cx st a w β)(hv:RV β (Av cx.S0 β st.σ) w g v)(hg:LE st.σ g=some (i,t,es,clock)):
  ∃ob b ents,g= .mref i/\ag st.σ i=some ob/\ob.t=t/\β i=some (some (b,0))/\v= .map (some b)/\w.heap[b]?=some (.map ents clock)/\ents.toList.map (·.key)=es.map (·.1)/\ents.toList.map (·.born)=es.map (·.2.2)/\ents.size=es.length/\
   ∀(j:Nat) (e:MapEntry) (k:Value) (g:G) (n:Nat),ents[j]?=some e->es[j]?=some (k,g,n)->e.key=k/\e.born=n/\RV β (Av cx.S0 β st.σ) w g e.val:=by
 unfold LE at hg
 split at hg
 .rename_i f
  split at hg
  .rename_i t' l d c ho
   cases hg
   obtain⟨b,C,hb,rfl⟩:=hv.mref_form
   rcases h.ob i _ ho with⟨_,_,h3⟩|⟨b',x,o,h1,h2,h3,h4,h5⟩|⟨b',C',cur,h1,_⟩
   .grind
   .cases h1
    rw[h3] at hb
    cases hb
    obtain⟨ents,rfl,e2,e3⟩:=h5
    have key:∀(j:Nat) (e:MapEntry) (k:Value) (g:G) (n:Nat),ents[j]?=some e->es[j]?=some (k,g,n)->e.key=k/\e.born=n/\RV β (Av cx.S0 β st.σ) w g e.val:=by grind
    refine⟨_,_,ents,rfl,ho,rfl,h3,rfl,h4,?_,?_,e2,key⟩
    .apply List.ext_getElem?
     grind
    .apply List.ext_getElem?
     grind
   .cases h1
  .cases hg
 .cases hg
def rC(P:Bu)(t:Bj)(r:Option G):Bool:=match r with
 |none=>true
 |some (.lit (.int _ _))=>(pB P t).isSome
 |_=>false
theorem B8{t:Bj}{r:Option DC}(ho:o.op= .makeMap t r)(hd:LV o st.n)(hg:rC P t (r.map (aB st))=true):
  GS P o st ({st with σ:=(st.c,some ⟨t,[],some (.map [] 0)⟩)::st.σ,c:=st.c+1}.put o.dst (.mref st.c)):=by
 intro cx a w K R ⟨β,h⟩ d
 have hrun:(execOp a.eval o).run P w= .ok (.value (.map (some w.heap.size))) (w.alloc (.map #[] 0)):=by
  unfold execOp;simp only[ho];cases r with
  |none=>grind [Instr.makeMap,E0,yT,E1,HA]
  |some x=>
   simp only[Option.map_some] at hg;unfold rC at hg;split at hg
   .grind
   .rename_i k n hx;obtain⟨⟨kt,et⟩,ht⟩:=WE.1 hg;have hv:a.eval x= .int k n:=by have:=h.ev x;grind [RV.lit_eq]
    simp only[Option.map_some,Instr.makeMap,hv,E0,Gc (cJ ht),E1,yT,HA,asInt,asIntOf]
   .cases hg
 have:=h.allocX (w':=w.alloc (.map #[] 0)) ((A3.refl _ _).alloc _) (b:=w.heap.size) (ob:=⟨t,[],some (.map [] 0)⟩) (x:= .map [] 0) (Dk _) (heap_alloc_new w _) rfl rfl ⟨#[],rfl,rfl,aC⟩ (Dk st.c)
 refine h.loose.oper (by grind) ?_
 unfold Oper.wp
 rw[hrun]
 exact d _ _ ⟨_,this.put o.dst hd (.mref _ _ 0 aC)⟩
def bL(P:Bu)(σ:aQ)(t:Bj)(ok:Bool)(gm gk:G):Option G:=match pB P t,cD gk with
 |some (kt,et),some k=>
  match gm with
  | .lit (.map none)=>bif rB P true kt k&&(P.underlying kt).isSome then((P.info? et).bind (·.zero)).map λz=>bif ok then .tup [db z,.lit (.bool false)]else db z else none
  | .mp ks vs _ _=>bif rB P ks.isEmpty kt k then
     match B7 P kt k ks with
     |some none=>((P.info? et).bind (·.zero)).map λz=>bif ok then .tup [db z,.lit (.bool false)]else db z
     |some (some j)=>(vs[j]?).map λe=>bif ok then .tup [e,.lit (.bool true)]else e
     |none=>none
    else none
  |gm=>match LE σ gm with
   |some (i,_,es,_)=>bif rB P es.isEmpty kt k then
     match B7 P kt k (es.map (·.1)) with
     |some none=>((P.info? et).bind (·.zero)).map λz=>bif ok then .tup [db z,.lit (.bool false)]else db z
     |some (some j)=>(es[j]?).map λe=>bif ok then .tup [e.2.1,.lit (.bool true)]else e.2.1
     |none=>none
    else none
   |none=>none
 |_,_=>none
theorem pC{et:Bj}{z:Value}(h:(P.info? et).bind (·.zero)=some z):(zeroValue et).run P w= .ok z w:=by rw[Gf] at h;obtain⟨i,hi,hz⟩:=h;simp[zeroValue,typeInfo,hi,hz]
theorem HY{t:Bool}(ok:Bool)(h:RV β S w g v):RV β S w (bif ok then .tup [g,.lit (.bool t)]else g) (if ok then .tuple #[v,.bool t]else v):=by
 cases ok with
 |false=>exact h
 |true=>
  refine .tup _ _ rfl λi a u hg hu=>?_;match i with
  |0=>grind
  |1=>simp at hg hu;subst hg;subst hu;exact .imm _ _ (.lit _)
  |n+2=>simp at hg
theorem HZ(h:Bx P cx st a w β)(hm:RV β (Av cx.S0 β st.σ) w gm vm)(hk:RV β (Av cx.S0 β st.σ) w gk vk)(hg:bL P st.σ t ok gm gk=some g):
  ∃v,(Instr.lookup t vm vk ok).run P w= .ok v w/\RV β (Av cx.S0 β st.σ) w g v:=by
 unfold bL at hg
 split at hg
 .rename_i kt et k ht hgk
  have e:=hk.val hgk
  subst e
  split at hg
  .have hv:=hm.lit_eq
   subst hv
   cases hc0:(rB P true kt vk&&(P.underlying kt).isSome) with
   |false=>grind
   |true=>
    rw[hc0] at hg
    simp only[bA] at hc0
    obtain⟨hc,hd⟩:=hc0
    simp only[ax,DQ] at hg
    obtain⟨z,hz,rfl⟩:=hg
    have hf:(Instr.findKey kt vk ([]:List MapEntry)).run P w= .ok none w:=by obtain⟨d,hd⟩:=WE.1 hd;simp[Instr.findKey,Gc hd,Instr.findNow]
    refine⟨_,?_,HY ok (.imm _ _ (.glit _ _ z))⟩
    have c:=ot hc w
    simp only[Instr.lookup,E0,Gc (cJ ht),E1,HA,Array.isEmpty_empty,c,hf,pC hz]
  .rename_i o vs q clock
   obtain⟨b,ents,rfl,hh,hsz,rfl,_,hent⟩:=hm.mp_form
   have hemp:ents.isEmpty=(ents.toList.map (·.key)).isEmpty:=by simp_all
   cases hc:rB P (ents.toList.map (·.key)).isEmpty kt vk with
   |false=>grind
   |true=>
    rw[hc] at hg
    simp only[ax] at hg
    have c:=ot hc w
    split at hg
    .rename_i hkey
     simp only[DQ] at hg
     obtain⟨z,hz,rfl⟩:=hg
     obtain⟨p,hp,hq⟩:=gQ (w:=w) hkey
     rcases hq with⟨_,rfl⟩|⟨_,_,hq,_⟩
     .refine⟨_,?_,HY ok (.imm _ _ (.glit _ _ z))⟩
      simp only[Instr.lookup,E0,Gc (cJ ht),E1,br hh dJ,HA,hemp,c,hp,pC hz]
     .cases hq
    .rename_i j hkey
     simp only[DQ] at hg
     obtain⟨l,he,rfl⟩:=hg
     obtain⟨p,hp,hq⟩:=gQ (w:=w) hkey
     rcases hq with⟨hq,_⟩|⟨m,e',hq,he',rfl⟩
     .cases hq
     .cases hq
      have hr:=hent j l e' he (by rw[<-Array.getElem?_toList];exact he')
      refine⟨_,?_,HY ok (.imm _ _ hr)⟩
      simp only[Instr.lookup,E0,Gc (cJ ht),E1,br hh dJ,HA,hemp,c,hp]
    .cases hg
  .split at hg
   .rename_i i t' es clock f
    obtain⟨ob,b,ents,rfl,ho,_,hb,rfl,hh,hks,_,hsz,hent⟩:=Hz h hm f
    have hemp:ents.isEmpty=es.isEmpty:=by cases es<;>grind
    cases hc:rB P es.isEmpty kt vk with
    |false=>grind
    |true=>
     rw[hc] at hg
     simp only[ax] at hg
     have c:=ot hc w
     rw[<-hks] at hg
     split at hg
     .rename_i hkey
      simp only[DQ] at hg
      obtain⟨z,hz,rfl⟩:=hg
      obtain⟨p,hp,hq⟩:=gQ (w:=w) hkey
      rcases hq with⟨_,rfl⟩|⟨_,_,hq,_⟩
      .refine⟨_,?_,HY ok (.imm _ _ (.glit _ _ z))⟩
       simp only[Instr.lookup,E0,Gc (cJ ht),E1,br hh dJ,HA,hemp,c,hp,pC hz]
      .cases hq
     .rename_i j hkey
      simp only[DQ] at hg
      obtain⟨⟨k',l,n⟩,he,rfl⟩:=hg
      obtain⟨p,hp,hq⟩:=gQ (w:=w) hkey
      rcases hq with⟨hq,_⟩|⟨m,e',hq,he',rfl⟩
      .cases hq
      .cases hq
       obtain⟨_,_,hr⟩:=hent j e' k' l n (by grind) he
       refine⟨_,?_,HY ok hr⟩
       simp only[Instr.lookup,E0,Gc (cJ ht),E1,br hh dJ,HA,hemp,c,hp]
     .cases hg
   .cases hg
 .cases hg
theorem xS(ho:o.op= .lookup t x y ok)(hd:LV o st.n)(hg:bL P st.σ t ok (aB st x) (aB st y)=some g):GS P o st (st.put o.dst g):=by
 intro cx a w K R ⟨β,h⟩ b;obtain⟨v,hv,hr⟩:=HZ h (h.ev x) (h.ev y) hg;refine h.loose.oper (by grind) ?_;have hrun:(execOp a.eval o).run P w= .ok (.value v) w:=by grind [execOp,E0,E1,HA]
 unfold Oper.wp;rw[hrun];exact b _ _ ⟨β,h.put o.dst hd hr⟩
theorem XO.map_push{β:Bm}{S:Fu}{w:World}{es:List (Value×G×Nat)}{ents:Array MapEntry}{clock clock':Nat}(hsz:ents.size=es.length)(h:∀(j:Nat) (e:MapEntry) (k:Value) (g:G) (n:Nat),ents[j]?=some e->es[j]?=some (k,g,n)->e.key=k/\e.born=n/\RV β S w g e.val){k:Value}{g:G}{v:Value}(hv:RV β S w g v):
  XO β S w (.map (es++[(k,g,clock)]) clock') (.map (ents.push {key:=k,val:=v,born:=clock}) clock'):=by
 refine⟨_,rfl,by simp[hsz],λj k' a n hj=>?_⟩
 rcases JB j es.length with hlt|hge
 .rw[List.getElem?_append_left hlt] at hj
  have he:ents[j]?=some (ents[j]'aa):=by grind
  grind
 .rw[List.getElem?_append_right hge] at hj
  have h0:j=es.length:=by grind
  subst h0
  simp at hj
  obtain⟨rfl,rfl,rfl⟩:=hj
  exact⟨{key:=k,val:=v,born:=clock},by grind,rfl,rfl,hv⟩
theorem XO.map_set{β:Bm}{S:Fu}{w:World}{es:List (Value×G×Nat)}{ents:Array MapEntry}{clock:Nat}(hsz:ents.size=es.length)(h:∀(j:Nat) (e:MapEntry) (k:Value) (g:G) (n:Nat),ents[j]?=some e->es[j]?=some (k,g,n)->e.key=k/\e.born=n/\RV β S w g e.val){i n:Nat}{k:Value}{g:G}{f:MapEntry->MapEntry}(hf:∀e,ents[i]?=some e->(f e).key=k/\(f e).born=n/\RV β S w g (f e).val):
  XO β S w (.map (es.set i (k,g,n)) clock) (.map (ents.modify i f) clock):=by
 refine⟨_,rfl,by simp[hsz],λj k' a b hj=>?_⟩
 have hlt:j<es.length:=by grind
 have he:ents[j]?=some (ents[j]'aa):=by grind
 grind
def dZ(P:Bu)(σ:aQ)(t:Bj)(gm gk g:G):Option (Nat×Ob):=match pB P t,cD gk,LE σ gm with
 |some (kt,_),some k,some (i,ty,es,clock)=>bif rB P false kt k then
   match B7 P kt k (es.map (·.1)) with
   |some none=>some (i,⟨ty,[],some (.map (es++[(k,g,clock)]) (clock+1))⟩)
   |some (some j)=>match es[j]? with
    |some (k',_,n)=>bif Instr.sameBits 10000 k' k then some (i,⟨ty,[],some (.map (es.set j (k,g,n)) clock)⟩)else none
    |none=>none
   |none=>none
  else none
 |_,_,_=>none
theorem Ej{old new:Value}(h:Instr.sameBits 10000 old new=true)(w:World):(Instr.keyThatStays old new).run P w= .ok new w:=by unfold Instr.keyThatStays;simp_all
theorem H0(h:Bx P cx st a w β){ob:Ob}(hm:RV β (Av cx.S0 β st.σ) w gm vm)(hk:RV β (Av cx.S0 β st.σ) w gk vk)(hv:RV β (Av cx.S0 β st.σ) w g v)(hg:dZ P st.σ t gm gk g=some (i,ob)):
  ∃w',(Instr.mapUpdate t vm vk v).run P w= .ok () w'/\Bx P cx {st with σ:=(i,some ob)::st.σ} a w' β:=by
 unfold dZ at hg
 split at hg
 .rename_i kt et k q ty es clock ht hgk d
  have l:=hk.val hgk
  subst l
  obtain⟨m,b,ents,rfl,ho,rfl,hb,rfl,hh,hks,_,hsz,hent⟩:=Hz h hm d
  cases hc:rB P false kt vk with
  |false=>grind
  |true=>
   rw[hc] at hg
   simp only[ax] at hg
   have c:=ot hc w
   rw[<-hks] at hg
   split at hg
   .rename_i hkey
    cases hg
    obtain⟨p,hp,hq⟩:=gQ (w:=w) hkey
    rcases hq with⟨_,rfl⟩|⟨_,_,hq,_⟩
    .refine⟨_,?_,h.writeX ho hb (EQ _) (World.putObj_heap_same (Array.getElem?_eq_some_iff.1 hh).1) (XO.map_push hsz hent hv)⟩
     simp only[Instr.mapUpdate,E0,Gc (cJ ht),E1,br hh dJ,c,hp,G8 _ hh dJ]
    .cases hq
   .rename_i j hkey
    split at hg
    .rename_i k' o n he
     cases hs:Instr.sameBits 10000 k' vk with
     |false=>grind
     |true=>
      rw[hs] at hg
      cases hg
      obtain⟨p,hp,hq⟩:=gQ (w:=w) hkey
      rcases hq with⟨hq,_⟩|⟨r,e',hq,he',rfl⟩
      .cases hq
      .cases hq
       rw[Array.getElem?_toList] at he'
       obtain⟨rfl,rfl,_⟩:=hent j e' k' o n he' he
       refine⟨_,?_,h.writeX ho hb (EQ _) (World.putObj_heap_same (Array.getElem?_eq_some_iff.1 hh).1) (XO.map_set hsz hent (i:=j) (n:=e'.born) (k:=vk) (g:=g) (f:=λe=>{e with key:=vk,val:=v}) λe hx=>?_)⟩
       .simp only[Instr.mapUpdate,E0,Gc (cJ ht),E1,br hh dJ,c,hp,he',Option.map_some,Nt,Ej hs,G8 _ hh dJ]
       .rw[he'] at hx;cases hx
        exact⟨rfl,rfl,hv⟩
    .cases hg
   .cases hg
 .cases hg
theorem iW{z:DC}{ob:Ob}(ho:o.op= .mapUpdate t x y z\/o.op= .insert t x y z)(hd:LV o st.n)(hg:dZ P st.σ t (aB st x) (aB st y) (aB st z)=some (i,ob)):GS P o st ({st with σ:=(i,some ob)::st.σ}.put o.dst (.lit undef)):=by
 intro cx a w K R ⟨β,h⟩ b;obtain⟨w',hv,hr⟩:=H0 h (h.ev x) (h.ev y) (h.ev z) hg;refine h.loose.oper (by grind) ?_;have hrun:(execOp a.eval o).run P w= .ok .skip w':=by grind [execOp,E0,E1,HA]
 unfold Oper.wp;rw[hrun];exact b _ _ ⟨β,hr.put o.dst hd (.imm _ _ (.lit _))⟩
def ou(P:Bu)(σ:aQ)(t:Bj)(g:G):Option G:=match pB P t with
 |some _=>match g with
  | .lit (.map none)=>some (.lit (.int .i64 0))
  | .mp _ vs _ _=>some (.lit (.int .i64 vs.length))
  |g=>match LE σ g with
   |some (_,_,es,_)=>some (.lit (.int .i64 es.length))
   |none=>none
 |none=>none
theorem Ta(ho:o.op= .call {callee:= .builtin .len,args:= #[x],argTypes:= #[t]})(hd:LV o st.n)(hg:ou P st.σ t (aB st x)=some g):GS P o st (st.put o.dst g):=by
 intro cx a w K R ⟨β,h⟩ e;refine h.loose.oper (by grind) ?_;have hrun:∃v,(execOp a.eval o).run P w= .ok (.value v) w/\RV β (Av cx.S0 β st.σ) w g v:=by
  unfold ou at hg;split at hg
  .rename_i q ht;obtain⟨kt,et⟩:=q;split at hg
   .rename_i hx;cases hg;have hv:a.eval x= .map none:=by have:=h.ev x;grind [RV.lit_eq]
    refine⟨.int .i64 0,?_,.imm _ _ (.lit _)⟩;unfold execOp;simp[ho,resolve,invoke,builtin,Builtin.len_,hv,goInt,Gc (cJ ht)]
   .rename_i f vs j clock hx;cases hg;have c:=h.ev x;rw[hx] at c;obtain⟨b,ents,hv,hh,hsz,_⟩:=c.mp_form;refine⟨.int .i64 vs.length,?_,.imm _ _ (.lit _)⟩;unfold execOp;simp[ho,resolve,invoke,builtin,Builtin.len_,hv,goInt,br hh dJ,hsz,Gc (cJ ht)]
   .split at hg
    .rename_i i ty es clock d;cases hg;obtain⟨ob,b,ents,hx,hob,rfl,hb,hv,hh,hks,_,hsz,hent⟩:=Hz h (h.ev x) d;refine⟨.int .i64 es.length,?_,.imm _ _ (.lit _)⟩;unfold execOp;simp[ho,resolve,invoke,builtin,Builtin.len_,hv,goInt,br hh dJ,hsz,Gc (cJ ht)]
    .cases hg
  .cases hg
 obtain⟨v,hrun,hr⟩:=hrun;unfold Oper.wp;rw[hrun];exact e _ _ ⟨β,h.put o.dst hd hr⟩
theorem XO.map_erase{β:Bm}{S:Fu}{w:World}{es:List (Value×G×Nat)}{ents:Array MapEntry}{clock:Nat}(hsz:ents.size=es.length)(h:∀(j:Nat) (e:MapEntry) (k:Value) (g:G) (n:Nat),ents[j]?=some e->es[j]?=some (k,g,n)->e.key=k/\e.born=n/\RV β S w g e.val)(i:Nat):
  XO β S w (.map (es.eraseIdx i) clock) (.map (ents.eraseIdxIfInBounds i) clock):=by
 have ht:(ents.eraseIdxIfInBounds i).toList=ents.toList.eraseIdx i:=by simp_all
 refine⟨_,rfl,?_,λj k' a n hj=>?_⟩
 .grind
 .rw[<-Array.getElem?_toList,ht]
  rw[List.getElem?_eraseIdx] at hj⊢
  split at hj
  .rename_i hlt
   have hl:=(cr hj).1
   have he:ents[j]?=some (ents[j]'aa):=by grind
   grind
  .rename_i hlt
   have hl:=(cr hj).1
   have he:ents[j+1]?=some (ents[j+1]'aa):=by grind
   grind
def FN(P:Bu)(σ:aQ)(t:Bj)(gm gk:G):Option (Nat×Ob):=match pB P t,cD gk,LE σ gm with
 |some (kt,_),some k,some (i,ty,es,clock)=>bif rB P es.isEmpty kt k then
   match B7 P kt k (es.map (·.1)) with
   |some none=>some (i,⟨ty,[],some (.map es clock)⟩)
   |some (some j)=>some (i,⟨ty,[],some (.map (es.eraseIdx j) clock)⟩)
   |none=>none
  else none
 |_,_,_=>none
theorem NM{ob:Ob}(ho:o.op= .call {callee:= .builtin .delete,args:= #[x,y],argTypes:= #[t,t']})(hd:LV o st.n)(hg:FN P st.σ t (aB st x) (aB st y)=some (i,ob)):GS P o st ({st with σ:=(i,some ob)::st.σ}.put o.dst (.tup [])):=by
 intro cx a w K R ⟨β,h⟩ f;refine h.loose.oper (by grind) ?_;have hrun:∃w',(execOp a.eval o).run P w= .ok (.value (.tuple #[])) w'/\Bx P cx {st with σ:=(i,some ob)::st.σ} a w' β:=by
  unfold FN at hg;split at hg
  .rename_i kt et k l ty es clock ht hgk d;have e:=(h.ev y).val hgk;subst e;obtain⟨g,b,ents,hx,hob,rfl,hb,hv,hh,hks,_,hsz,hent⟩:=Hz h (h.ev x) d;have hemp:ents.isEmpty=es.isEmpty:=by cases es<;>grind
   cases hc:rB P es.isEmpty kt (a.eval y) with
   |false=>grind
   |true=>
    rw[hc] at hg;simp only[ax] at hg;have c:=ot hc w;rw[<-hks] at hg;split at hg
    .rename_i hkey;cases hg;obtain⟨p,hp,hq⟩:=gQ (w:=w) hkey;rcases hq with⟨_,rfl⟩|⟨_,_,hq,_⟩
     .refine⟨_,?_,h.writeX hob hb (EQ _) (World.putObj_heap_same (by grind)) (o0:= .map ents clock) ⟨ents,rfl,hsz,λj k' m n hj=>?_⟩⟩
      .unfold execOp;simp only[ho,resolve,invoke,builtin,E0,HA,E1,List.map_toArray,Fi,List.map_nil,Builtin.delete_,hv];simp only[List.getElem?_toArray,List.getElem?_cons_zero,List.getElem?_cons_succ,E0,Gc (cJ ht),E1,br hh dJ,hemp,c,hp,G8 _ hh dJ,HA]
      .have hl:=(cr hj).1;have he:ents[j]?=some (ents[j]'aa):=by grind
       grind
     .cases hq
    .rename_i j hkey;cases hg;obtain⟨p,hp,hq⟩:=gQ (w:=w) hkey;rcases hq with⟨hq,_⟩|⟨q,e',hq,he',rfl⟩
     .cases hq
     .cases hq;refine⟨_,?_,h.writeX hob hb (EQ _) (World.putObj_heap_same (Array.getElem?_eq_some_iff.1 hh).1) (XO.map_erase hsz hent j)⟩;unfold execOp;simp only[ho,resolve,invoke,builtin,E0,HA,E1,List.map_toArray,Fi,List.map_nil,Builtin.delete_,hv];simp only[List.getElem?_toArray,List.getElem?_cons_zero,List.getElem?_cons_succ,E0,Gc (cJ ht),E1,br hh dJ,hemp,c,hp,G8 _ hh dJ,HA]
    .cases hg
  .cases hg
 obtain⟨w',hrun,hr⟩:=hrun;unfold Oper.wp;rw[hrun];exact f _ _ ⟨β,(by grind [Bx.put,RV])⟩
def ov(P:Bu)(σ:aQ)(t:Bj)(gm gk:G):Option (Nat×Ob×G):=match pB P t,cD gk,LE σ gm with
 |some (kt,et),some k,some (i,ty,es,clock)=>bif rB P false kt k then
   match B7 P kt k (es.map (·.1)) with
   |some none=>((P.info? et).bind (·.zero)).map λz=>(i,⟨ty,[],some (.map (es++[(k,db z,clock)]) (clock+1))⟩,.tup [db z,.lit (.int .i64 clock)])
   |some (some j)=>match es[j]? with
    |some (k',g,n)=>bif Instr.sameBits 10000 k' k then some (i,⟨ty,[],some (.map (es.set j (k,g,n)) clock)⟩,.tup [g,.lit (.int .i64 n)])else none
    |none=>none
   |none=>none
  else none
 |_,_,_=>none
theorem Kk{g g':G}{v':Value}(h:RV β S w g v)(h':RV β S w g' v'):RV β S w (.tup [g,g']) (.tuple #[v,v']):=by
 refine .tup _ _ rfl λi x u hg hu=>?_;match i with
 |0=>simp at hg hu;subst hg;subst hu;exact h
 |1=>simp at hg hu;subst hg;subst hu;exact h'
 |n+2=>simp at hg
theorem yU{ob:Ob}(ho:o.op= .mapEntry t x y)(hd:LV o st.n)(hg:ov P st.σ t (aB st x) (aB st y)=some (i,ob,g)):GS P o st ({st with σ:=(i,some ob)::st.σ}.put o.dst g):=by
 intro cx a w K R ⟨β,h⟩ A;refine h.loose.oper (λc hc=>by rw[ho] at hc;cases hc) ?_;have hrun:∃v w',(execOp a.eval o).run P w= .ok (.value v) w'/\RV β (Av cx.S0 β st.σ) w g v/\(∃q,ag st.σ i=some q)/\A3 (λb=>∃C,β i=some (some (b,C))) w w'/\Bx P cx {st with σ:=(i,some ob)::st.σ} a w' β:=by
  unfold ov at hg;split at hg
  .rename_i kt et k B ty es clock ht hgk r;have s:=(h.ev y).val hgk;subst s;obtain⟨d,b,ents,hx,hob,rfl,hb,hv,hh,hks,_,hsz,hent⟩:=Hz h (h.ev x) r;cases hc:rB P false kt (a.eval y) with
   |false=>grind
   |true=>
    rw[hc] at hg;simp only[ax] at hg;have l:=ot hc w;rw[<-hks] at hg;split at hg
    .rename_i hkey;simp only[DQ] at hg;obtain⟨z,hz,hg⟩:=hg;cases hg;obtain⟨p,hp,hq⟩:=gQ (w:=w) hkey;rcases hq with⟨_,rfl⟩|⟨_,_,hq,_⟩
     .refine⟨_,_,?_,Kk (.imm _ _ (.glit _ _ z)) (.imm _ _ (.lit (.int .i64 clock))),⟨_,hob⟩,(EQ _).mono (λk _ e=>⟨0,by subst e;exact hb⟩),h.writeX hob hb (EQ _) (World.putObj_heap_same (Array.getElem?_eq_some_iff.1 hh).1) (XO.map_push hsz hent (.imm _ _ (.glit _ _ z)))⟩;unfold execOp;simp only[ho,hv,Instr.mapEntry,E0,Gc (cJ ht),E1,br hh dJ,l,hp,pC hz,G8 _ hh dJ,HA,goInt]
     .cases hq
    .rename_i j hkey;split at hg
     .rename_i k' u n he;cases hs:Instr.sameBits 10000 k' (a.eval y) with
      |false=>grind
      |true=>
       rw[hs] at hg;cases hg;obtain⟨p,hp,hq⟩:=gQ (w:=w) hkey;rcases hq with⟨hq,_⟩|⟨D,e',hq,he',rfl⟩
       .cases hq
       .cases hq;rw[Array.getElem?_toList] at he';obtain⟨rfl,rfl,hr⟩:=hent j e' k' u n he' he;refine⟨_,_,?_,Kk hr (.imm _ _ (.lit (.int .i64 e'.born))),⟨_,hob⟩,(EQ _).mono (λk _ e=>⟨0,by subst e;exact hb⟩),h.writeX hob hb (EQ _) (World.putObj_heap_same (Array.getElem?_eq_some_iff.1 hh).1) (XO.map_set hsz hent (i:=j) (n:=e'.born) (k:=a.eval y) (g:=u) (f:=λe=>{e with key:=a.eval y}) λe hx=>?_)⟩
        .unfold execOp;simp only[ho,hv,Instr.mapEntry,E0,Gc (cJ ht),E1,br hh dJ,l,hp,he',Option.map_some,Nt,Ej hs,G8 _ hh dJ,HA,goInt]
        .rw[he'] at hx;cases hx;exact⟨rfl,rfl,hr⟩
     .cases hg
    .cases hg
  .cases hg
 obtain⟨v,w',hrun,hr,⟨d,hob⟩,hk,m⟩:=hrun;have hk':A3 (Av cx.S0 β st.σ) w w':=hk.mono λb _ ⟨C,h1⟩=> .inr ⟨i,d,C,hob,h1⟩;unfold Oper.wp;rw[hrun];refine A _ _ ⟨β,m.put o.dst hd (hr.step (λ_ _ x=>x) (λb _ hb=>?_) hk')⟩;rcases hb with hb|⟨j,q,C,h1,h2⟩
 .exact .inl hb
 .have h1':ag ((i,some ob)::st.σ) j=some q:=h1;rw[A9] at h1';split at h1'
  .subst_vars;exact .inr ⟨_,d,C,hob,h2⟩
  .exact .inr ⟨j,q,C,h1',h2⟩
end
end Go.Proofs.YtjbfcillbjiajaaGreatDoor
