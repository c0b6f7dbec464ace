/- Texts. -/
import Derived.Lib.Mul64
import Derived.Lib.SliceRun
import Derived.Test.YtjbfcillbjiajaaGreatDoorProg
import Derived.Test.YtjbfcillbjiajaaGreatDoorLD
namespace Go.Proofs.YtjbfcillbjiajaaGreatDoor
set_option linter.unusedSectionVars false
set_option linter.unusedVariables false
set_option linter.unusedSimpArgs false
open Go.RowKit Tryz
variable (gl:CC)
variable {t ts:Bj}{x y:DC}{n:Nat}{fn:Func}{f:FuncId}{gs:Bk}{q:Br}{k k':IntKind}{a b i:Int}
section
variable {P:Bu}
theorem th.mn{o:Oper}{st:St}{S T:St->Prop}(h:th P o st S)(k:∀s,S s->T s):th P o st T:=λcx a w K R r hk=>h cx a w K R r λs hs=>hk s (k s hs)
theorem QU{o:Oper}{st:St}{e:Bj}{l:Bk}{n:Nat}{u:Bool}(ho:∃z,o.op= .binOp .eql ts x (.const (.slice none 0 0)) z)(ht:P.underlying ts=some (.slice e))(hd:LV o st.n)(hx:aB st x= .sl l n):th P o st (λs=>∃b,(b=true->l=[])/\s=st.put o.dst (bG b)):=by
 obtain⟨z,ho⟩:=ho;intro cx a w K R ⟨β,h⟩ d;refine h.loose.oper (λc hc=>by rw[ho] at hc;cases hc) ?_;have hv:=h.ev x;rw[hx] at hv;obtain⟨ad,cap,us,hv,_,_,ha,_⟩:=hv.sl_cells;have hrun:(execOp a.eval o).run P w= .ok (.value (.bool ad.isNone)) w:=by unfold execOp;have hk:a.eval (.const (.slice none 0 0))= .slice none 0 0:=rfl;simp[ho,hv,hk,eqGuard,Lib.run_eql_slice_nil w ts e ad n cap 0 0 ht]
 unfold Oper.wp;rw[hrun];refine d _ ⟨ad.isNone,λhn=>?_,rfl⟩ _ _ ⟨β,h.put o.dst hd (.imm _ _ (.lit _))⟩;cases l with
 |nil=>rfl
 |cons g r=>obtain⟨b,f,e,_⟩:=ha 0 aC;rw[e] at hn;cases hn
end
section
variable {P:Bu} {fn:Func} {Q:Exit->St->Prop} {Bs:List (St->Prop)} {p:Br} {st:St}
def QV(P:Bu)(c:Code)(x b f:Nat)(d e:Bj):Bool:=match c with
 | .region _ ⟨[⟨some g,.move (.tmp x'),_,_,_,none⟩,⟨some h,.binOp .eql t' (.tmp a) (.const (.slice none 0 0)) _,_,_,_,none⟩]⟩ false=>Nat.beq g b&&Nat.beq h f&&Nat.beq x x'&&Nat.beq a b&&Nat.beq t' d&&(match P.underlying d with|some (.slice e')=>Nat.beq e e'|_=>false)
 |_=>false
theorem IA{l:Bk}(x i j:Nat)(t e:Bj)(hx:aD st.fr x= .sl l n)(h1:i<st.n)(h2:j<st.n)(h:∀b,(b=true->l=[])->Gp P fn Q Bs true p ((st.put (some i) (.sl l n)).put (some j) (bG b)))(hc:QV P (bq p (ai fn)) x i j t e=true:=by kernel_rfl):Gp P fn Q Bs false p st:=by
 unfold Gp LQ at h⊢;simp only[ax,Bf] at h⊢;revert hc;generalize bq p (ai fn)=c;intro hc;unfold QV at hc;split at hc
 .rename_i id v w f g af1 r t' a z k m q;simp only[bA] at hc;obtain⟨⟨⟨⟨⟨e1,e2⟩,e3⟩,e4⟩,e5⟩,e6⟩:=hc;obtain rfl:=bc e1;obtain rfl:=bc e2;obtain rfl:=bc e3;obtain rfl:=bc e4;obtain rfl:=bc e5;split at e6
  .rename_i e' hu;obtain rfl:=bc e6;unfold CQ;refine lG (l:=[_,_]) ?_;have g1:GS P ⟨some a,.move (.tmp x),f,g,af1,none⟩ st (st.put (some a) (.sl l n)):=fM (o:=⟨some a,.move (.tmp x),f,g,af1,none⟩) (λd hd=>by cases hd;exact h1) (by show some (aD st.fr x)=_;rw[hx]);refine .inl ⟨rfl,g1.gsn.mn ?_⟩;rintro s rfl;have g2:=QU (P:=P) (o:=⟨some r,.binOp .eql t' (.tmp a) (.const (.slice none 0 0)) z,k,m,q,none⟩) (st:=st.put (some a) (.sl l n)) (u:=true) ⟨z,rfl⟩ hu (λd hd=>by cases hd;exact h2) (l:=l) (n:=n) (by show aD _ _=_;simp[St.put,aD]);refine .inl ⟨rfl,g2.mn ?_⟩;rintro s ⟨b,hb,rfl⟩;exact h b hb
  .cases e6
 .cases hc
end
section
attribute [local irreducible] Tr dz Gp
def ptG:Nat->Nat->Br->Br
 |0,_,l=>l
 |f+1,n,l=>bif Nat.ble n 1 then l else ptG f (n/10) (n%10::l)
instance(n:Nat):OfNat Br n:=⟨ptG 60 n []⟩
def rI(n:Nat):List (Nat×Nat):=(List.range n).map λi=>(i,i)
abbrev s0(n:Nat)(gl:List (Nat×Bk))(fr:Fr)(σ:aQ)(c p:Nat):St:=⟨n,gl,fr,σ,c,p,false⟩
abbrev ob(i t:Nat)(l:Bk):Nat×Option Ob:=(i,some ⟨t,l,none⟩)
def RD{α:Type}(A:List HP)(e:Option α)(r:α)(X:Prop):Prop:=e=some r->X
def Yw{β:Type}(q:Nat×β):List (Nat×β)->List (Nat×β)
 |[]=>[q]
 |z::r=>bif Nat.beq z.1 q.1 then q::r else bif Nat.blt q.1 z.1 then q::z::r else z::Yw q r
def sx(d:Br)(ad:Fr)(σ:aQ)(c:Nat)(s:St):St:=⟨s.n,s.gl,ad.foldr Yw (s.fr.filter λq=> !d.any (Nat.beq q.1)),σ,c,s.p,s.r⟩
def sk(d:Br)(ad:Fr)(σ:aQ)(c:Nat)(s:St):St:=⟨s.n,s.gl,ad.foldr Yw (s.fr.filter λq=>d.any (Nat.beq q.1)),σ,c,s.p,s.r⟩
def so(d:Br)(ad:Fr)(l:aQ)(c:Nat)(s:St):St:=sx d ad (l.foldr Yw s.σ) c s
def sp(d:Br)(ad:Fr)(l:aQ)(c:Nat)(s:St):St:=sk d ad (l.foldr Yw s.σ) c s
def sf(d:Br)(ad:Fr)(s:St):St:=sx d ad s.σ s.c s
def sg(d:Br)(ad:Fr)(s:St):St:=sk d ad s.σ s.c s
abbrev c0{α:Type}(x:α):α:=x
abbrev c1{α β:Type}(x:β):α⊕β:= .inr x
abbrev c2{α β γ:Type}(x:β):α⊕(β⊕γ):= .inr (.inl x)
abbrev c3{α β γ:Type}(x:γ):α⊕(β⊕γ):= .inr (.inr x)
abbrev c4{α β:Type}(x:α):α⊕β:= .inl x
section
variable {P:Bu} {α β σ X V:Type} {A:List HP} {e:Option α} {r:α} {Y:Prop}
theorem ak{e:Option β}{F:β->Option α}(k:∀y,e=some y->RD A (F y) r Y):RD A (e.bind F) r Y:=λh=>by obtain⟨y,e1,h⟩:=bS h;exact k y e1 h
theorem aw(L:List HP)(k:RD (L++A) e r Y):RD A e r Y:=k
theorem aF(d:Nat){c:Bool}{a b:Option α}(k1:∀{t:c=true},RD (hr d t::A) a r Y)(k2:∀{t:c=false},RD (hr d t::A) b r Y):RD A (bif c then a else b) r Y:=λh=>by
 rcases bC h with⟨t,h⟩|⟨t,h⟩
 .exact k1 (t:=t) h
 .exact k2 (t:=t) h
theorem kV{c:Bool}{a b:Option α}(k1:c=true->RD A a r Y)(k2:c=false->RD A b r Y):RD A (bif c then a else b) r Y:=by grind
variable [M:Mix P] {fn:Func} {Q:Exit->St->Prop} {Bs Bs':List (St->Prop)} {m:Bool} {p:Br} {st:St}
theorem eH(l:Br){c:Bool}{a b:Option α}(k1:∀{t:c=true},RD A a r (Gp P fn Q Bs m p (sf [] (l.map λd=>(d,bG true)) st)))(k2:∀{t:c=false},RD A b r (Gp P fn Q Bs m p (sf [] (l.map λd=>(d,bG false)) st)))(h:sf [] (l.map λd=>(d,bG c)) st=st:=by kernel_rfl):RD A (bif c then a else b) r (Gp P fn Q Bs m p st):=by grind
def DL(P:Bu)(gl:CC)(e:Option α)(f:FuncId)(gs:Bk)(g:α->G):Prop:=∀⦃r⦄,e=some r->ba P gl f gs (g r)
def M5(P:Bu)(gl:CC)(e:Option (List β))(f:FuncId)(gs:Bk)(t:Bj)(c:β->Bk):Prop:=∀⦃r⦄,e=some r->iV P gl f gs t r.length (r.flatMap c)
theorem cy{fn:Func}{gl:CC}{gs:Bk}{g:α->G}(hf:P.funcs[f]?=some fn)(h:∀{Q r},(∀a,r=a->Q=tH P fn (g a))->RD [] e r (Gp P fn Q [] false [] ⟨fn.ntmps,gl,bQ 0 gs,[],0,0,false⟩))(hb:fn.body.isSome=true:=by kernel_rfl)(hn:Nat.ble gs.length fn.ntmps=true:=by kernel_rfl):DL P gl e f gs g:=λr h0=>Gh hf (h (by grind) h0) hb hn
theorem gc{fn:Func}{gl:CC}{c:β->Bk}{e:Option (List β)}(hf:P.funcs[f]?=some fn)(h:∀{Q r},(∀a,r=a->Q=zE P fn (.rsl 0 0 a.length) [(0,some ⟨t,a.flatMap c,none⟩)])->RD [] e r (Gp P fn Q [] false [] ⟨fn.ntmps,gl,bQ 0 gs,[],0,0,false⟩))(hb:fn.body.isSome=true:=by kernel_rfl)(hn:Nat.ble gs.length fn.ntmps=true:=by kernel_rfl):M5 P gl e f gs t c:=λr h0=>OW hf (h (by grind) h0) hb hn
theorem Yx{fn:Func}{gl:CC}{σ0:aQ}{c:Nat}(g:α->G)(s1:α->aQ)(hf:P.funcs[f]?=some fn)(h0:e=some r)(hp:∀i,i<c->∃ob,ag σ0 i=some ob)(h:∀{Q},(∀a,r=a->Q=zE P fn (g a) (s1 a))->RD [] e r (Gp P fn Q [] false [] ⟨fn.ntmps,gl,bQ 0 gs,σ0,c,c,false⟩))(hb:fn.body.isSome=true:=by kernel_rfl)(hn:Nat.ble gs.length fn.ntmps=true:=by kernel_rfl):OU P gl f gs σ0 c c (g r) (s1 r):=ZU hf (h (by grind) h0) hp hb hn
theorem cC{e:Option β}{F:β->Option α}(q:Br)(J:β->St->St)(c:∀y,RD [] (F y) r (Gp P fn Q Bs true q (J y st)))(h:∀y,(∀z,y=z->Gp P fn Q Bs true q (J z st))->RD A e y (Gp P fn Q Bs m p st)):RD A (e.bind F) r (Gp P fn Q Bs m p st):=λh0=>by obtain⟨y,e1,h1⟩:=bS h0;exact h y (λz hz=>by subst hz;exact c y h1) e1
theorem rdM{e:Option (X⊕α)}{F:X->Option α}(q:Br)(J:X->St->St)(c:∀y,RD [] (F y) r (Gp P fn Q Bs true q (J y st)))(h:∀j,(∀y,j= .inl y->Gp P fn Q Bs true q (J y st))->(∀w,j= .inr w->w=r)->RD A e j (Gp P fn Q Bs m p st)):RD A (e.bind λj=>ma j F some) r (Gp P fn Q Bs m p st):=λh0=>by
 obtain⟨j,e1,h1⟩:=bS h0;refine h j (λy hy=>?_) (λw hw=>?_) e1
 .subst hy;exact c y h1
 .subst hw;exact Bp h1
def aay(P:Bu)(fn:Func)(Bs:List (St->Prop))(m:Bool)(p q:Br)(A O:List HP)(vs:List Bj)(ρ:DH)(kd:List (Nat×Rk))(J st:St):Prop:=Ua A (Xs P (bK A) (wT (bq q (ai fn))) (LQ m p (ai fn)) (bE p (ai fn) Bs []) vs ρ kd J st) (pR O,J,bq q (ai fn),bE q (ai fn) Bs [])
theorem cN(q:Br)(J:St->St)(O:List HP)(k:RD [] e r (Gp P fn Q Bs false q (J st)))(vs:List Bj:=[])(ρ:DH:=[])(kd:List (Nat×Rk):=[])(h:aay P fn Bs m p q A O vs ρ kd (J st) st:=by exact⟨aH,aH⟩):RD A e r (Gp P fn Q Bs m p st):=λh0=>pO q (J st) A O (k h0) vs ρ kd h
def Yy(P:Bu)(fn:Func)(Bs:List (St->Prop))(m:Bool)(p b:Br)(A O:List HP)(vs:List Bj)(ρ:DH)(kd:List (Nat×Rk))(J st:St):Prop:=(Ua A (Xr P (bK A) (LQ m p (ai fn)) (bE p (ai fn) Bs []) vs ρ kd J st) (pR O,J,bq b (ai fn),Oj fn Bs b))/\∀B,bE b (ai fn) (Bs++[B]) []= .lp B::Oj fn Bs b
theorem rdL{step:σ->Option (σ⊕β)}{s0:σ}{F:β->Option α}(q b:Br)(J:β->St->St)(S:σ->St->St)(O:List HP)(c:∀y,RD [] (F y) r (Gp P fn Q Bs true q (J y st)))(h:∀{B:St->Prop} {v:σ⊕β} (s:σ),(∀s',v= .inl s'->B (S s' st))->(∀y,v= .inr y->Gp P fn Q Bs true q (J y st))->RD [] (step s) v (Gp P fn Q (Bs++[B]) false b (S s st)))(vs:List Bj:=[])(ρ:DH:=[])(kd:List (Nat×Rk):=[])(k:Yy P fn Bs m p b A O vs ρ kd (S s0 st) st:=by exact⟨⟨aH,aH⟩,λ_=>aH⟩):RD A ((AH step s0).bind F) r (Gp P fn Q Bs m p st):=λh0=>by obtain⟨x,e1,h1⟩:=bS h0;exact pN (λs=>S s st) b e1 A O (λB s v hv h5 h4=>h s h5 (λy hy=>h4 y hy▸c x h1) hv) vs ρ kd k.1 k.2
theorem qf{step:σ->Option (σ⊕(X⊕V))}{s0:σ}{F:X->Option α}{rs:V->α}{Z:V->Prop}(q b:Br)(J:X->St->St)(S:σ->St->St)(O:List HP)(K:∀q,r=rs q->Z q)(c:∀y,RD [] (F y) r (Gp P fn Q Bs true q (J y st)))(h:∀{B:St->Prop} {v:σ⊕(X⊕V)} (s:σ),(∀s',v= .inl s'->B (S s' st))->(∀y,v= .inr (.inl y)->Gp P fn Q Bs true q (J y st))->(∀q,v= .inr (.inr q)->Z q)->RD [] (step s) v (Gp P fn Q (Bs++[B]) false b (S s st)))(vs:List Bj:=[])(ρ:DH:=[])(kd:List (Nat×Rk):=[])(k:Yy P fn Bs m p b A O vs ρ kd (S s0 st) st:=by exact⟨⟨aH,aH⟩,λ_=>aH⟩):RD A ((AH step s0).bind λx=>ma x F λq=>some (rs q)) r (Gp P fn Q Bs m p st):=λh0=>by
 obtain⟨x,e1,h1⟩:=bS h0;refine pN (λs=>S s st) b e1 A O (λB s v hv h5 h4=>h s h5 (λy hy=>?_) (λz hz=>?_) hv) vs ρ kd k.1 k.2
 .have:=h4 _ hy;subst this;exact c y h1
 .have:=h4 _ hz;subst this;exact K z (Bp h1).symm
def aaz(P:Bu)(fn:Func)(Bs Bs':List (St->Prop))(m:Bool)(p q:Br)(A O:List HP)(vs:List Bj)(ρ:DH)(kd:List (Nat×Rk))(J st:St):Prop:=(Ua A (Xm P (bK A) (LQ m p (ai fn)) (Wm fn Bs Bs' p q) vs ρ kd J st) (pR O,J))/\Wm fn Bs Bs' p q++bE q (ai fn) Bs' []=bE p (ai fn) Bs []
theorem aA{J:β->St}{t:β}(c:β->α)(d:∀y,r=c y->Gp P fn Q Bs' true q (J y))(O:List HP)(vs:List Bj:=[])(ρ:DH:=[])(kd:List (Nat×Rk):=[])(h:aaz P fn Bs Bs' m p q A O vs ρ kd (J t) st:=by exact⟨⟨aH,aH⟩,aH⟩):RD A (some (c t)) r (Gp P fn Q Bs m p st):=λh0=>yl q A O (by grind) vs ρ kd h.1 h.2
def aaA(P:Bu)(fn:Func)(Bs:List (St->Prop))(m:Bool)(p:Br)(A O:List HP)(vs:List Bj)(ρ:DH)(kd:List (Nat×Rk))(B:St->Prop)(J st:St):Prop:=Ua A (Xn P (bK A) (LQ m p (ai fn)) (bE p (ai fn) Bs []) vs ρ kd J st) (pR O,J,B)
theorem cj{B:St->Prop}{J:β->St}{t:β}{r:β⊕α}(k5:∀s',r= .inl s'->B (J s'))(O:List HP)(vs:List Bj:=[])(ρ:DH:=[])(kd:List (Nat×Rk):=[])(h:aaA P fn Bs m p A O vs ρ kd B (J t) st:=by exact⟨aH,aH⟩):RD A (some (.inl t)) r (Gp P fn Q Bs m p st):=λh0=>jw A O (by grind) vs ρ kd h
def aaB(P:Bu)(fn:Func)(Bs:List (St->Prop))(m:Bool)(p:Br)(A O:List HP)(g:G)(st:St):Prop:=Ua A (Xo P (bK A) (LQ m p (ai fn)) (bE p (ai fn) Bs []) fn g st) (pR O,g)
theorem aP{g:β->G}{a:β}(c:β->α)(K:∀a,r=c a->Q=tH P fn (g a))(O:List HP)(h:aaB P fn Bs m p A O (g a) st:=by exact⟨aH,aH⟩):RD A (some (c a)) r (Gp P fn Q Bs m p st):=λh0=>by rw[K a (by grind)];exact Ar A O h
def aaC(P:Bu)(fn:Func)(Bs:List (St->Prop))(m:Bool)(p:Br)(A:List HP)(t:Bj)(l:Bk)(c:Nat)(st:St):Prop:=Ua A (Xp P (bK A) (LQ m p (ai fn)) (bE p (ai fn) Bs []) fn t st) (∀g∈l,bB g,c,l)
theorem mr{f:β->Bk}{a:List β}(c:List β->α)(K:∀a,r=c a->Q=zE P fn (.rsl 0 0 a.length) [(0,some ⟨t,a.flatMap f,none⟩)])(hi:∀g∈a.flatMap f,bB g)(d:Nat:=a.length)(hn:d=a.length:=by rfl)(h:aaC P fn Bs m p A t (a.flatMap f) d st:=by exact⟨aH,aH⟩):RD A (some (c a)) r (Gp P fn Q Bs m p st):=λh0=>by rw[K a (by grind)];exact EI A hi d hn h
def aaD(P:Bu)(fn:Func)(Bs:List (St->Prop))(m:Bool)(p:Br)(A O:List HP)(ρ:DH)(kd:List (Nat×Rk))(g:G)(σ1:aQ)(st:St):Prop:=Ua A (Xq P (bK A) (LQ m p (ai fn)) (bE p (ai fn) Bs []) fn ρ kd g σ1 st) (pR O,g,σ1)
theorem rdU{g:β->G}{σ1:β->aQ}{a:β}(c:β->α)(K:∀a,r=c a->Q=zE P fn (g a) (σ1 a))(O:List HP)(ρ:DH)(kd:List (Nat×Rk))(h:aaD P fn Bs m p A O ρ kd (g a) (σ1 a) st:=by exact⟨aH,aH⟩):RD A (some (c a)) r (Gp P fn Q Bs m p st):=λh0=>by rw[K a (by grind)];exact ZT A O ρ kd h
end
section
variable {P:Bu} {ts te:Bj} {k:Nat} {α:Type} {f:α->Bk}
theorem AQ.fdY(R:AQ P ts te k f){t:Bj}(ha:fg P t=some false)(j:Nat){g:α->G}(hg:∀x,(f x)[j]?=some (g x):=by intro _;rfl){l:List α}{i:Int}{x:α}(h:aS l i=some x):dN P t (l.flatMap f) (i.toNat*k+j)=some (g x):=R.fdZ ha j h (hg x)
theorem AQ.fd0Y(R:AQ P ts te k f){t:Bj}(ha:fg P t=some false)(j:Nat){g:α->G}(hg:∀x,(f x)[j]?=some (g x):=by intro _;rfl){l:List α}{i:Int}{x:α}(h:aS l i=some x):dN P t (l.flatMap f) (0+i.toNat*k+j)=some (g x):=R.fd0Z ha j h (hg x)
theorem AQ.p1Y(R:AQ P ts te 1 f)(ha:fg P te=some false){g:α->G}(hg:∀x,f x=[g x]:=by intro _;rfl){l:List α}{i:Int}{x:α}(h:aS l i=some x):dN P te (l.flatMap f) (i.toNat*1)=some (g x):=R.p1Z ha h (hg x)
theorem AQ.p10Y(R:AQ P ts te 1 f)(ha:fg P te=some false){g:α->G}(hg:∀x,f x=[g x]:=by intro _;rfl){l:List α}{i:Int}{x:α}(h:aS l i=some x):dN P te (l.flatMap f) (0+i.toNat*1)=some (g x):=R.p10Z ha h (hg x)
theorem AQ.fo(R:AQ P ts te k f){gl:CC}{fid:FuncId}{gs:Bk}{l:List α}(h:iV P gl fid gs te l.length (l.flatMap f)):ba P gl fid gs (aE f l):=h.fn R.sz (R.len _) (R.imm _)
abbrev DP(R:AQ P ts te k f)(l:List α):List HP:=[hc (el l),hc (R.imm l)]
end
section
variable {P:Bu} {α β:Type} {A:List HP} {e:Option β} {F:β->Option α} {r:α} {Y:Prop}
theorem Gd(H:∀{y},e=some y->HP)(k:∀y {h:e=some y},RD (H h::A) (F y) r Y):RD A (e.bind F) r Y:=ak λy h=>k y (h:=h)
theorem BG(d:Nat){gl:CC}{g:β->G}(H:DL P gl e f gs g)(k:∀y {h:e=some y},RD (hf d (H h)::A) (F y) r Y):RD A (e.bind F) r Y:=ak λy h=>k y (h:=h)
theorem JI(d:Nat){te:Bj}{k:Nat}{δ:Type}{c:δ->Bk}{e:Option (List δ)}{F:List δ->Option α}{gl:CC}{gs:Bk}(R:AQ P ts te k c)(H:M5 P gl e f gs te c)(kk:∀y {h:e=some y},RD (hf d (R.fo (H h))::A) (F y) r Y):RD A (e.bind F) r Y:=ak λy h=>kk y (h:=h)
theorem rdv(d:Nat){X:β->Option G}{g:β->G}(H:∀{y},e=some y->X y=some (g y))(k:∀y {h:e=some y},RD (AB d (H h)::A) (F y) r Y):RD A (e.bind F) r Y:=ak λy h=>k y (h:=h)
theorem CD(d:Nat){X:β->Option G}{g:β->G}(H:∀{y},e=some y->X y=some (g y))(c:Nat){X':β->Option G}{g':β->G}(H':∀{y},e=some y->X' y=some (g' y))(k:∀y {h:e=some y},RD (AB d (H h)::AB c (H' h)::A) (F y) r Y):RD A (e.bind F) r Y:=ak λy h=>k y (h:=h)
variable [M:Mix P] {fn:Func} {Q:Exit->St->Prop} {Bs Bs':List (St->Prop)} {m:Bool} {p:Br} {st:St}
theorem rv{g:α->G}{a:α}(K:∀a,r=a->Q=tH P fn (g a))(h:aaB P fn Bs m p A [] (g a) st:=by exact⟨aH,aH⟩):RD A (some a) r (Gp P fn Q Bs m p st):=aP c0 K [] h
theorem rx{J:α->St}{t:α}(c:∀y,r=y->Gp P fn Q Bs' true q (J y))(h:aaz P fn Bs Bs' m p q A [] [] [] [] (J t) st:=by exact⟨⟨aH,aH⟩,aH⟩):RD A (some t) r (Gp P fn Q Bs m p st):=aA c0 c [] [] [] [] h
theorem rb{B:St->Prop}{J:β->St}{t:β}{r:β⊕α}(k5:∀s',r= .inl s'->B (J s'))(h:aaA P fn Bs m p A [] [] [] [] B (J t) st:=by exact⟨aH,aH⟩):RD A (some (.inl t)) r (Gp P fn Q Bs m p st):=cj k5 [] [] [] [] h
section
variable {a b:Option α} {e:Fo}
theorem N4(q:Br)(S:St->St)(O:List HP)(d:Nat)(k1:RD [] a r (Gp P fn Q Bs true q (sf [] [(d,bG true)] (S st))))(k2:RD [] b r (Gp P fn Q Bs true q (sf [] [(d,bG false)] (S st))))(h:∀{y},(∀z,y=z->Gp P fn Q Bs true q (sf [] [(d,bG z)] (S st)))->RD [] e y (Gp P fn Q Bs false q (S st)))(vs:List Bj:=[])(ρ:DH:=[])(kd:List (Nat×Rk):=[])(c:aay P fn Bs m p q A O vs ρ kd (S st) st:=by exact⟨aH,aH⟩):RD A (e.bind λj=>bif j then a else b) r (Gp P fn Q Bs m p st):=cN q S O (cC q (λj=>sf [] [(d,bG j)]) (fun|true=>k1|false=>k2) λ_ k=>h k) vs ρ kd c
theorem Acd(q:Br)(S:St->St)(O:List HP)(d:Nat)(k1:RD [] a r (Gp P fn Q Bs true q (sk [] [(d,bG true)] [] 0 (S st))))(k2:RD [] b r (Gp P fn Q Bs true q (sk [] [(d,bG false)] [] 0 (S st))))(h:∀{y},(∀z,y=z->Gp P fn Q Bs true q (sk [] [(d,bG z)] [] 0 (S st)))->RD [] e y (Gp P fn Q Bs false q (S st)))(vs:List Bj:=[])(ρ:DH:=[])(kd:List (Nat×Rk):=[])(c:aay P fn Bs m p q A O vs ρ kd (S st) st:=by exact⟨aH,aH⟩):RD A (e.bind λj=>bif j then a else b) r (Gp P fn Q Bs m p st):=cN q S O (cC q (λj=>sk [] [(d,bG j)] [] 0) (fun|true=>k1|false=>k2) λ_ k=>h k) vs ρ kd c
end
variable {σ X V:Type}
theorem I5{step:σ->Option (σ⊕β)}{s0:σ}{F:β->Option α}(q:Br)(J:β->St->St)(S:σ->St->St)(O:List HP)(c:∀y,RD [] (F y) r (Gp P fn Q Bs true q (J y st)))(h:∀{B:St->Prop} {v:σ⊕β} (s:σ),(∀s',v= .inl s'->B (S s' st))->(∀y,v= .inr y->Gp P fn Q Bs true q (J y st))->RD [] (step s) v (Gp P fn Q (Bs++[B]) false (q++[2,2]) (S s st)))(vs:List Bj:=[])(ρ:DH:=[])(kd:List (Nat×Rk):=[])(k:Yy P fn Bs m p (q++[2,2]) A O vs ρ kd (S s0 st) st:=by exact⟨⟨aH,aH⟩,λ_=>aH⟩):RD A ((AH step s0).bind F) r (Gp P fn Q Bs m p st):=rdL q (q++[2,2]) J S O c h vs ρ kd k
theorem O7{step:σ->Option (σ⊕(X⊕V))}{s0:σ}{F:X->Option α}{rs:V->α}{Z:V->Prop}(q:Br)(J:X->St->St)(S:σ->St->St)(O:List HP)(K:∀q,r=rs q->Z q)(c:∀y,RD [] (F y) r (Gp P fn Q Bs true q (J y st)))(h:∀{B:St->Prop} {v:σ⊕(X⊕V)} (s:σ),(∀s',v= .inl s'->B (S s' st))->(∀y,v= .inr (.inl y)->Gp P fn Q Bs true q (J y st))->(∀q,v= .inr (.inr q)->Z q)->RD [] (step s) v (Gp P fn Q (Bs++[B]) false (q++[2,2]) (S s st)))(vs:List Bj:=[])(ρ:DH:=[])(kd:List (Nat×Rk):=[])(k:Yy P fn Bs m p (q++[2,2]) A O vs ρ kd (S s0 st) st:=by exact⟨⟨aH,aH⟩,λ_=>aH⟩):RD A ((AH step s0).bind λx=>ma x F λq=>some (rs q)) r (Gp P fn Q Bs m p st):=qf q (q++[2,2]) J S O K c h vs ρ kd k
end
end
instance:Mix prog:=⟨aH⟩
def cZ(x:Int):Bk:=[iG x]
theorem tZ:fg prog 3=some false:=aH
def cW(x:Nat):Bk:=[uG x]
theorem tW:fg prog 36=some false:=aH
structure Ab where
 By:Int
 Seq:Int
 Sum:Nat
 deriving DecidableEq
def aj(x:Ab):Bk:=[iG x.By,iG x.Seq,uG x.Sum]
theorem aW:fg prog 41=some true:=aH
theorem jz:bw prog 41=some 3:=aH
structure HD where
 Kind:Int
 Of:Ab
 N:Int
 M:Int
 deriving DecidableEq
def fT(x:HD):Bk:=[iG x.Kind,iG x.Of.By,iG x.Of.Seq,uG x.Of.Sum,iG x.N,iG x.M]
def cO(x:Bool):Bk:=[bG x]
theorem tO:fg prog 4=some false:=aH
structure Anv where
 Lead:Bool
 Of:Ab
 N:Int
 Private:Nat
 deriving DecidableEq
structure ApY where
 Device:Int
 L:List Anv
def cY(x:UInt8):Bk:=[gY x]
theorem tY:fg prog 5=some false:=aH
theorem rY:AQ prog 63 5 1 cY:=⟨aH,aH,BU,λ_=>rfl,λ_=>rfl⟩
theorem lY(l:CY):∀g∈l.flatMap cY,∃v,g= .lit v:=Gj (λx g hg=>by simp only[cY,EG,K3,or_false] at hg;rcases hg with rfl<;>exact⟨_,rfl⟩) l
theorem rZ:AQ prog 22 3 1 cZ:=⟨aH,aH,BU,λ_=>rfl,λ_=>rfl⟩
theorem lZ(l:Bn):∀g∈l.flatMap cZ,∃v,g= .lit v:=Gj (λx g hg=>by simp only[cZ,EG,K3,or_false] at hg;rcases hg with rfl<;>exact⟨_,rfl⟩) l
structure DR where
 Device:Int
 Member:Int
 Lead:Nat
 Keep:Nat
 Sign:Nat
 deriving DecidableEq
def bv(x:DR):Bk:=[iG x.Device,iG x.Member,uG x.Lead,uG x.Keep,uG x.Sign]
theorem E2:fg prog 147=some true:=aH
theorem Pb:fg prog 26=some false:=aH
structure Hd where
 To:Nat
 Eph:Nat
 Body:Nat
 Tag:Nat
 deriving DecidableEq
def cz(x:Hd):Bk:=[uG x.To,uG x.Eph,uG x.Body,uG x.Tag]
theorem UL:fg prog 186=some true:=aH
theorem E3:fg prog 65=some false:=aH
structure Fp where
 Pub:Nat
 Boxes:List Hd
def bY(x:Fp):Bk:=[uG x.Pub,aE cz x.Boxes]
theorem Pc:fg prog 102=some true:=aH
theorem tLY:fg prog 63=some false:=aH
def Jc(x:Bn):Bk:=[aE cZ x]
theorem Vs:fg prog 22=some false:=aH
structure DT where
 Of:Ab
 Body:CY
def bp(x:DT):Bk:=[iG x.Of.By,iG x.Of.Seq,uG x.Of.Sum,aE cY x.Body]
theorem GM:fg prog 190=some true:=aH
structure YB where
 R:Nat
 S:Nat
 deriving DecidableEq
def yy(x:YB):Bk:=[uG x.R,uG x.S]
structure Bo where
 By:Int
 Seq:Int
 Kind:Int
 At:Int
 Past:List Ab
 Device:Int
 Old:Int
 Member:Int
 Role:Int
 Path:List Fp
 Epoch:Ab
 N:Int
 Body:CY
 Refs:Br
 Of:Ab
 Guards:Bn
 Need:Int
 Wait:Int
 Boxes:List Hd
 Pub:Nat
 Hist:List DT
 Sig:YB
def aJ(x:Bo):Bk:=[iG x.By,iG x.Seq,iG x.Kind,iG x.At,aE aj x.Past,iG x.Device,iG x.Old,iG x.Member,iG x.Role,aE bY x.Path,iG x.Epoch.By,iG x.Epoch.Seq,uG x.Epoch.Sum,iG x.N,aE cY x.Body,aE cW x.Refs,iG x.Of.By,iG x.Of.Seq,uG x.Of.Sum,aE cZ x.Guards,iG x.Need,iG x.Wait,aE cz x.Boxes,uG x.Pub,aE bp x.Hist,uG x.Sig.R,uG x.Sig.S]
theorem GN:fg prog 70=some true:=aH
def OT(x:List Bool):Bk:=[aE cO x]
theorem Vt:fg prog 152=some false:=aH
structure Bc where
 Cards:List DR
 L:List Bo
 IDs:List Ab
 Up:K4
 In:List (List Bool)
def aI(x:Bc):Bk:=[aE bv x.Cards,aE aJ x.L,aE aj x.IDs,aE Jc x.Up,aE OT x.In]
theorem bT:AQ prog 24 147 5 bv:=⟨aH,aH,BU,λ_=>rfl,λ_=>rfl⟩
theorem eJ:AQ prog 25 70 27 aJ:=⟨aH,aH,BU,λ_=>rfl,λ_=>rfl⟩
theorem ac:AQ prog 26 41 3 aj:=⟨aH,aH,BU,λ_=>rfl,λ_=>rfl⟩
theorem kF(l:List Ab):∀g∈l.flatMap aj,∃v,g= .lit v:=Gj (λx g hg=>by simp only[aj,EG,K3,or_false] at hg;rcases hg with rfl|rfl|rfl<;>exact⟨_,rfl⟩) l
theorem bZ:AQ prog 62 102 2 bY:=⟨aH,aH,BU,λ_=>rfl,λ_=>rfl⟩
theorem EP:AQ prog 65 186 4 cz:=⟨aH,aH,BU,λ_=>rfl,λ_=>rfl⟩
theorem rW:AQ prog 64 36 1 cW:=⟨aH,aH,BU,λ_=>rfl,λ_=>rfl⟩
theorem lW(l:Br):∀g∈l.flatMap cW,∃v,g= .lit v:=Gj (λx g hg=>by simp only[cW,EG,K3,or_false] at hg;rcases hg with rfl<;>exact⟨_,rfl⟩) l
theorem bH:AQ prog 66 190 4 bp:=⟨aH,aH,BU,λ_=>rfl,λ_=>rfl⟩
theorem nH:AQ prog 27 22 1 Jc:=⟨aH,aH,BU,λ_=>rfl,λ_=>rfl⟩
theorem zV:AQ prog 28 152 1 OT:=⟨aH,aH,BU,λ_=>rfl,λ_=>rfl⟩
theorem rO:AQ prog 152 4 1 cO:=⟨aH,aH,BU,λ_=>rfl,λ_=>rfl⟩
theorem lO(l:List Bool):∀g∈l.flatMap cO,∃v,g= .lit v:=Gj (λx g hg=>by simp only[cO,EG,K3,or_false] at hg;rcases hg with rfl<;>exact⟨_,rfl⟩) l
structure Anx where
 At:Int
 N:Int
 Private:Nat
 deriving DecidableEq
structure GR where
 N:Int
 Role:Int
 Is:Bool
 ID:Ab
 Guards:Bn
 Need:Int
 Wait:Int
 Objected:Bool
 Last:Int
def jG(x:GR):Bk:=[iG x.N,iG x.Role,bG x.Is,iG x.ID.By,iG x.ID.Seq,uG x.ID.Sum,aE cZ x.Guards,iG x.Need,iG x.Wait,bG x.Objected,iG x.Last]
theorem LG:fg prog 310=some true:=aH
structure I6 where
 Of:Ab
 By:Int
 Device:Int
 At:Int
 deriving DecidableEq
def nJ(x:I6):Bk:=[iG x.Of.By,iG x.Of.Seq,uG x.Of.Sum,iG x.By,iG x.Device,iG x.At]
theorem Pd:fg prog 382=some true:=aH
structure DE where
 Cards:List DR
 In:Bn
 Gone:Bn
 L:List GR
 Back:Int
 V:List I6
def aU(x:DE):Bk:=[aE bv x.Cards,aE cZ x.In,aE cZ x.Gone,aE jG x.L,iG x.Back,aE nJ x.V]
theorem bI:AQ prog 247 310 11 jG:=⟨aH,aH,BU,λ_=>rfl,λ_=>rfl⟩
theorem bV:AQ prog 248 382 6 nJ:=⟨aH,aH,BU,λ_=>rfl,λ_=>rfl⟩
structure JW where
 Row:Bn
 Void:List Bool
 Fork:List Bool
 Decided:List Bool
def fU(x:JW):Bk:=[aE cZ x.Row,aE cO x.Void,aE cO x.Fork,aE cO x.Decided]
theorem E4(l:CY):l.flatMap cY=l.map gY:=by
 induction l with
 |nil=>rfl
 |cons x r ih=>rw[List.flatMap_cons,ih];rfl
theorem aaf(s:CY):nu prog 9=true/\G.lit (.int .i64 ((⟨s.toArray⟩:ByteArray).size:Int))=iG (ah s):=⟨aH,rfl⟩
def hL(d:Nat)(s:CY):HP:=⟨some (.v d (iG (ah s))),nu prog 9=true/\G.lit (.int .i64 ((⟨s.toArray⟩:ByteArray).size:Int))=iG (ah s),aaf s⟩
theorem Vu{s t:CY}(h:Gk s=some t):iQ prog [] 9 63 (sG s)=some (aE cY t):=by
 unfold Gk at h;split at h
 .rename_i hl;cases h;have e1:dp prog 63=some 5:=aH;have e2:xR prog 5=some .u8:=aH;have e3:nu prog 9=true:=aH;unfold iQ;simp only[e1,e2,e3,Bool.true_and];rw[Nk (by simpa using hl)];simp only[ax,Kb,aE,E4]
 .cases h
def hcB(d:Nat){s t:CY}(h:Gk s=some t):HP:=⟨some (.c d (aE cY t)),iQ prog [] 9 63 (sG s)=some (aE cY t),Vu h⟩
theorem xl:∀l:CY,A5 (l.map gY)=some l
 |[]=>rfl
 |x::r=>by have h:=x.toNat_lt;simp only[Fi,gY,A5];rw[BB aa,xl r];simp
theorem aag(l:CY):iQ prog [] 63 9 (aE cY l)=some (sG l):=by have e1:dp prog 63=some 5:=aH;have e2:xR prog 5=some .u8:=aH;have e3:nu prog 9=true:=aH;unfold iQ;simp only[aE,e1,e2,fO,E4,Gq,Nat.mul_one,if_true,xl,e3,Bool.true_and,Nat.beq_refl,ax]
def XY(d:Nat)(l:CY):HP:=⟨some (.c d (sG l)),iQ prog [] 63 9 (aE cY l)=some (sG l),aag l⟩
def XZ(d:Nat){l s y:CY}(h:aT 1 l s=some y):HP:=ha d (y.flatMap cY) y.length (p:=(l.flatMap cY).length=l.length*1/\l.length+s.length<=140737488355328/\l.flatMap cY++s.map gY=y.flatMap cY/\l.length+s.length=y.length) (by obtain⟨h1,rfl⟩:=jx h;exact⟨rY.len l,aa,by rw[List.flatMap_append,E4 s],List.length_append.symm⟩)
def Pe(x:Ab):List Value:=[.int .i64 x.By,.int .i64 x.Seq,.int .u64 (x.Sum:Int)]
theorem Pf(d:Nat)(i j:Ab):bt prog (Op.equalIn (d+3) 41 (.agg (Pe i).toArray) (.agg (Pe j).toArray))=some (decide (i=j)):=by
 obtain⟨a,b,c⟩:=i;obtain⟨x,y,z⟩:=j;rw[xV (fs:= #[⟨ "By",3,0,false, "", "",0⟩,⟨ "Seq",3,1,false, "", "",8⟩,⟨ "Sum",36,2,false, "", "",16⟩]) aH aH];simp only[Array.toList];rw[uJ (k:= .i64) (k':= .i64) (a:=a) (b:=x) BU aH aH aH];rw[uJ (k:= .i64) (k':= .i64) (a:=b) (b:=y) BU aH aH aH];rw[uJ (k:= .u64) (k':= .u64) (a:=(c:Int)) (b:=(z:Int)) BU aH aH aH];simp only[Ab.mk.injEq];by_cases h1:a=x
 .by_cases h2:b=y
  .by_cases h3:c=z
   .simp[h1,h2,h3,Op.eqFields,bz]
   .have:¬((c:Int)=(z:Int)):=aa;simp[h1,h2,h3,this]
  .simp[h1,h2]
 .simp[h1]
theorem dU(i j:Ab){r:Bool}(h:decide (i=j)=r):∀p q:DC,b8 prog .eql 41 p q (.agg (aj i)) (.agg (aj j))=some (bG r):=λp q=>by subst h;exact Eo (us:=Pe i) (vs:=Pe j) aH aH aH (Pf 9997 i j)
theorem dy(i j:Ab){r:Bool}(h:(!decide (i=j))=r):∀p q:DC,b8 prog .neq 41 p q (.agg (aj i)) (.agg (aj j))=some (bG r):=λp q=>by subst h;exact Cb (us:=Pe i) (vs:=Pe j) aH aH aH (Pf 9997 i j)
abbrev ip:Bo:=⟨0,0,0,0,[],0,0,0,0,[],⟨0,0,0⟩,0,[],[],⟨0,0,0⟩,[],0,0,[],0,[],⟨0,0⟩⟩
abbrev xm:Bc:=⟨[],[],[],[],[]⟩
abbrev eY:DE:=⟨[],[],[],[],0,[]⟩
abbrev AC:JW:=⟨[],[],[],[]⟩
abbrev Ba:=List Ab
abbrev Mi:=List DR
structure FM (K V:Type) where
 es:List (K×V×Nat)
 clk:Nat
def FM.get{K V:Type}[DecidableEq K](m:FM K V)(k:K):Option V:=(m.es.find? λe=>decide (e.1=k)).map (·.2.1)
def npG{α:Type}(c:α->Bk):Option α->G
 |none=> .lit (.pointer none)
 |some x=> .ptr (c x) 0
def FM.g{K V:Type}(kv:K->Value)(vg:V->G)(m:FM K V):G:= .mp (m.es.map λe=>kv e.1) (m.es.map λe=>vg e.2.1) (m.es.map (·.2.2)) m.clk
def bu{K:Type}[DecidableEq K](k:K):List K->Fq
 |[]=>none
 |x::r=>if k=x then some 0 else(bu k r).map (·+1)
structure MH (P:Bu) (kt:Bj) {K:Type} [DecidableEq K] (kv:K->Value):Prop where
 chk:∀b k,rB P b kt (kv k)=true
 key:∀(k:K) (ks:List K),B7 P kt (kv k) (ks.map kv)=some (bu k ks)
section
variable {P:Bu} {K:Type} [DecidableEq K] {kt:Bj} {kv:K->Value}
theorem Aa8{d:TypeDesc}(h:∀a b,Instr.sameNow d (kv a) (kv b)=some (decide (a=b)))(k:K):∀(ks:List K) (n:Nat),B6 d (kv k) (ks.map kv) n=some ((bu k ks).map (n+·))
 |[],n=>rfl
 |x::r,n=>by
  rw[Fi,B6,h,bu];by_cases e:k=x
  .rw[C6 e,BB e];rfl
  .rw[Dl e,BX e];simp only[];rw[Aa8 h k r (n+1)];cases bu k r<;>grind
theorem Ib(h:∀a b,bt P (Op.equal kt (kv a) (kv b))=some (decide (a=b)))(k:K):∀(ks:List K) (n:Nat),Kj P kt (kv k) (ks.map kv) n=some ((bu k ks).map (n+·))
 |[],n=>rfl
 |x::r,n=>by
  rw[Fi,Kj,h,bu];by_cases e:k=x
  .rw[C6 e,BB e];rfl
  .rw[Dl e,BX e];simp only[];rw[Ib h k r (n+1)];cases bu k r<;>grind
theorem Qv{x:Fq}:x.map (0+·)=x:=by cases x<;>simp
theorem AjI{d:TypeDesc}(hd:P.underlying kt=some d)(hc:∀b k,rB P b kt (kv k)=true)(h:∀a b,Instr.sameNow d (kv a) (kv b)=some (decide (a=b))):MH P kt kv:=by grind [MH,B7,Aa8,Qv]
theorem Qw{d:TypeDesc}(hd:P.underlying kt=some d)(hc:∀b k,rB P b kt (kv k)=true)(hn:∀a b,Instr.sameNow d (kv a) (kv b)=none)(h:∀a b,bt P (Op.equal kt (kv a) (kv b))=some (decide (a=b))):MH P kt kv:=⟨hc,λk c=>by
 unfold B7;rw[hd];dsimp only;cases c with
 |nil=>rfl
 |cons x r=>grind [B6,Ib,Qv]⟩
variable {V:Type} {vg:V->G}
theorem fz(k:K):∀(es:List (K×V×Nat)),(bu k (es.map (·.1))=none/\es.find? (λe=>decide (e.1=k))=none)\/∃j e,bu k (es.map (·.1))=some j/\es[j]?=some e/\es.find? (λe=>decide (e.1=k))=some e
 |[]=> .inl ⟨rfl,rfl⟩
 |x::r=>by
  rw[Fi,bu,List.find?_cons];by_cases h:k=x.1
  .grind
  .rw[BX h,Dl (Ne.symm h)];rcases fz k r with⟨h1,h2⟩|⟨j,e,h1,h2,h3⟩
   all_goals grind
theorem FM.look(KT:MH P kt kv){t et:Bj}{v0:V}(ht:pB P t=some (kt,et))(hz:((P.info? et).bind (·.zero)).map db=some (vg v0))(m:FM K V)(k:K){gk:G}(hk:cD gk=some (kv k)):
  ∀σ,bL P σ t true (m.g kv vg) gk=some (.tup [vg ((m.get k).getD v0),bG (m.get k).isSome]):=λσ=>by
 unfold bL FM.g
 rw[ht,hk]
 dsimp only
 have hm:(m.es.map λe=>kv e.1)=(m.es.map (·.1)).map kv:=by rw[Hk];rfl
 rw[KT.chk,ax,hm,KT.key]
 grind [get,fz,DQ]
theorem FM.look1(KT:MH P kt kv){t et:Bj}{v0:V}(ht:pB P t=some (kt,et))(hz:((P.info? et).bind (·.zero)).map db=some (vg v0))(m:FM K V)(k:K){gk:G}(hk:cD gk=some (kv k)):
  ∀σ,bL P σ t false (m.g kv vg) gk=some (vg ((m.get k).getD v0)):=λσ=>by
 unfold bL FM.g
 rw[ht,hk]
 dsimp only
 have hm:(m.es.map λe=>kv e.1)=(m.es.map (·.1)).map kv:=by rw[Hk];rfl
 grind [MH,get,fz]
end
def JG(x:Int):Value:= .int .i64 x
theorem O6:MH prog 3 JG:=AjI (d:= .int .i64) aH (λb k=>by cases b<;>(show _=_;kernel_rfl)) (by grind [Instr.sameNow,JG])
def ga(x:Ab):Value:= .agg (Pe x).toArray
theorem jt:MH prog 41 ga:=by obtain⟨fs,hd⟩:∃fs,prog.underlying 41=some (.struct fs):=⟨#[⟨ "By",3,0,false, "", "",0⟩,⟨ "Seq",3,1,false, "", "",8⟩,⟨ "Sum",36,2,false, "", "",16⟩],aH⟩;exact Qw hd (λb k=>by cases b<;>(show _=_;kernel_rfl)) (λa b=>rfl) (λa b=>Pf 9997 a b)
def bD(a b:Nat):Nat:=a%18446744073709551616&&&b%18446744073709551616
def gM(a b:Nat):Nat:=a%18446744073709551616|||b%18446744073709551616
def Yn(a b:Int):Int:=IntKind.i64.wrap ((BitVec.ofInt IntKind.i64.bits a&&&BitVec.ofInt IntKind.i64.bits b).toNat:Nat)
def wH(a b:Int):Int:=IntKind.i64.wrap ((BitVec.ofInt IntKind.i64.bits a&&& ~~~BitVec.ofInt IntKind.i64.bits b).toNat:Nat)
def JH(a n:Nat):Nat:=a/2^min n 64
def It(a n:Nat):Nat:=a*2^min n 64%18446744073709551616
def Tf(a:Int)(n:Nat):Int:=a.fdiv (2^min n 64)
def wJ(i:Int):Fq:=if i<0 then none else some i.toNat
section
variable {P:Bu} {t:Bj}
theorem Ml:b8 P .and t x y (.lit (.int k a)) (.lit (.int k b))=some (.lit (.int k (k.wrap ((BitVec.ofInt k.bits a&&&BitVec.ofInt k.bits b).toNat:Nat)))):=by simp[b8,cD,eqGuard,binOp,Op.intBits,bz,db]
theorem V7:b8 P .or t x y (.lit (.int k a)) (.lit (.int k b))=some (.lit (.int k (k.wrap ((BitVec.ofInt k.bits a|||BitVec.ofInt k.bits b).toNat:Nat)))):=by simp[b8,cD,eqGuard,binOp,Op.intBits,bz,db]
theorem Kr:b8 P .andNot t x y (.lit (.int k a)) (.lit (.int k b))=some (.lit (.int k (k.wrap ((BitVec.ofInt k.bits a&&& ~~~BitVec.ofInt k.bits b).toNat:Nat)))):=by simp[b8,cD,eqGuard,binOp,Op.intBits,bz,db]
theorem Mm(n:Nat):b8 P .shr t x y (.lit (.int k a)) (.lit (.int k' (n:Int)))=some (.lit (.int k (a.fdiv (2^min n k.bits)))):=by have h1:¬((n:Int)<0):=aa;simp[b8,cD,eqGuard,binOp,Op.shift,db,BX h1];exact⟨_,rfl,rfl⟩
theorem Tg(n:Nat):b8 P .shl t x y (.lit (.int k a)) (.lit (.int k' (n:Int)))=some (.lit (.int k (k.wrap (a*2^min n k.bits)))):=by have h1:¬((n:Int)<0):=aa;simp[b8,cD,eqGuard,binOp,Op.shift,db,BX h1];exact⟨_,rfl,rfl⟩
theorem UV(n:Nat)(h:n<18446744073709551616):IntKind.u64.wrap (n:Int)=(n:Int):=by rw[IntKind.wrap_u64];omega
theorem ju(a b:Nat):∀p q:DC,b8 P .and t p q (uG a) (uG b)=some (uG (bD a b)):=λp q=>by
 show b8 P .and t p q (.lit (.int .u64 (a:Int))) (.lit (.int .u64 (b:Int)))=_;rw[Ml];have e:(BitVec.ofInt IntKind.u64.bits (a:Int)&&&BitVec.ofInt IntKind.u64.bits (b:Int)).toNat=bD a b:=by show(BitVec.ofInt 64 (a:Int)&&&BitVec.ofInt 64 (b:Int)).toNat=_;rw[BitVec.ofInt_natCast,BitVec.ofInt_natCast,BitVec.toNat_and,BitVec.toNat_ofNat,BitVec.toNat_ofNat];rfl
 rw[e,UV _ ?_];exact Nat.and_lt_two_pow (n:=64) _ (Nat.mod_lt _ BU)
theorem jc(a b:Nat):∀p q:DC,b8 P .or t p q (uG a) (uG b)=some (uG (gM a b)):=λp q=>by
 show b8 P .or t p q (.lit (.int .u64 (a:Int))) (.lit (.int .u64 (b:Int)))=_;rw[V7];have e:(BitVec.ofInt IntKind.u64.bits (a:Int)|||BitVec.ofInt IntKind.u64.bits (b:Int)).toNat=gM a b:=by show(BitVec.ofInt 64 (a:Int)|||BitVec.ofInt 64 (b:Int)).toNat=_;rw[BitVec.ofInt_natCast,BitVec.ofInt_natCast,BitVec.toNat_or,BitVec.toNat_ofNat,BitVec.toNat_ofNat];rfl
 rw[e,UV _ ?_];exact Nat.or_lt_two_pow (n:=64) (Nat.mod_lt _ BU) (Nat.mod_lt _ BU)
theorem V8(a b:Int):∀p q:DC,b8 P .and t p q (iG a) (iG b)=some (iG (Yn a b)):=λp q=>Ml
theorem NW(a b:Int):∀p q:DC,b8 P .andNot t p q (iG a) (iG b)=some (iG (wH a b)):=λp q=>Kr
theorem Ui{k':IntKind}(a n:Nat):∀p q:DC,b8 P .shr t p q (uG a) (.lit (.int k' (n:Int)))=some (uG (JH a n)):=by grind [Mm,IntKind.bits,JH]
theorem Ks{k':IntKind}(a n:Nat):∀p q:DC,b8 P .shl t p q (uG a) (.lit (.int k' (n:Int)))=some (uG (It a n)):=by grind [Tg,IntKind.bits,It,IntKind.wrap_u64]
theorem V9{k':IntKind}(a:Int)(n:Nat):∀p q:DC,b8 P .shr t p q (iG a) (.lit (.int k' (n:Int)))=some (iG (Tf a n)):=λp q=>Mm n
theorem Et(h:wJ i=some n):i=(n:Int):=by grind [wJ]
end
theorem Am{P:Bu}{t:Bj}(a:Nat)(h:wJ i=some n):∀p q:DC,b8 P .shr t p q (uG a) (iG i)=some (uG (JH a n)):=by rw[Et h];exact Ui a n
theorem sM{P:Bu}{t:Bj}(a:Nat)(h:wJ i=some n):∀p q:DC,b8 P .shl t p q (uG a) (iG i)=some (uG (It a n)):=by rw[Et h];exact Ks a n
theorem AQ.isNil{P:Bu}{ts te:Bj}{k:Nat}{α:Type}{f:α->Bk}(R:AQ P ts te k f){l:List α}(h:l.flatMap f=[]):l=[]:=by
 have h1:=R.len l;rw[h] at h1;have h2:=R.kp;cases l with
 |nil=>rfl
 |cons x r=>grind [AQ]
theorem mV{α:Type}{b:Nat}{r:List α}(h:aT b [] []=some r):r=[]:=by grind [aT]
section
variable {P:Bu} {ta te:Bj} {k:Nat} {α:Type} {f:α->Bk}
structure Ac9 (P:Bu) (ta te:Bj) (n k:Nat):Prop where
 no:dp P ta=none
 ar:ND P ta=some (n,te)
 sz:bw P te=some k
theorem Ac9.ix{n:Nat}(A:Ac9 P ta te n k){xs:List α}{L:Bk}{i:Int}{x:α}(h:aS xs i=some x)(hl:xs.length=n):fh P ta (.ptr L 0) i=some (.ptr L (i.toNat*k)):=by obtain⟨h0,h1⟩:=Hb h;have hlt:=(cr h1).1;unfold fh;grind [Ac9,wo]
end
abbrev Jb:=FM Ab Int
section
attribute [local irreducible] Tr dz Gp
theorem gP(n:Nat):wU (n:Int)=n%18446744073709551616:=by grind [zk,IntKind.wrap_u64]
theorem Nl{a b:Nat}(h:a*b<18446744073709551616):lD .mul (uG (a:Int)) (uG (b:Int))=some (uG ((a*b:Nat):Int)):=by rw[na,<-Int.natCast_mul,gP,LO h]
theorem PA{a b:Nat}(h:a+b<18446744073709551616):lD .add (uG (a:Int)) (uG (b:Int))=some (uG ((a+b:Nat):Int)):=by rw[gV,<-Int.natCast_add,gP,LO h]
theorem Ab5{a b:Nat}(h:b≠0)(ha:a<18446744073709551616):lD .quo (uG (a:Int)) (uG (b:Int))=some (uG ((a/b:Nat):Int)):=by rw[zm a b h,gP,LO (Nat.lt_of_le_of_lt (Nat.div_le_self ..) ha)]
theorem Ru(A B:Nat)(L M H:Nat)(hL:L=A%4294967296*(B%4294967296))(hM:M=A/4294967296*(B%4294967296)+A%4294967296*(B/4294967296))(hH:H=A/4294967296*(B/4294967296)):
  (L%2305843009213693951+M%536870912*4294967296+M/536870912+8*H)%2305843009213693951=A*B%2305843009213693951:=by
 have hx:A*B=L+M*4294967296+H*18446744073709551616:=by grind [Nat.div_add_mod']
 rw[hx]
 omega
def oQ(a b:Nat):Fq:=some (a*b%2305843009213693951)
theorem nK{a b}:DL prog gl (oQ a b) 222 [uG a,uG b] (λr:Nat=>uG r):=λr h=>by obtain rfl:=Bp h;refine Gh func222 ?_;have h11:=iD a 2305843009213693951 BU;have h13:=iD b 2305843009213693951 BU;have hA:=Nat.mod_lt a (show 0<2305843009213693951 by decide);have hB:=Nat.mod_lt b (show 0<2305843009213693951 by decide);rw[Nat.mul_mod,<-Ru _ _ _ _ _ rfl rfl rfl];generalize a%2305843009213693951=A at*;generalize b%2305843009213693951=B at*;have b0:A%4294967296*(B%4294967296)<=4294967295*4294967295:=Nat.mul_le_mul aa aa;have b1:A/4294967296*(B%4294967296)<=536870911*4294967295:=Nat.mul_le_mul aa aa;have b2:A%4294967296*(B/4294967296)<=4294967295*536870911:=Nat.mul_le_mul aa aa;have b3:A/4294967296*(B/4294967296)<=536870911*536870911:=Nat.mul_le_mul aa aa;have c:=iD A 4294967296 BU;have d:=iD B 4294967296 BU;have e:=Ab5 (a:=A) (b:=4294967296) BU aa;have f:=Ab5 (a:=B) (b:=4294967296) BU aa;have g:=Nl (Nat.lt_of_le_of_lt b0 BU);have i:=Nl (Nat.lt_of_le_of_lt b1 BU);have j:=Nl (Nat.lt_of_le_of_lt b2 BU);have k:=Nl (Nat.lt_of_le_of_lt b3 BU);generalize A%4294967296*(B%4294967296)=p at*;generalize A/4294967296*(B%4294967296)=q at*;generalize A%4294967296*(B/4294967296)=s at*;generalize A/4294967296*(B/4294967296)=t at*;have l:=PA (a:=q) (b:=s) aa;have bm:q+s<18446744073709551616:=aa;generalize q+s=m at*;exact Ar [hbb 11 h11,hbb 13 h13,hbb 16 c,hbb 19 d,hbb 20 g,hbb 23 e,hbb 26 d,hbb 27 i,hbb 30 c,hbb 33 f,hbb 34 j,hbb 35 l,hbb 38 e,hbb 41 f,hbb 42 k,hbb 44 (iD p 2305843009213693951 BU),hbb 47 (iD m 536870912 BU),hbb 49 (Nl (a:=m%536870912) (b:=4294967296) aa),hbb 50 (PA (a:=p%2305843009213693951) (b:=m%536870912*4294967296) aa),hbb 53 (Ab5 (a:=m) (b:=536870912) BU bm),hbb 54 (PA (a:=p%2305843009213693951+m%536870912*4294967296) (b:=m/536870912) aa),hbb 56 (Nl (a:=8) (b:=t) aa),hbb 57 (PA (a:=p%2305843009213693951+m%536870912*4294967296+m/536870912) (b:=8*t) aa),hbb 58 (iD (p%2305843009213693951+m%536870912*4294967296+m/536870912+8*t) 2305843009213693951 BU)] []
theorem TQ(a:Nat):JH a 32=a/4294967296:=rfl
theorem Ahb{a:Nat}(h:a<18446744073709551616):bD a 4294967295=a%4294967296:=by unfold bD;rw[LO h];exact Nat.and_two_pow_sub_one_eq_mod a 32
theorem AjC(a:Nat)(h:a<18446744073709551616):∀p q:DC,b8 prog .and 36 p q (uG a) (uG 4294967295)=some (uG ((a%4294967296:Nat):Int)):=by rw[<-Ahb h];exact ju a 4294967295
theorem Ae3(a:Nat):∀p q:DC,b8 prog .shr 36 p q (uG a) (.lit (.int .u64 ((32:Nat):Int)))=some (uG ((a/4294967296:Nat):Int)):=by rw[<-TQ];exact Ui a 32
def sL(x y:Nat):Option (Nat×Nat):=bif x<18446744073709551616/\y<18446744073709551616 then some (x*y/18446744073709551616,x*y%18446744073709551616)else none
theorem FY{x y}:DL prog gl (sL x y) 230 [uG x,uG y] (λr=> .tup [uG r.1,uG r.2]):=λr h=>by
 unfold sL at h;cases c:decide (x<18446744073709551616/\y<18446744073709551616) with
 |false=>rw[c] at h;cases h
 |true=>rw[c] at h;obtain rfl:=Bp h;obtain⟨hx,hy⟩:=DV c;refine Gh func230 ?_;have g:=na (x:Int) (y:Int);rw[<-Int.natCast_mul,gP] at g;obtain⟨h1,h2,h3,h4⟩:=Lib.mul64_hi x y hx hy;have ha:=Lib.half_mul_le (a:=x/4294967296) (b:=y/4294967296) aa aa;have hb:=Lib.half_mul_le (a:=x/4294967296) (b:=y%4294967296) aa aa;have hc:=Lib.half_mul_le (a:=x%4294967296) (b:=y/4294967296) aa aa;have hd:=Lib.half_mul_le (a:=x%4294967296) (b:=y%4294967296) aa aa;have i:=Nl (Nat.lt_of_le_of_lt hd BU);have j:=Nl (Nat.lt_of_le_of_lt hb BU);have k:=Nl (Nat.lt_of_le_of_lt hc BU);have l:=Nl (Nat.lt_of_le_of_lt ha BU);have m:=AjC x hx;have n:=Ae3 x;have o:=AjC y hy;have p:=Ae3 y;rw[<-h4];generalize (x/4294967296)*(y/4294967296)=a at*;generalize (x/4294967296)*(y%4294967296)=b at*;generalize (x%4294967296)*(y/4294967296)=c at*;generalize (x%4294967296)*(y%4294967296)=d at*;have q:=PA h2;have s:=AjC _ h2;have t:=Ae3 (b+d/4294967296);have u:=PA h3;generalize b+d/4294967296=e at*;have v:=PA (a:=a) (b:=e/4294967296) aa;have w:=Ae3 (e%4294967296+c);generalize e%4294967296+c=f at*;exact Ar [hV 15 m,hV 17 n,hV 19 o,hV 21 p,hbb 24 i,hbb 27 j,hV 29 (Ae3 d),hbb 30 q,hV 32 s,hV 34 t,hbb 38 k,hbb 39 u,hbb 42 l,hbb 44 v,hV 46 w,hbb 47 (PA (a:=a+e/4294967296) (b:=f/4294967296) aa),hbb 50 g] []
end
section
set_option maxHeartbeats 2000000
attribute [local irreducible] Tr dz Gp
def DJ(s1:Nat×CY):Option ((Nat×CY)⊕(Nat×CY)):=
 bif ((127:Nat):Int)<(s1.1:Int)then((aT 1 s1.2 ([wY ((((wY ((s1.1%128:Nat):Int)).toNat:Nat):Int)+(((128:UInt8).toNat:Nat):Int))]:CY)).bind λa=>some (.inl (wU ((s1.1/128:Nat):Int),a)))else(some (.inr (s1.1,s1.2)))
def jl(k:Nat):Option CY:=
 (AH (DJ) (k,[])).bind λb=>(aT 1 b.2 ([wY (b.1:Int)]:CY)).bind λa=>some a
theorem LU{k}:M5 prog gl (jl k) 153 [uG k] 5 cY:=
 gc func153 λK=>I5 1110 (λa=>so [] [(0,uG a.1),(3,.rsl 0 0 a.2.length)] [ob 0 5 (a.2.flatMap cY)] 1) (λs1=>so [] [(0,uG s1.1),(3,.rsl 0 0 s1.2.length)] [ob 0 5 (s1.2.flatMap cY)] 1) [hc (rY.imm [])] (λa=>Gd (dg 19 rY) λc=>aw [AB 17 (Iz (a.1:Int))]<|mr c0 K (rY.imm _)) λs1 k5 d=>aF 5 (Gd (dg 12 rY) λb=>aw [hbb 8 (iD s1.1 128 BU),AB 9 (Iz ((s1.1%128:Nat):Int)),hbb 10 (YK (wY ((s1.1%128:Nat):Int)) (128:UInt8)),hbb 14 (zm s1.1 128 BU)]<|cj k5 (DP rY b))<|aA c1 d (DP rY s1.2)
def cg(n:Int):Option CY:=
 bif n<0 then((jl (wU (((wU (((wU (wI (0-(wI (n+1)))):Nat):Int)*((2:Nat):Int)):Nat):Int)+((1:Nat):Int)))).bind λv2=>some v2)else((jl (wU (((wU n:Nat):Int)*((2:Nat):Int)))).bind λv4=>some v4)
theorem eZ{n}:M5 prog gl (cg n) 155 [iG n] 5 cY:=
 gc func155 λK=>aF 4 (ak λv2 e3=>aw [AB 8 (C8 (wI (0-(wI (n+1))))),hbb 9 (na ((wU (wI (0-(wI (n+1)))):Nat):Int) ((2:Nat):Int)),hbb 10 (gV ((wU (((wU (wI (0-(wI (n+1)))):Nat):Int)*((2:Nat):Int)):Nat):Int) ((1:Nat):Int)),ho 11 [uG (wU (((wU (((wU (wI (0-(wI (n+1)))):Nat):Int)*((2:Nat):Int)):Nat):Int)+((1:Nat):Int)))] [] (LU gl e3) (lY v2)]<|mr c0 K (rY.imm _))<|ak λv4 e5=>aw [AB 13 (C8 n),hbb 14 (na ((wU n:Nat):Int) ((2:Nat):Int)),ho 15 [uG (wU (((wU n:Nat):Int)*((2:Nat):Int)))] [] (LU gl e5) (lY v4)]<|mr c0 K (rY.imm _)
def iJ(a:Ab):Option CY:=
 (cg a.By).bind λv1=>(cg a.Seq).bind λv3=>(aT 1 v1 v3).bind λv5=>(jl a.Sum).bind λb=>(aT 1 v5 b).bind λv9=>some v9
theorem GO{id_}:M5 prog gl (iJ id_) 152 [.agg (aj id_)] 5 cY:=
 gc func152 λK=>ak λv1 e2=>JI 9 rY (eZ gl) λv3=>Gd (eu 10 rY) λv5=>JI 14 rY (LU gl) λa=>Gd (eu 15 rY) λv9=>aw [ho 6 [iG id_.By] [] (eZ gl e2) (lY v1)]<|mr c0 K (rY.imm _)
def r6(s1:Nat×Nat×Nat):Option ((Nat×Nat×Nat)⊕(Nat)):=
 bif ((0:Nat):Int)<(s1.2.2:Int)then((bif ((s1.2.2%2:Nat):Int)=((1:Nat):Int)then((oQ s1.1 s1.2.1).bind λa=>some a)else(some s1.1)).bind λb=>(oQ s1.2.1 s1.2.1).bind λc=>some (.inl (b,c,wU ((s1.2.2/2:Nat):Int))))else(some (.inr s1.1))
def iK(a:Nat)(n:Nat):Fq:=
 (AH (r6) (1,a%2305843009213693951,n)).bind λb=>some b
theorem lc{a n}:DL prog gl (iK a n) 145 [uG a,uG n] (λr:Nat=>uG r):=
 cy func145 λK=>aw [hbb 9 (iD a 2305843009213693951 BU)]<|I5 111101 (λd=>sg [] [(5,uG d)]) (λs1=>sg [] [(5,uG s1.1),(6,uG s1.2.1),(7,uG s1.2.2)]) [] (λd=>rv K) λs1 k5 e=>aF 12 (aw [hbb 16 (iD s1.2.2 2 BU)]<|cN 1111012210201 (sf [] [(17,bG (decide (((s1.2.2%2:Nat):Int)=((1:Nat):Int))))]) []<|cC 1111012210201 (λb=>sf [17] [(5,uG b)]) (λb=>BG 23 (nK gl) λf=>aw [hbb 14 (zm s1.2.2 2 BU)]<|rb k5) λb c=>eH [17] (BG 20 (nK gl) λg=>rx c)<|rx c)<|aA c1 e []
def iq(n:Int)(most:Int):JQ:=
 bif n<0 then((u9 (wI (0-(wI (n+1)))) most).bind λa=>some a)else((u9 n most).bind λb=>some b)
theorem iL{n most}:DL prog gl (iq n most) 5 [iG n,iG most] iG:=
 cy func5 λK=>aF 6 (ak λa e3=>aw [hbb 12 (KO e3)]<|rv K)<|ak λb e5=>aw [hbb 12 (KO e5)]<|rv K
def Jf(cards:Mi):Option Bc:=
 some ⟨cards,[],[],[],[]⟩
theorem M8{cards}:DL prog gl (Jf cards) 41 [aE bv cards] (λr=> .agg (aI r)):=
 cy func41 λK=>rv K
def xo(a:Nat):Fq:=
 (iK 37 a).bind λv1=>some v1
theorem r7{a}:DL prog gl (xo a) 77 [uG a] (λr:Nat=>uG r):=
 cy func77 λK=>BG 4 (lc gl) λv1=>rv K
def my(b:CY)(s1:Br×Int)(a:Nat×Int):Option ((Nat×Int)⊕(Nat)):=
 bif s1.2<=a.2 then((aS b a.2).bind λc=>some (.inl (wU (((wU ((a.1:Int)*((256:Nat):Int)):Nat):Int)+((wU (c.toNat:Int):Nat):Int)),wI (a.2-1))))else(some (.inr a.1))
def qh(b:CY)(s1:Br×Int):Option ((Br×Int)⊕Br):=
 bif s1.2<ah b then((AH (my b s1) (0,wI ((iI (ah b) (wI (s1.2+7)))-1))).bind λa=>(aT 8 s1.1 ([a]:Br)).bind λc=>some (.inl (c,wI (s1.2+7))))else(some (.inr s1.1))
def Mj(b:CY):Option Br:=
 (AH (qh b) ([],0)).bind λa=>some a
theorem yz{b}:M5 prog gl (Mj b) 166 [aE cY b] 36 cW:=
 gc func166 λK=>I5 11101 (λe=>sp [] [(3,.rsl 0 0 e.length)] [ob 0 36 (e.flatMap cW)] 1) (λs1=>so [] [(3,.rsl 0 0 s1.1.length),(4,iG s1.2)] [ob 0 36 (s1.1.flatMap cW)] 1) [hc (rW.imm [])] (λe=>mr c0 K (rW.imm _)) λs1 k5 i=>aF 10 (I5 1110122102101 (λc=>sf [] [(5,uG c)]) (λa=>sf [] [(5,uG a.1),(6,iG a.2)]) (DP rW s1.1) (λc=>Gd (dg 35 rW) λf=>cj k5 (DP rW f)) λa g h=>aF 21 (CD 28 rY.ixZ 29 (rY.p1Y tY) λd=>aw [hbb 25 (na (a.1:Int) ((256:Nat):Int)),AB 30 (C8 (d.toNat:Int)),hbb 31 (gV ((wU ((a.1:Int)*((256:Nat):Int)):Nat):Int) ((wU (d.toNat:Int):Nat):Int))]<|cj g (DP rW s1.1))<|aA c1 h (DP rW s1.1))<|aA c1 i (DP rW s1.1)
def qi(a:Nat)(b:Nat):Fq:=
 some ((wU (((a%2305843009213693951:Nat):Int)+((b%2305843009213693951:Nat):Int)))%2305843009213693951)
theorem ZR{a b}:DL prog gl (qi a b) 231 [uG a,uG b] (λr:Nat=>uG r):=
 cy func231 λK=>aw [hbb 6 (iD a 2305843009213693951 BU),hbb 8 (iD b 2305843009213693951 BU),hbb 9 (gV ((a%2305843009213693951:Nat):Int) ((b%2305843009213693951:Nat):Int)),hbb 10 (iD (wU (((a%2305843009213693951:Nat):Int)+((b%2305843009213693951:Nat):Int))) 2305843009213693951 BU)]<|rv K
def qj(b:Br)(a:Nat×Int):Option ((Nat×Int)⊕(Nat)):=
 bif a.2<ah b then((oQ 37 a.1).bind λc=>(aS b a.2).bind λd=>(qi d (wU (wI (a.2+1)))).bind λe=>(qi c e).bind λf=>(iK f 17).bind λg=>some (.inl (g,wI (a.2+1))))else(some (.inr a.1))
def qk(l:Br)(a:Br×Int):Option ((Br×Int)⊕Br):=
 bif a.2<ah l then((aS l a.2).bind λb=>(aT 8 a.1 ([b%2305843009213693951]:Br)).bind λc=>some (.inl (c,wI (a.2+1))))else(some (.inr a.1))
def yA(label:CY)(l:Br):Fq:=
 (Gk label).bind λc=>(Mj c).bind λv3=>(aT 8 v3 ([wU (ah l)]:Br)).bind λv5=>(AH (qk l) (v5,0)).bind λd=>(aT 8 d ([0]:Br)).bind λa=>(AH (qj a) (wU (ah label),0)).bind λb=>some b
theorem AD{label l}:DL prog gl (yA label l) 165 [sG label,aE cW l] (λr:Nat=>uG r):=
 cy func165 λK=>ak λk e2=>ak λv3 e4=>Gd (dg 17 rW) λv5=>aw [AB 15 (C8 (ah l)),hcB 11 e2,ho 12 [aE cY k] [] (yz gl e4) (lW v3)]<|I5 11101 (λe=>so [1] [(5,.rsl 0 0 e.length)] [ob 0 36 (e.flatMap cW)] 1) (λb=>so [] [(5,.rsl 0 0 b.1.length),(6,iG b.2)] [ob 0 36 (b.1.flatMap cW)] 1) (DP rW v5) (λe=>Gd (dg 34 rW) λc=>aw [hL 36 label,AB 37 (C8 (ah label))]<|I5 11111101 (λd=>sk [] [(7,uG d)] [] 0) (λa=>sk [] [(5,aE cW c),(7,uG a.1),(8,iG a.2)] [] 0) [hc (rW.al c)] (λd=>rv K) λa f g=>aF 41 (BG 45 (nK gl) λm=>CD 48 rW.ixZ 49 (rW.p1Y tW) λn=>BG 53 (ZR gl) λo=>BG 54 (ZR gl) λp=>BG 56 (lc gl) λq=>aw [AB 52 (C8 (wI (a.2+1)))]<|rb f)<|aA c1 g []) λb k11 h=>aF 21 (CD 27 rW.ixZ 28 (rW.p1Y tW) λi=>Gd (dg 31 rW) λj=>aw [hbb 29 (iD i 2305843009213693951 BU)]<|cj k11 (DP rW j))<|aA c1 h (DP rW b.1)
def Ns(label:CY)(l:Br):Fq:=
 (yA label l).bind λv1=>some (wU (((1:Nat):Int)+((v1%2305843009213693949:Nat):Int)))
theorem vo{label l}:DL prog gl (Ns label l) 146 [sG label,aE cW l] (λr:Nat=>uG r):=
 cy func146 λK=>BG 7 (AD gl) λv1=>aw [hbb 8 (iD v1 2305843009213693949 BU),hbb 9 (gV ((1:Nat):Int) ((v1%2305843009213693949:Nat):Int))]<|rv K
def lf(kind:CY)(device:Int):Fq:=
 (Ns kind ([wU device]:Br)).bind λv1=>some v1
theorem kG{kind device}:DL prog gl (lf kind device) 78 [sG kind,iG device] (λr:Nat=>uG r):=
 cy func78 λK=>ak λv1 e2=>aw [AB 7 (C8 device),hq 9 [sG kind,aE cW ([wU device]:Br)] [hc (rW.al ([wU device]:Br))] (vo gl e2)]<|rv K
def GP(a:Bn)(s1:Mi×Int):Option ((Mi×Int)⊕Mi):=
 bif s1.2<ah a then((aS a s1.2).bind λb=>(lf [108,101,97,100] (wI (s1.2+1))).bind λc=>(xo c).bind λd=>(lf [107,101,101,112] (wI (s1.2+1))).bind λe=>(xo e).bind λf=>(lf [115,105,103,110] (wI (s1.2+1))).bind λg=>(xo g).bind λh=>(aT 40 s1.1 [(⟨wI (s1.2+1),b,d,f,h⟩:DR)]).bind λv25=>some (.inl (v25,wI (s1.2+1))))else(some (.inr s1.1))
def ql(a:Bn):Option Mi:=
 (AH (GP a) ([],0)).bind λb=>some b
theorem GQ{owners}:M5 prog gl (ql owners) 42 [aE cZ owners] 147 bv:=
 gc func42 λK=>I5 11101 (λa=>sp [] [(3,.rsl 0 0 a.length)] [ob 0 147 (a.flatMap bv)] 1) (λs1=>so [] [(3,.rsl 0 0 s1.1.length),(4,iG s1.2)] [ob 0 147 (s1.1.flatMap bv)] 1) [hc (bT.imm [])] (λa=>mr c0 K (bT.imm _)) λs1 k5 b=>aF 9 (CD 18 rZ.ixZ 19 (rZ.p1Y tZ) λc=>BG 21 (kG gl) λd=>BG 22 (r7 gl) λe=>BG 24 (kG gl) λf=>BG 25 (r7 gl) λg=>BG 27 (kG gl) λh=>BG 28 (r7 gl) λi=>Gd (dg 31 bT) λv25=>cj k5 (DP bT v25))<|aA c1 b (DP bT s1.1)
def jI(label:CY)(b:CY):Fq:=
 (Mj b).bind λv1=>(aT 8 v1 ([wU (ah b)]:Br)).bind λv3=>(yA label v3).bind λv5=>some v5
theorem yB{label b}:DL prog gl (jI label b) 84 [sG label,aE cY b] (λr:Nat=>uG r):=
 cy func84 λK=>ak λv1 e2=>Gd (dg 12 rW) λv3=>ak λv5 e6=>aw [AB 10 (C8 (ah b)),ho 7 [aE cY b] [] (yz gl e2) (lW v1),hq 13 [sG label,aE cW v3] [hc (rW.al v3)] (AD gl e6)]<|rv K
def Ph(b:CY):Fq:=
 (jI [115,105,103,110,101,100] b).bind λv1=>some v1
theorem LH{b}:DL prog gl (Ph b) 147 [aE cY b] (λr:Nat=>uG r):=
 cy func147 λK=>BG 4 (yB gl) λv1=>rv K
def fV:Fq:=
 some 2305843009213693950
theorem eU:DL prog gl (fV) 150 [] (λr:Nat=>uG r):=
 cy func150 λK=>rv K
def yC(a:Nat×Nat×Nat):Option ((Nat×Nat×Nat)⊕(Nat)):=
 bif ((0:Nat):Int)<(a.2.1:Int)then((bif ((a.2.1%2:Nat):Int)=((1:Nat):Int)then((fV).bind λb=>(CH (wU ((a.2.2:Int)+(a.1:Int))) b).bind λc=>some c)else(some a.2.2)).bind λd=>(fV).bind λe=>(CH (wU ((a.1:Int)+(a.1:Int))) e).bind λf=>some (.inl (f,wU ((a.2.1/2:Nat):Int),d)))else(some (.inr a.2.2))
def vp(a:Nat)(b:Nat):Fq:=
 (fV).bind λv1=>(CH a v1).bind λd=>(fV).bind λv5=>(CH b v5).bind λe=>(AH (yC) (d,e,0)).bind λc=>some c
theorem GT{a b}:DL prog gl (vp a b) 148 [uG a,uG b] (λr:Nat=>uG r):=
 cy func148 λK=>BG 7 (eU gl) λv1=>ak λm e4=>BG 10 (eU gl) λv5=>ak λn e8=>aw [hbb 8 (YI e4),hbb 11 (YI e8)]<|I5 111110 (λe=>sg [] [(5,uG e)]) (λc=>sf [] [(0,uG c.1),(1,uG c.2.1),(5,uG c.2.2)]) [] (λe=>rv K) λc k13 k12=>aF 13 (aw [hbb 15 (iD c.2.1 2 BU)]<|cN 111110221201 (sf [] [(16,bG (decide (((c.2.1%2:Nat):Int)=((1:Nat):Int))))]) []<|cC 111110221201 (λd=>sf [16] [(5,uG d)]) (λd=>BG 25 (eU gl) λi=>ak λj g=>aw [hbb 24 (gV (c.1:Int) (c.1:Int)),hbb 28 (zm c.2.1 2 BU),hbb 26 (YI g)]<|rb k13) λd f=>eH [16] (BG 20 (eU gl) λk=>ak λl h=>aw [hbb 19 (gV (c.2.2:Int) (c.1:Int)),hbb 21 (YI h)]<|rx f)<|rx f)<|aA c1 k12 []
def Pi(a:Nat)(pub:Nat)(b:CY):Fq:=
 (Ph b).bind λv1=>(yA [115,105,103] ([a,pub,v1]:Br)).bind λv3=>some v3
theorem LI{r_ pub b}:DL prog gl (Pi r_ pub b) 149 [uG r_,uG pub,aE cY b] (λr:Nat=>uG r):=
 cy func149 λK=>BG 10 (LH gl) λv1=>ak λv3 e4=>aw [hq 12 [sG [115,105,103],aE cW ([r_,pub,v1]:Br)] [hc (rW.al ([r_,pub,v1]:Br))] (AD gl e4)]<|rv K
def zX(a:Nat)(b:CY):Option YB:=
 (Ph b).bind λv1=>(Ns [110,111,110,99,101] ([a,v1]:Br)).bind λv3=>(iK 37 v3).bind λv5=>(xo a).bind λf=>(Pi v5 f b).bind λv9=>(vp v9 a).bind λc=>(fV).bind λd=>(CH (wU ((v3:Int)+(c:Int))) d).bind λe=>some ⟨v5,e⟩
theorem Jg{a b}:DL prog gl (zX a b) 79 [uG a,aE cY b] (λr=> .agg (yy r)):=
 cy func79 λK=>BG 10 (LH gl) λv1=>ak λv3 e4=>BG 14 (lc gl) λv5=>BG 17 (r7 gl) λf=>BG 19 (LI gl) λv9=>BG 21 (GT gl) λc=>BG 26 (eU gl) λd=>ak λe e16=>aw [hbb 25 (gV (v3:Int) (c:Int)),hq 12 [sG [110,111,110,99,101],aE cW ([a,v1]:Br)] [hc (rW.al ([a,v1]:Br))] (vo gl e4),hbb 27 (YI e16)]<|rv K
end
section
set_option maxHeartbeats 2000000
attribute [local irreducible] Tr dz Gp
def tR(l:Bn)(s1:CY×Int):Option ((CY×Int)⊕CY):=
 bif s1.2<ah l then((aS l s1.2).bind λa=>(cg a).bind λb=>(aT 1 s1.1 b).bind λc=>some (.inl (c,wI (s1.2+1))))else(some (.inr s1.1))
def QL(l:Bn):Option CY:=
 (AH (tR l) ([],0)).bind λa=>some a
theorem oT{l}:M5 prog gl (QL l) 151 [aE cZ l] 5 cY:=
 gc func151 λK=>I5 11101 (λa=>sp [] [(3,.rsl 0 0 a.length)] [ob 0 5 (a.flatMap cY)] 1) (λs1=>so [] [(3,.rsl 0 0 s1.1.length),(4,iG s1.2)] [ob 0 5 (s1.1.flatMap cY)] 1) [hc (rY.imm [])] (λa=>mr c0 K (rY.imm _)) λs1 k5 c=>aF 8 (CD 14 rZ.ixZ 15 (rZ.p1Y tZ) λd=>JI 16 rY (eZ gl) λe=>Gd (eu 17 rY) λb=>cj k5 (DP rY b))<|aA c1 c (DP rY s1.1)
def tS(l:Br)(s1:CY×Int):Option ((CY×Int)⊕CY):=
 bif s1.2<ah l then((aS l s1.2).bind λa=>(jl a).bind λb=>(aT 1 s1.1 b).bind λc=>some (.inl (c,wI (s1.2+1))))else(some (.inr s1.1))
def vt(l:Br):Option CY:=
 (AH (tS l) ([],0)).bind λa=>some a
theorem AG{l}:M5 prog gl (vt l) 157 [aE cW l] 5 cY:=
 gc func157 λK=>I5 11101 (λa=>sp [] [(3,.rsl 0 0 a.length)] [ob 0 5 (a.flatMap cY)] 1) (λs1=>so [] [(3,.rsl 0 0 s1.1.length),(4,iG s1.2)] [ob 0 5 (s1.1.flatMap cY)] 1) [hc (rY.imm [])] (λa=>mr c0 K (rY.imm _)) λs1 k5 c=>aF 8 (CD 14 rW.ixZ 15 (rW.p1Y tW) λd=>JI 16 rY (LU gl) λe=>Gd (eu 17 rY) λb=>cj k5 (DP rY b))<|aA c1 c (DP rY s1.1)
def qq(l:List Hd)(s3:CY×Int):Option ((CY×Int)⊕CY):=
 bif s3.2<ah l then((aS l s3.2).bind λa=>(aS l s3.2).bind λb=>(aS l s3.2).bind λc=>(aS l s3.2).bind λd=>(vt ([a.To,b.Eph,c.Body,d.Tag]:Br)).bind λe=>(aT 1 s3.1 e).bind λf=>some (.inl (f,wI (s3.2+1))))else(some (.inr s3.1))
def nQ(l:List Hd):Option CY:=
 (cg (ah l)).bind λv1=>(AH (qq l) (v1,0)).bind λa=>some a
theorem GW{l}:M5 prog gl (nQ l) 154 [aE cz l] 5 cY:=
 gc func154 λK=>ak λv1 e2=>aw [ho 7 [iG (ah l)] [] (eZ gl e2) (lY v1)]<|I5 11101 (λe=>sp [] [(3,.rsl 0 0 e.length)] [ob 0 5 (e.flatMap cY)] 1) (λs3=>so [] [(3,.rsl 0 0 s3.1.length),(4,iG s3.2)] [ob 0 5 (s3.1.flatMap cY)] 1) (DP rY v1) (λe=>mr c0 K (rY.imm _)) λs3 i k6=>aF 11 (CD 17 EP.ixZ 19 (EP.fdY tW 0) λa=>CD 22 EP.ixZ 24 (EP.fdY tW 1) λb=>CD 27 EP.ixZ 29 (EP.fdY tW 2) λc=>CD 32 EP.ixZ 34 (EP.fdY tW 3) λd=>ak λf g=>Gd (dg 37 rY) λh=>aw [ho 36 [aE cW ([a.To,b.Eph,c.Body,d.Tag]:Br)] [hc (rW.al ([a.To,b.Eph,c.Body,d.Tag]:Br))] (AG gl g) (lY f)]<|cj i (DP rY h))<|aA c1 k6 (DP rY s3.1)
def vu(s:CY):Option CY:=
 (cg (ah s)).bind λv1=>(aT 1 v1 s).bind λv3=>some v3
theorem Jp{s}:M5 prog gl (vu s) 156 [sG s] 5 cY:=
 gc func156 λK=>ak λv1 e2=>ak λv3 e4=>aw [hL 4 s,ho 5 [iG (ah s)] [] (eZ gl e2) (lY v1),XZ 7 e4]<|mr c0 K (rY.imm _)
def Pp(o:Bo)(a:CY×Int):Option ((CY×Int)⊕CY):=
 bif a.2<ah o.Hist then((aS o.Hist a.2).bind λb=>(iJ b.Of).bind λc=>(aT 1 a.1 c).bind λd=>(aS o.Hist a.2).bind λe=>(vu e.Body).bind λf=>(aT 1 d f).bind λg=>some (.inl (g,wI (a.2+1))))else(some (.inr a.1))
def qs(o:Bo)(a:CY×Int):Option ((CY×Int)⊕CY):=
 bif a.2<ah o.Path then((aS o.Path a.2).bind λf=>(jl f.Pub).bind λg=>(aT 1 a.1 g).bind λb=>(aS o.Path a.2).bind λc=>(nQ c.Boxes).bind λd=>(aT 1 b d).bind λe=>some (.inl (e,wI (a.2+1))))else(some (.inr a.1))
def qt(o:Bo)(s3:CY×Int):Option ((CY×Int)⊕CY):=
 bif s3.2<ah o.Past then((aS o.Past s3.2).bind λa=>(iJ a).bind λb=>(aT 1 s3.1 b).bind λc=>some (.inl (c,wI (s3.2+1))))else(some (.inr s3.1))
def lz(o:Bo):Option CY:=
 (QL ([o.By,o.Seq,o.Kind,o.At,ah o.Past]:Bn)).bind λv1=>(AH (qt o) (v1,0)).bind λy=>(QL ([o.Device,o.Old,o.Member,o.Role,ah o.Path]:Bn)).bind λa=>(aT 1 y a).bind λb=>(AH (qs o) (b,0)).bind λc=>(iJ o.Epoch).bind λv25=>(aT 1 c v25).bind λd=>(cg o.N).bind λe=>(aT 1 d e).bind λf=>(vu o.Body).bind λg=>(aT 1 f g).bind λh=>(cg (ah o.Refs)).bind λi=>(aT 1 h i).bind λv39=>(vt o.Refs).bind λj=>(aT 1 v39 j).bind λk=>(iJ o.Of).bind λv45=>(aT 1 k v45).bind λl=>(cg (ah o.Guards)).bind λm=>(aT 1 l m).bind λn=>(QL o.Guards).bind λv53=>(aT 1 n v53).bind λv55=>(QL ([o.Need,o.Wait]:Bn)).bind λp=>(aT 1 v55 p).bind λq=>(nQ o.Boxes).bind λr=>(aT 1 q r).bind λs=>(jl o.Pub).bind λt=>(aT 1 s t).bind λu=>(cg (ah o.Hist)).bind λv=>(aT 1 u v).bind λw=>(AH (Pp o) (w,0)).bind λx=>some x
theorem GX{o}:M5 prog gl (lz o) 80 [.agg (aJ o)] 5 cY:=
 gc func80 λK=>ak λv1 e2=>aw [ho 19 [aE cZ ([o.By,o.Seq,o.Kind,o.At,ah o.Past]:Bn)] [hc (rZ.al ([o.By,o.Seq,o.Kind,o.At,ah o.Past]:Bn))] (oT gl e2) (lY v1)]<|I5 11101 (λg=>sp [] [(1,.ref 0 0),(3,.rsl 1 0 g.length)] [ob 0 70 (aJ o),ob 1 5 (g.flatMap cY)] 2) (λs3=>sp [] [(1,.ref 0 0),(3,.rsl 1 0 s3.1.length),(4,iG s3.2)] [ob 0 70 (aJ o),ob 1 5 (s3.1.flatMap cY)] 2) (DP rY v1) (λg=>ak λh i=>Gd (dg 49 rY) λj=>aw [ho 48 [aE cZ ([o.Device,o.Old,o.Member,o.Role,ah o.Path]:Bn)] [hc (rZ.al ([o.Device,o.Old,o.Member,o.Role,ah o.Path]:Bn))] (oT gl i) (lY h)]<|I5 1111101 (λc=>so [] [(3,.rsl 1 0 c.length)] [ob 1 5 (c.flatMap cY)] 2) (λa=>so [] [(3,.rsl 1 0 a.1.length),(5,iG a.2)] [ob 1 5 (a.1.flatMap cY)] 2) (DP rY j) (λc=>JI 78 rY (GO gl) λv25=>Gd (eu 79 rY) λz=>JI 83 rY (eZ gl) λA=>Gd (eu 84 rY) λB=>JI 89 rY (Jp gl) λC=>Gd (eu 90 rY) λD=>JI 95 rY (eZ gl) λE=>Gd (eu 96 rY) λv39=>JI 100 rY (AG gl) λF=>Gd (eu 101 rY) λH=>JI 105 rY (GO gl) λv45=>Gd (eu 106 rY) λI=>JI 111 rY (eZ gl) λJ=>Gd (eu 112 rY) λL=>JI 116 rY (oT gl) λv53=>Gd (eu 117 rY) λv55=>ak λk l=>Gd (dg 125 rY) λM=>JI 129 rY (GW gl) λN=>Gd (eu 130 rY) λO=>JI 134 rY (LU gl) λP=>Gd (eu 135 rY) λQ=>JI 140 rY (eZ gl) λR=>Gd (eu 141 rY) λm=>aw [XY 88 o.Body,ho 124 [aE cZ ([o.Need,o.Wait]:Bn)] [hc (rZ.al ([o.Need,o.Wait]:Bn))] (oT gl l) (lY k)]<|I5 11111111111111111101 (λd=>sk [] [(3,.rsl 0 0 d.length)] [ob 0 5 (d.flatMap cY)] 1) (λb=>so [] [(3,.rsl 1 0 b.1.length),(6,iG b.2)] [ob 1 5 (b.1.flatMap cY)] 2) (DP rY m) (λd=>mr c0 K (rY.imm _)) λb n p=>aF 146 (CD 153 bH.ixZ 155 (bH.fsZ aW jz 0 BU) λS=>JI 156 rY (GO gl) λU=>Gd (eu 157 rY) λV=>CD 162 bH.ixZ 164 (bH.fdY tLY 3) λq=>JI 166 rY (Jp gl) λW=>Gd (eu 167 rY) λr=>aw [XY 165 q.Body]<|cj n (DP rY r))<|aA c1 p (DP rY b.1)) λa s t=>aF 54 (CD 61 bZ.ixZ 63 (bZ.fdY tW 0) λX=>JI 64 rY (LU gl) λY=>Gd (eu 65 rY) λu=>CD 70 bZ.ixZ 72 (bZ.fdY E3 1) λv=>JI 73 rY (GW gl) λw=>Gd (eu 74 rY) λe=>cj s (DP rY e))<|aA c1 t (DP rY a.1)) λs3 Z k6=>aF 24 (CD 31 ac.ixZ 32 (ac.ptZ aW) λx=>JI 33 rY (GO gl) λy=>Gd (eu 34 rY) λf=>cj Z (DP rY f))<|aA c1 k6 (DP rY s3.1)
def nR(o:Bo):Option Bo:=
 (lf [115,105,103,110] o.By).bind λv1=>(lz o).bind λv3=>(zX v1 v3).bind λv5=>some ({o with Sig:=v5})
theorem E8{o}:DL prog gl (nR o) 43 [.agg (aJ o)] (λr=> .agg (aJ r)):=
 cy func43 λK=>BG 5 (kG gl) λv1=>JI 7 rY (GX gl) λv3=>BG 8 (Jg gl) λv5=>rv K
def pV(o:Bo):Option Ab:=
 (lz o).bind λv1=>(jI [111,112] v1).bind λv3=>some ⟨o.By,o.Seq,v3⟩
theorem AI{o}:DL prog gl (pV o) 47 [.agg (aJ o)] (λr=> .agg (aj r)):=
 cy func47 λK=>JI 8 rY (GX gl) λv1=>BG 9 (yB gl) λv3=>rv K
def xq(l:Bn)(n:Int)(s1:Int):Option ((Int)⊕(Unit⊕Bool)):=
 bif s1<ah l then((aS l s1).bind λa=>bif a=n then(some (.inr (.inr true)))else(some (.inl (wI (s1+1)))))else(some (.inr (.inl ())))
def fb(l:Bn)(n:Int):Fo:=
 (AH (xq l n) 0).bind λa=>ma a (λb=>some false) (λq=>some q)
theorem DD{l n}:DL prog gl (fb l n) 10 [aE cZ l,iG n] bG:=
 cy func10 λK=>O7 1101 (λa=>sg [] []) (λs1=>sf [] [(5,iG s1)]) [] K (λa=>rv K) λs1 k5 b k6=>aF 9 (CD 14 rZ.ixZ 15 (rZ.p1Y tZ) λc=>aF 17 (aP c3 k6 [])<|rb k5)<|aA c2 b []
def tT(g:Bc)(s3:List Bool×Int)(a:List Bool×Int):Option ((List Bool×Int)⊕(List Bool)):=
 (aS g.Up s3.2).bind λb=>bif a.2<ah b then((aS g.Up s3.2).bind λc=>(aS c a.2).bind λd=>(ji a.1 d true).bind λe=>some (.inl (e,wI (a.2+1))))else(some (.inr a.1))
def AJ(g:Bc)(up:Bn)(s3:List Bool×Int):Option ((List Bool×Int)⊕(List Bool)):=
 bif 0<=s3.2 then((fb up s3.2).bind λb=>(bif b then((ji s3.1 s3.2 true).bind λc=>some c)else(some s3.1)).bind λa=>(aS a s3.2).bind λd=>bif d then((AH (tT g s3) (a,0)).bind λe=>some (.inl (e,wI (s3.2-1))))else(some (.inl (a,wI (s3.2-1)))))else(some (.inr s3.1))
def jA(g:Bc)(up:Bn):Option (List Bool):=
 (rP 1 (false:Bool) (ah g.L)).bind λa=>(AH (AJ g up) (a,wI ((ah g.L)-1))).bind λb=>some b
theorem AK{g up}:M5 prog gl (jA g up) 82 [.agg (aI g),aE cZ up] 4 cO:=
 gc func82 λK=>Gd (hmk 11 rO) λq=>I5 11101 (λl=>sp [] [(5,.rsl 0 0 l.length)] [ob 0 4 (l.flatMap cO)] 1) (λs3=>so [0] [(2,.ref 0 0),(5,.rsl 1 0 s3.1.length),(6,iG s3.2)] [ob 0 30 (aI g),ob 1 4 (s3.1.flatMap cO)] 2) (DP rO q) (λl=>mr c0 K (rO.imm _)) λs3 p k6=>aF 17 (BG 22 (DD gl) λm=>cN 111012210201 (sf [] [(22,bG m)]) (DP rO s3.1)<|cC 111012210201 (λa=>so [22] [(5,.rsl 1 0 a.length)] [ob 1 4 (a.flatMap cO)] 2) (λa=>ak λr d=>aw [AB 28 (rO.ixrZ 1 d)]<|kV (λe=>aw [AB 29 (cB (rO.p10Z tO d) e)]<|I5 11101221021131 (λc=>so [] [(5,.rsl 1 0 c.length)] [ob 1 4 (c.flatMap cO)] 2) (λb=>so [] [(5,.rsl 1 0 b.1.length),(7,iG b.2)] [ob 1 4 (b.1.flatMap cO)] 2) (DP rO a) (λc=>cj p (DP rO c)) λb n o=>CD 34 nH.ixZ 35 (nH.p1Y Vs) λs=>aF 37 (CD 44 nH.ixZ 45 (nH.p1Y Vs) λt=>CD 47 rZ.ixZ 48 (rZ.p1Y tZ) λu=>ak λi f=>aw [AB 49 (rO.ixsZ 1 f),hw 49 (i.flatMap cO) (rO.putZ f)]<|cj n [hc (hZ f),hc (rO.imm i)])<|aA c1 o (DP rO b.1)) λe=>aw [AB 29 (cB (rO.p10Z tO d) e)]<|cj p (DP rO a)) λa j=>eH [22] (ak λk h=>aw [AB 25 (rO.ixsZ 1 h),hw 25 (k.flatMap cO) (rO.putZ h)]<|aA c0 j [hc (hZ h),hc (rO.imm k)])<|aA c0 j (DP rO s3.1))<|aA c1 k6 (DP rO s3.1)
def oU(a:Ab)(b:Ab):Fo:=
 bif a.By≠b.By then(some (decide (a.By<b.By)))else(bif a.Seq≠b.Seq then(some (decide (a.Seq<b.Seq)))else(some (decide ((a.Sum:Int)<(b.Sum:Int)))))
theorem oV{a b}:DL prog gl (oU a b) 227 [.agg (aj a),.agg (aj b)] bG:=
 cy func227 λK=>aF 9 (rv K)<|aF 19 (rv K)<|rv K
def Fa(kind:Int):Fo:=
 (bif kind=1 then(some true)else(bif kind=2 then(some true)else(bif kind=3 then(some true)else(bif kind=4 then(some true)else(some (decide (kind=13))))))).bind λa=>some a
theorem N7{kind}:DL prog gl (Fa kind) 52 [iG kind] bG:=
 cy func52 λK=>cN [1,0] (sf [] []) []<|cC [1,0] (λa=>sg [] [(2,bG a)]) (λa=>rv K) λa k3=>aF 4 (rx k3)<|aF 8 (rx k3)<|aF 12 (rx k3)<|aF 16 (rx k3)<|rx k3
def mz(o:Bo):Fo:=
 (bif o.Kind=7 then(some true)else(bif o.Kind=8 then(some true)else(bif o.Kind=12 then(some true)else(bif o.Kind=10 then(some true)else(bif o.Kind=11 then(some true)else(some (decide (o.Kind=13)))))))).bind λa=>(bif o.Device≠0 then(bif o.Kind≠2 then(bif o.Kind≠3 then(bif o.Kind≠11 then(some (decide (o.Kind≠13)))else(some false))else(some false))else(some false))else(some false)).bind λg=>bif g then(some false)else((bif o.Old≠0 then(bif o.Kind≠13 then(some true)else(bif o.Member≠0 then(bif o.Kind≠3 then(bif o.Kind≠5 then(some true)else(bif o.Role≠0 then(bif o.Kind≠2 then(some (decide (o.Kind≠5)))else(some false))else(some false)))else(bif o.Role≠0 then(bif o.Kind≠2 then(some (decide (o.Kind≠5)))else(some false))else(some false)))else(bif o.Role≠0 then(bif o.Kind≠2 then(some (decide (o.Kind≠5)))else(some false))else(some false))))else(bif o.Member≠0 then(bif o.Kind≠3 then(bif o.Kind≠5 then(some true)else(bif o.Role≠0 then(bif o.Kind≠2 then(some (decide (o.Kind≠5)))else(some false))else(some false)))else(bif o.Role≠0 then(bif o.Kind≠2 then(some (decide (o.Kind≠5)))else(some false))else(some false)))else(bif o.Role≠0 then(bif o.Kind≠2 then(some (decide (o.Kind≠5)))else(some false))else(some false)))).bind λh=>bif h then(some false)else((bif 0<ah o.Path then((Fa o.Kind).bind λb=>some (!b))else(some false)).bind λi=>bif i then(some false)else((bif o.Kind≠6 then(bif(!decide (o.Epoch=(⟨0,0,0⟩:Ab)))then(some true)else(bif o.N≠0 then(some true)else(some (decide (0<ah o.Refs)))))else(some false):Fo).bind λj12=>bif j12 then(some false)else((bif 0<ah o.Body then(bif o.Kind≠6 then(bif o.Kind≠7 then(some true)else(bif(!decide (o.Of=(⟨0,0,0⟩:Ab)))then(some (!a))else(some false)))else(bif(!decide (o.Of=(⟨0,0,0⟩:Ab)))then(some (!a))else(some false)))else(bif(!decide (o.Of=(⟨0,0,0⟩:Ab)))then(some (!a))else(some false)):Fo).bind λc=>bif c then(some false)else((bif o.Kind≠9 then(bif 0<ah o.Guards then(some true)else(bif o.Wait≠0 then(some true)else(some (decide ((o.Pub:Int)≠((0:Nat):Int))))))else(some false)).bind λd=>bif d then(some false)else((bif o.Need≠0 then(bif o.Kind≠9 then(bif o.Kind≠1 then(some true)else(bif 0<ah o.Boxes then(bif o.Kind≠9 then(bif o.Kind≠10 then(some (decide (o.Kind≠11)))else(some false))else(some false))else(some false)))else(bif 0<ah o.Boxes then(bif o.Kind≠9 then(bif o.Kind≠10 then(some (decide (o.Kind≠11)))else(some false))else(some false))else(some false)))else(bif 0<ah o.Boxes then(bif o.Kind≠9 then(bif o.Kind≠10 then(some (decide (o.Kind≠11)))else(some false))else(some false))else(some false))).bind λe=>bif e then(some false)else((bif ah o.Hist=0 then(some true)else(bif o.Kind=2 then(some true)else(some (decide (o.Kind=13))))).bind λf=>some f)))))))
theorem Jr{o}:DL prog gl (mz o) 223 [.agg (aJ o)] bG:=
 cy func223 λK=>cN 1110 (sp [] [(1,.ref 0 0),(3,iG o.Kind)] [ob 0 70 (aJ o)] 1) []<|cC 1110 (λq=>sf [] [(4,bG q)]) (λq=>N4 111100 (sf [] []) [] 47 (rv K) (N4 1111100 (sf [47] []) [] 80 (rv K) (N4 11111100 (sf [80] []) [] 89 (rv K) (N4 111111100 (sf [89] []) [] 108 (rv K) (cN 1111111100 (sf [108] []) []<|cC 1111111100 (λh=>sf [4] [(130,bG h)]) (λh=>eH [130] (rv K)<|N4 11111111100 (sf [130] []) [] 148 (rv K) (N4 111111111100 (sf [148] []) [] 177 (rv K) (cN 111111111110 (sf [177] []) []<|cC 111111111110 (λi=>sk [] [(2,bG i)] [] 0) (λi=>rv K) λi j=>aF 181 (rx j)<|aF 185 (rx j)<|rx j) λb=>aF 151 (aF 155 (aF 159 (rx b)<|aF 164 (aF 168 (aF 172 (rx b)<|rx b)<|rx b)<|rx b)<|aF 164 (aF 168 (aF 172 (rx b)<|rx b)<|rx b)<|rx b)<|aF 164 (aF 168 (aF 172 (rx b)<|rx b)<|rx b)<|rx b) λf=>aF 132 (aF 137 (rx f)<|aF 142 (rx f)<|rx f)<|rx f) λh c=>aF 112 (aF 116 (aF 120 (rx c)<|kV (λk=>aw [hV 125 (cV (dy o.Of (⟨0,0,0⟩:Ab) rfl) k)]<|rx c) λk=>aw [hV 125 (cV (dy o.Of (⟨0,0,0⟩:Ab) rfl) k)]<|rx c)<|kV (λl=>aw [hV 125 (cV (dy o.Of (⟨0,0,0⟩:Ab) rfl) l)]<|rx c) λl=>aw [hV 125 (cV (dy o.Of (⟨0,0,0⟩:Ab) rfl) l)]<|rx c)<|kV (λm=>aw [hV 125 (cV (dy o.Of (⟨0,0,0⟩:Ab) rfl) m)]<|rx c) λm=>aw [hV 125 (cV (dy o.Of (⟨0,0,0⟩:Ab) rfl) m)]<|rx c) λg=>aF 91 (kV (λn=>aw [hV 96 (cV (dy o.Epoch (⟨0,0,0⟩:Ab) rfl) n)]<|rx g) λn=>aw [hV 96 (cV (dy o.Epoch (⟨0,0,0⟩:Ab) rfl) n)]<|aF 101 (rx g)<|rx g)<|rx g) λp=>aF 84 (BG 87 (N7 gl) λr=>rx p)<|rx p) λa=>aF 50 (aF 54 (rx a)<|aF 58 (aF 62 (aF 67 (rx a)<|aF 71 (aF 75 (rx a)<|rx a)<|rx a)<|aF 71 (aF 75 (rx a)<|rx a)<|rx a)<|aF 71 (aF 75 (rx a)<|rx a)<|rx a)<|aF 58 (aF 62 (aF 67 (rx a)<|aF 71 (aF 75 (rx a)<|rx a)<|rx a)<|aF 71 (aF 75 (rx a)<|rx a)<|rx a)<|aF 71 (aF 75 (rx a)<|rx a)<|rx a) λe=>aF 31 (aF 35 (aF 39 (aF 43 (rx e)<|rx e)<|rx e)<|rx e)<|rx e) λq d=>aF 8 (rx d)<|aF 12 (rx d)<|aF 16 (rx d)<|aF 20 (rx d)<|aF 24 (rx d)<|rx d
def fB(n:Int)(low:Int)(a:Int):Fo:=
 (bif low<=n then(some (decide (n<=a)))else(some false)).bind λb=>some b
theorem bJ{n low a}:DL prog gl (fB n low a) 326 [iG n,iG low,iG a] bG:=
 cy func326 λK=>cN [1,0] (sf [] []) []<|cC [1,0] (λb=>sg [] [(6,bG b)]) (λb=>rv K) λb k3=>aF 9 (rx k3)<|rx k3
def AL(n:Nat):Fo:=
 some (decide ((n:Int)<((2305843009213693951:Nat):Int)))
theorem vv{n}:DL prog gl (AL n) 329 [uG n] bG:=
 cy func329 λK=>rv K
def iM(a:Ab):Fo:=
 ((fB a.By 1 12).bind λd=>bif d then((fB a.Seq 1 2147483647).bind λb=>bif b then((AL a.Sum).bind λc=>some c)else(some false))else(some false)).bind λe=>some e
theorem dW{id_}:DL prog gl (iM id_) 327 [.agg (aj id_)] bG:=
 cy func327 λK=>cN [1,0] (sp [] [(1,.ref 0 0)] [ob 0 41 (aj id_)] 1) []<|cC [1,0] (λa=>sk [] [(2,bG a)] [] 0) (λa=>rv K) λa k5=>ak λe e8=>kV (λb=>BG 9 (bJ gl) λc=>aw [hf 5 (cF (bJ gl e8) b)]<|aF 10 (BG 14 (vv gl) λd=>rx k5)<|rx k5) λb=>aw [hf 5 (cF (bJ gl e8) b)]<|rx k5
def Jo(n:Nat):Fo:=
 (bif ((1:Nat):Int)<=(n:Int)then(some (decide ((n:Int)<((2305843009213693951:Nat):Int))))else(some false)).bind λa=>some a
theorem kH{n}:DL prog gl (Jo n) 328 [uG n] bG:=
 cy func328 λK=>cN [1,0] (sf [] []) []<|cC [1,0] (λa=>sg [] [(2,bG a)]) (λa=>rv K) λa k3=>aF 4 (rx k3)<|rx k3
end
section
set_option maxHeartbeats 2000000
attribute [local irreducible] Tr dz Gp
def Gb(o:Bo):Fo:=
 ((fB o.By 1 12).bind λa=>bif(!a)then(some true)else((fB o.Seq 1 2147483647).bind λb=>bif(!b)then(some true)else((fB o.At 0 2147483647).bind λc=>some (!c)))).bind λB=>bif B then(some false)else(bif o.Kind=1 then((fB o.Need 0 20).bind λC=>some C)else(bif o.Kind=2 then(((fB o.Device 1 12).bind λf=>bif f then((fB o.Role 1 3).bind λg=>some g)else(some false)).bind λj12=>some j12)else(bif o.Kind=3 then(((fB o.Device 1 12).bind λh=>bif h then(bif o.Member=0 then(some true)else(bif o.Device=0 then((fB o.Member 1 8).bind λi=>some i)else(some false)))else(bif o.Device=0 then((fB o.Member 1 8).bind λj=>some j)else(some false))).bind λk=>some k)else(bif o.Kind=5 then(((fB o.Member 1 8).bind λv45=>bif v45 then((fB o.Role 1 3).bind λl=>some l)else(some false)).bind λm=>some m)else(bif o.Kind=6 then(((iM o.Epoch).bind λn=>bif n then((fB o.N 0 2147483647).bind λp=>some p)else(some false)).bind λq=>some q)else(bif o.Kind=9 then(((fB o.Need 1 (ah o.Guards)).bind λr=>bif r then((fB o.Wait 0 2147483647).bind λs=>bif s then((Jo o.Pub).bind λt=>some t)else(some false))else(some false)).bind λu=>some u)else(bif o.Kind=11 then(((iM o.Of).bind λv=>bif v then((fB o.Device 1 12).bind λw=>some w)else(some false)).bind λx=>some x)else(bif o.Kind=13 then(((iM o.Of).bind λy=>bif y then((fB o.Device 1 12).bind λz=>bif z then((fB o.Old 1 12).bind λd=>some d)else(some false))else(some false)).bind λA=>some A)else(bif o.Kind=4 then(some true)else((iM o.Of).bind λe=>some e))))))))))
theorem De{o}:DL prog gl (Gb o) 224 [.agg (aJ o)] bG:=
 cy func224 λK=>N4 1100 (sp [] [(1,.ref 0 0)] [ob 0 70 (aJ o)] 1) [] 18 (rv K) (aF 22 (BG 25 (bJ gl) λv7=>rv K)<|aF 27 (cN 11101214130 (sf [18] []) []<|cC 11101214130 (λj12=>sk [] [(2,bG j12)] [] 0) (λj12=>rv K) λj12 s=>ak λJ t=>kV (λc=>BG 34 (bJ gl) λL=>aw [hf 30 (cF (bJ gl t) c)]<|rx s) λc=>aw [hf 30 (cF (bJ gl t) c)]<|rx s)<|aF 37 (cN 1110121414130 (sf [18] []) []<|cC 1110121414130 (λd=>sk [] [(2,bG d)] [] 0) (λd=>rv K) λd a=>ak λM u=>kV (λe=>aw [hf 40 (cF (bJ gl u) e)]<|aF 45 (rx a)<|aF 49 (BG 53 (bJ gl) λN=>rx a)<|rx a) λe=>aw [hf 40 (cF (bJ gl u) e)]<|aF 49 (BG 53 (bJ gl) λO=>rx a)<|rx a)<|aF 57 (cN 111012141414130 (sf [18] []) []<|cC 111012141414130 (λf=>sk [] [(2,bG f)] [] 0) (λf=>rv K) λf v=>ak λv45 w=>kV (λg=>BG 64 (bJ gl) λP=>aw [hf 60 (cF (bJ gl w) g)]<|rx v) λg=>aw [hf 60 (cF (bJ gl w) g)]<|rx v)<|aF 67 (cN 11101214141414130 (sf [18] []) []<|cC 11101214141414130 (λh=>sk [] [(2,bG h)] [] 0) (λh=>rv K) λh x=>ak λQ y=>kV (λi=>BG 74 (bJ gl) λR=>aw [hf 70 (cF (dW gl y) i)]<|rx x) λi=>aw [hf 70 (cF (dW gl y) i)]<|rx x)<|aF 77 (cN 1110121414141414130 (sf [18] []) []<|cC 1110121414141414130 (λj=>sk [] [(2,bG j)] [] 0) (λj=>rv K) λj k=>ak λS z=>kV (λl=>BG 87 (bJ gl) λU=>aw [hf 83 (cF (bJ gl z) l)]<|aF 88 (BG 92 (kH gl) λV=>rx k)<|rx k) λl=>aw [hf 83 (cF (bJ gl z) l)]<|rx k)<|aF 95 (cN 111012141414141414130 (sf [18] []) []<|cC 111012141414141414130 (λm=>sk [] [(2,bG m)] [] 0) (λm=>rv K) λm A=>ak λW B=>kV (λn=>BG 102 (bJ gl) λX=>aw [hf 98 (cF (dW gl B) n)]<|rx A) λn=>aw [hf 98 (cF (dW gl B) n)]<|rx A)<|aF 105 (cN 11101214141414141414130 (sf [18] []) []<|cC 11101214141414141414130 (λp=>sk [] [(2,bG p)] [] 0) (λp=>rv K) λp q=>ak λY C=>kV (λr=>BG 112 (bJ gl) λZ=>aw [hf 108 (cF (dW gl C) r)]<|aF 113 (BG 117 (bJ gl) λD=>rx q)<|rx q) λr=>aw [hf 108 (cF (dW gl C) r)]<|rx q)<|aF 120 (rv K)<|BG 123 (dW gl) λE=>rv K) λb=>BG 5 (bJ gl) λF=>aF 6 (rx b)<|BG 10 (bJ gl) λH=>aF 12 (rx b)<|BG 16 (bJ gl) λI=>rx b
def qv(l:List Hd)(s1:Int):Option ((Int)⊕(Unit⊕Bool)):=
 bif s1<ah l then(((aS l s1).bind λa=>(Jo a.To).bind λv22=>bif(!v22)then(some true)else((aS l s1).bind λb=>(Jo b.Eph).bind λc=>bif(!c)then(some true)else((aS l s1).bind λd=>(AL d.Body).bind λe=>bif(!e)then(some true)else((aS l s1).bind λf=>(AL f.Tag).bind λg=>some (!g))))).bind λh=>bif h then(some (.inr (.inr false)))else(some (.inl (wI (s1+1)))))else(some (.inr (.inl ())))
def qw(l:List Hd):Fo:=
 (AH (qv l) 0).bind λa=>ma a (λb=>some true) (λq=>some q)
theorem yE{l}:DL prog gl (qw l) 330 [aE cz l] bG:=
 cy func330 λK=>O7 1101 (λb=>sg [] []) (λs1=>sf [] [(3,iG s1)]) [] K (λb=>rv K) λs1 k5 c k6=>aF 7 (N4 1101221020 (sf [] []) [] 43 (aP c3 k6 []) (rb k5) λa=>CD 12 EP.ixZ 14 (EP.fdY tW 0) λd=>BG 15 (kH gl) λv22=>aF 16 (rx a)<|CD 20 EP.ixZ 22 (EP.fdY tW 1) λe=>BG 23 (kH gl) λf=>aF 25 (rx a)<|CD 29 EP.ixZ 31 (EP.fdY tW 2) λg=>BG 32 (vv gl) λh=>aF 34 (rx a)<|CD 38 EP.ixZ 40 (EP.fdY tW 3) λi=>BG 41 (vv gl) λj=>rx a)<|aA c2 c []
def qx(o:Bo)(a:Int):Option ((Int)⊕(Unit⊕Bool)):=
 bif a<ah o.Hist then((aS o.Hist a).bind λb=>(iM b.Of).bind λc=>bif(!c)then(some (.inr (.inr false)))else(some (.inl (wI (a+1)))))else(some (.inr (.inl ())))
def qy(o:Bo)(a:Int):Option ((Int)⊕(Unit⊕Bool)):=
 bif a<ah o.Path then(((aS o.Path a).bind λb=>(Jo b.Pub).bind λv66=>bif(!v66)then(some true)else((aS o.Path a).bind λc=>(qw c.Boxes).bind λd=>some (!d))).bind λe=>bif e then(some (.inr (.inr false)))else(some (.inl (wI (a+1)))))else(some (.inr (.inl ())))
def qz(o:Bo)(a:Int):Option ((Int)⊕(Unit⊕Bool)):=
 bif a<ah o.Past then((aS o.Past a).bind λb=>(iM b).bind λv76=>bif(!v76)then(some (.inr (.inr false)))else(some (.inl (wI (a+1)))))else(some (.inr (.inl ())))
def qA(o:Bo)(a:Int):Option ((Int)⊕(Unit⊕Bool)):=
 bif a<ah o.Refs then((aS o.Refs a).bind λb=>(AL b).bind λc=>bif(!c)then(some (.inr (.inr false)))else(some (.inl (wI (a+1)))))else(some (.inr (.inl ())))
def qB(o:Bo)(s1:Int):Option ((Int)⊕(Unit⊕Bool)):=
 bif s1<ah o.Guards then((aS o.Guards s1).bind λa=>(fB a 1 12).bind λb=>bif(!b)then(some (.inr (.inr false)))else(some (.inl (wI (s1+1)))))else(some (.inr (.inl ())))
def vw(o:Bo):Fo:=
 (AH (qB o) 0).bind λi=>ma i (λj=>(AH (qA o) 0).bind λa=>ma a (λe=>(AH (qz o) 0).bind λb=>ma b (λf=>(AH (qy o) 0).bind λc=>ma c (λg=>(AH (qx o) 0).bind λd=>ma d (λh=>(qw o.Boxes).bind λv46=>some v46) (λq=>some q)) (λq=>some q)) (λq=>some q)) (λq=>some q)) (λq=>some q)
theorem GY{o}:DL prog gl (vw o) 225 [.agg (aJ o)] bG:=
 cy func225 λK=>O7 1101 (λj=>sp [] [(1,.ref 0 0)] [ob 0 70 (aJ o)] 1) (λs1=>sp [] [(1,.ref 0 0),(3,iG s1)] [ob 0 70 (aJ o)] 1) [] K (λj=>O7 11101 (λa=>sf [] []) (λb=>sf [] [(4,iG b)]) [] K (λa=>O7 111101 (λc=>sf [] []) (λd=>sf [] [(5,iG d)]) [] K (λc=>O7 1111101 (λe=>sf [] []) (λf=>sf [] [(6,iG f)]) [] K (λe=>O7 11111101 (λg=>sf [] []) (λh=>sf [] [(7,iG h)]) [] K (λg=>BG 92 (yE gl) λv46=>rv K) λh k l m=>aF 79 (CD 85 bH.ixZ 87 (bH.fsZ aW jz 0 BU) λw=>BG 88 (dW gl) λx=>aF 89 (aP c3 m [])<|rb k)<|aA c2 l []) λf n p q=>aF 54 (N4 1111101221020 (sf [] []) [] 74 (aP c3 q []) (rb n) λi=>CD 60 bZ.ixZ 62 (bZ.fdY tW 0) λy=>BG 63 (kH gl) λv66=>aF 64 (rx i)<|CD 69 bZ.ixZ 71 (bZ.fdY E3 1) λz=>BG 72 (yE gl) λA=>rx i)<|aA c2 p []) λd r s t=>aF 40 (CD 46 ac.ixZ 47 (ac.ptZ aW) λB=>BG 48 (dW gl) λv76=>aF 49 (aP c3 t [])<|rb r)<|aA c2 s []) λb u k13 v=>aF 26 (CD 32 rW.ixZ 33 (rW.p1Y tW) λC=>BG 34 (vv gl) λD=>aF 35 (aP c3 v [])<|rb u)<|aA c2 k13 []) λs1 k5 E k6=>aF 12 (CD 18 rZ.ixZ 19 (rZ.p1Y tZ) λF=>BG 20 (bJ gl) λH=>aF 21 (aP c3 k6 [])<|rb k5)<|aA c2 E []
def tU(o:Bo)(a:Int):Option ((Int)⊕(Unit⊕Bool)):=
 bif a<ah o.Hist then((aS o.Hist a).bind λb=>bif 208<ah b.Body then(some (.inr (.inr true)))else(some (.inl (wI (a+1)))))else(some (.inr (.inl ())))
def tV(o:Bo)(s1:Int):Option ((Int)⊕(Unit⊕Bool)):=
 bif s1<ah o.Path then((aS o.Path s1).bind λa=>bif 12<ah a.Boxes then(some (.inr (.inr true)))else(some (.inl (wI (s1+1)))))else(some (.inr (.inl ())))
def z6(o:Bo):Fo:=
 (AH (tV o) 0).bind λg=>ma g (λh=>(AH (tU o) 0).bind λa=>ma a (λf=>(bif 12<ah o.Past then(some true)else(bif 5<ah o.Path then(some true)else(bif 208<ah o.Body then(some true)else(bif 8<ah o.Refs then(some true)else(bif 20<ah o.Hist then(some true)else(some (decide (6<ah o.Guards)))))))).bind λb=>bif b then(some true)else(bif o.Kind=7 then((fB (ah o.Body) 1 20).bind λc=>some (!c))else(bif o.Kind=9 then(some (decide (ah o.Boxes≠ah o.Guards)))else(bif o.Kind=10 then((fB (ah o.Boxes) 1 6).bind λd=>some (!d))else((bif o.Kind=11 then(some (decide (ah o.Boxes≠1)))else(some false)).bind λe=>some e))))) (λq=>some q)) (λq=>some q)
theorem AM{o}:DL prog gl (z6 o) 226 [.agg (aJ o)] bG:=
 cy func226 λK=>O7 1101 (λf=>sp [] [(1,.ref 0 0)] [ob 0 70 (aJ o)] 1) (λs1=>sp [] [(1,.ref 0 0),(3,iG s1)] [ob 0 70 (aJ o)] 1) [] K (λf=>O7 11101 (λc=>sf [] []) (λd=>sf [] [(4,iG d)]) [] K (λc=>N4 111100 (sf [] []) [] 68 (rv K) (aF 71 (BG 75 (bJ gl) λi=>rv K)<|aF 79 (rv K)<|aF 89 (BG 93 (bJ gl) λj=>rv K)<|cN 111111110 (sf [68] []) []<|cC 111111110 (λb=>sk [] [(2,bG b)] [] 0) (λb=>rv K) λb e=>aF 97 (rx e)<|rx e) λa=>aF 38 (rx a)<|aF 44 (rx a)<|aF 50 (rx a)<|aF 56 (rx a)<|aF 62 (rx a)<|rx a) λd g k13 h=>aF 24 (CD 30 bH.ixZ 32 (bH.fdY tLY 3) λk=>aF 34 (aP c3 h [])<|rb g)<|aA c2 k13 []) λs1 k5 l k6=>aF 9 (CD 15 bZ.ixZ 17 (bZ.fdY E3 1) λm=>aF 19 (aP c3 k6 [])<|rb k5)<|aA c2 l []
def qC(o:Bo)(a:Int):Option ((Int)⊕(Unit⊕Int)):=
 bif a<ah o.Guards then((aS o.Guards (wI (a-1))).bind λb=>(aS o.Guards a).bind λc=>bif c<=b then(some (.inr (.inr 6)))else(some (.inl (wI (a+1)))))else(some (.inr (.inl ())))
def qD(o:Bo)(a:Int):Option ((Int)⊕(Unit⊕Int)):=
 bif a<ah o.Past then((aS o.Past (wI (a-1))).bind λb=>(aS o.Past a).bind λc=>(oU b c).bind λd=>bif(!d)then(some (.inr (.inr 6)))else(some (.inl (wI (a+1)))))else(some (.inr (.inl ())))
def qE(o:Bo):JQ:=
 (bif o.Kind<1 then(some true)else(some (decide (13<o.Kind)))).bind λi=>bif i then(some 1)else((mz o).bind λv4=>bif(!v4)then(some 1)else(((Gb o).bind λa=>bif(!a)then(some true)else((vw o).bind λb=>some (!b))).bind λj=>bif j then(some 8)else((z6 o).bind λc=>bif c then(some 2)else((AH (qD o) 1).bind λd=>ma d (λg=>(AH (qC o) 1).bind λe=>ma e (λh=>(bif ah o.Past=0 then(bif o.Kind=1 then(some false)else(some true))else(bif o.Kind=1 then(some true)else(some false))).bind λf=>bif f then(some 10)else(some 0)) (λq=>some q)) (λq=>some q)))))
theorem GZ{o}:DL prog gl (qE o) 158 [.agg (aJ o)] iG:=
 cy func158 λK=>N4 1100 (sp [] [(1,.ref 0 0)] [ob 0 70 (aJ o)] 1) [] 12 (rv K) (BG 14 (Jr gl) λv4=>aF 15 (rv K)<|N4 111100 (sf [12] []) [] 23 (rv K) (ak λq c=>kV (λb=>aw [hf 25 (cF (AM gl c) b)]<|rv K) λb=>aw [hf 25 (cF (AM gl c) b)]<|O7 11111101 (λd=>sf [23] []) (λe=>sf [23] [(3,iG e)]) [] K (λd=>O7 111111101 (λf=>sf [] []) (λg=>sf [] [(4,iG g)]) [] K (λf=>Acd 1111111100 (sf [] []) [] 72 (rv K) (rv K) λa=>aF 68 (aF 71 (rx a)<|rx a)<|aF 71 (rx a)<|rx a) λg j k l=>aF 50 (CD 57 rZ.ixZ 58 (rZ.p1Y tZ) λr=>CD 62 rZ.ixZ 63 (rZ.p1Y tZ) λs=>aF 64 (aP c3 l [])<|rb j)<|aA c2 k []) λe m n p=>aF 30 (CD 37 ac.ixZ 38 (ac.ptZ aW) λt=>CD 42 ac.ixZ 43 (ac.ptZ aW) λu=>BG 44 (oV gl) λv=>aF 45 (aP c3 p [])<|rb m)<|aA c2 n []) λh=>BG 17 (De gl) λw=>aF 18 (rx h)<|BG 21 (GY gl) λx=>rx h) λi=>aF 7 (rx i)<|rx i
def qF(g:Bc)(b:Ab)(s1:Int):Option ((Int)⊕(Unit⊕Int)):=
 bif s1<ah g.IDs then((aS g.IDs s1).bind λa=>bif a=b then(some (.inr (.inr s1)))else(some (.inl (wI (s1+1)))))else(some (.inr (.inl ())))
def fC(g:Bc)(a:Ab):JQ:=
 (AH (qF g a) 0).bind λb=>ma b (λc=>some (-1)) (λq=>some q)
theorem dX{g id_}:DL prog gl (fC g id_) 159 [.agg (aI g),.agg (aj id_)] iG:=
 cy func159 λK=>O7 1101 (λc=>sg [] []) (λs1=>sp [] [(2,.ref 0 0),(3,.ref 1 0),(5,iG s1)] [ob 0 30 (aI g),ob 1 41 (aj id_)] 2) [] K (λc=>rv K) λs1 k5 d k6=>aF 10 (CD 16 ac.ixZ 17 (ac.ptZ aW) λb=>kV (λa=>aw [hV 19 (cV (dU b id_ rfl) a)]<|aP c3 k6 []) λa=>aw [hV 19 (cV (dU b id_ rfl) a)]<|rb k5)<|aA c2 d []
def tX(g:Bc)(device:Int)(s1:DR×Int):Option ((DR×Int)⊕(DR⊕(DR×Bool))):=
 bif s1.2<ah g.Cards then((aS g.Cards s1.2).bind λa=>bif a.Device=device then((aS g.Cards s1.2).bind λb=>some (.inr (.inr (b,true))))else(some (.inl (s1.1,wI (s1.2+1)))))else(some (.inr (.inl s1.1)))
def vz(g:Bc)(device:Int):Option (DR×Bool):=
 (AH (tX g device) (⟨0,0,0,0,0⟩,0)).bind λa=>ma a (λb=>some (⟨0,0,0,0,0⟩,false)) (λq=>some q)
theorem AN{g device}:DL prog gl (vz g device) 160 [.agg (aI g),iG device] (λr=> .tup [.agg (bv r.1),bG r.2]):=
 cy func160 λK=>O7 1101 (λa=>sp [] [(4,.ref 0 0)] [ob 0 147 (bv a)] 1) (λs1=>so [0] [(2,.ref 0 0),(4,.ref 1 0),(6,iG s1.2)] [ob 0 30 (aI g),ob 1 147 (bv s1.1)] 2) [] K (λa=>rv K) λs1 k5 b k6=>aF 11 (CD 17 bT.ixZ 19 (bT.fdY tZ 0) λc=>aF 21 (CD 25 bT.ixZ 26 (bT.ptZ E2) λd=>aP c3 k6 [])<|rb k5)<|aA c2 b []
def jJ(pub:Nat)(b:CY)(s:YB):Fo:=
 (bif (pub:Int)<((1:Nat):Int)then(some true)else((fV).bind λa=>bif (a:Int)<(pub:Int)then(some true)else(bif (s.R:Int)<((1:Nat):Int)then(some true)else((fV).bind λc=>bif (c:Int)<(s.R:Int)then(some true)else((fV).bind λv22=>some (decide ((v22:Int)<=(s.S:Int)))))))).bind λe=>bif e then(some false)else((iK 37 s.S).bind λv4=>(Pi s.R pub b).bind λf=>(iK pub f).bind λg=>(oQ s.R g).bind λd=>some (decide ((v4:Int)=(d:Int))))
theorem G0{pub b s}:DL prog gl (jJ pub b s) 161 [uG pub,aE cY b,.agg (yy s)] bG:=
 cy func161 λK=>N4 1100 (so [2] [(5,.ref 0 0)] [ob 0 68 (yy s)] 1) [] 30 (rv K) (BG 33 (lc gl) λv4=>BG 41 (LI gl) λe=>BG 42 (lc gl) λf=>BG 43 (nK gl) λa=>rv K) λk12=>aF 8 (rx k12)<|BG 11 (eU gl) λc=>aF 13 (rx k12)<|aF 18 (rx k12)<|BG 22 (eU gl) λd=>aF 24 (rx k12)<|BG 28 (eU gl) λv22=>rx k12
def jK(g:Bc)(o:Bo)(in_:List Bool)(s1:Bool×Int):Option ((Bool×Int)⊕(Bool⊕Bool)):=
 bif s1.2<ah g.L then(((aS in_ s1.2).bind λa=>bif(!a)then(some true)else((aS g.L s1.2).bind λb=>some (decide (b.By≠o.By)))).bind λc=>bif c then(some (.inl (s1.1,wI (s1.2+1))))else((aS g.L s1.2).bind λd=>bif o.Seq<=d.Seq then(some (.inr (.inr false)))else((bif s1.1 then(some true)else((aS g.L s1.2).bind λe=>some (decide (e.Seq=wI (o.Seq-1))))).bind λf=>some (.inl (f,wI (s1.2+1))))))else(some (.inr (.inl s1.1)))
def lA(g:Bc)(o:Bo)(in_:List Bool):Fo:=
 (AH (jK g o in_) (false,0)).bind λc=>ma c (λa=>(bif o.Seq=1 then(some true)else(some a)).bind λb=>some b) (λq=>some q)
theorem G1{g o in_}:DL prog gl (lA g o in_) 162 [.agg (aI g),.agg (aJ o),aE cO in_] bG:=
 cy func162 λK=>O7 11101 (λc=>sp [] [(4,.ref 0 0),(7,bG c)] [ob 0 70 (aJ o)] 1) (λs1=>sp [2] [(3,.ref 0 0),(4,.ref 1 0),(7,bG s1.1),(8,iG s1.2)] [ob 0 30 (aI g),ob 1 70 (aJ o)] 2) [] K (λc=>cN 11110 (sf [] []) []<|cC 11110 (λa=>sk [] [(6,bG a)] [] 0) (λa=>rv K) λa k12=>aF 56 (rx k12)<|rx k12) λs1 k5 f k6=>aF 13 (N4 111012210200 (sf [] []) [] 31 (rb k5) (CD 35 eJ.ixZ 37 (eJ.fdY tZ 1) λh=>aF 40 (aP c3 k6 [])<|cC 111012210211 (λb=>sf [31] [(7,bG b)]) (λb=>rb k5) λb d=>aF 41 (rx d)<|CD 46 eJ.ixZ 48 (eJ.fdY tZ 1) λi=>rx d) λe=>CD 18 rO.ixZ 19 (rO.p1Y tO) λj=>aF 20 (rx e)<|CD 25 eJ.ixZ 27 (eJ.fdY tZ 0) λk=>rx e)<|aA c2 f []
end
section
set_option maxHeartbeats 2000000
attribute [local irreducible] Tr dz Gp
def qG(g:Bc)(a:Bn)(c:Int)(b:Int):Option ((Int)⊕(Unit⊕(Int×Bn))):=
 bif b<ah a then((aS a c).bind λd=>(aS g.In d).bind λe=>(aS a b).bind λf=>(aS e f).bind λh=>bif h then(some (.inr (.inr (6,[]))))else(some (.inl (wI (b+1)))))else(some (.inr (.inl ())))
def qH(g:Bc)(o:Bo)(a:Bn)(b:Int):Option ((Int)⊕(Unit⊕(Int×Bn))):=
 bif b<ah a then((AH (qG g a b) 0).bind λc=>ma c (λf=>(aS a b).bind λd=>(aS g.L d).bind λe=>bif o.At<e.At then(some (.inr (.inr (6,[]))))else(some (.inl (wI (b+1))))) (λq=>some (.inr (.inr q))))else(some (.inr (.inl ())))
def qI(g:Bc)(o:Bo)(a:Bn×Int):Option ((Bn×Int)⊕(Bn⊕(Int×Bn))):=
 bif a.2<ah o.Past then((aS o.Past a.2).bind λc=>(fC g c).bind λb=>bif b<0 then(some (.inr (.inr (10,[]))))else((aT 8 a.1 ([b]:Bn)).bind λd=>some (.inl (d,wI (a.2+1)))))else(some (.inr (.inl a.1)))
def vA(g:Bc)(o:Bo):Option (Int×Bn):=
 (qE o).bind λv1=>bif v1≠0 then(some (v1,[]))else((pV o).bind λv4=>(fC g v4).bind λk=>bif 0<=k then(some (5,[]))else(bif 200<=ah g.L then(some (3,[]))else((vz g o.By).bind λb=>bif(!b.2)then(some (17,[]))else((lz o).bind λc=>(jJ b.1.Sign c o.Sig).bind λd=>bif(!d)then(some (12,[]))else((bif o.Kind=1 then(some (decide (0<ah g.L)))else(some false)).bind λe=>bif e then(some (1,[]))else((AH (qI g o) ([],0)).bind λf=>ma f (λa=>(AH (qH g o a) 0).bind λh=>ma h (λj=>(jA g a).bind λv39=>(lA g o v39).bind λi=>bif(!i)then(some (11,[]))else(some (0,a))) (λq=>some q)) (λq=>some q)))))))
theorem G2{g o}:DL prog gl (vA g o) 81 [.agg (aI g),.agg (aJ o)] (λr=> .tup [iG r.1,aE cZ r.2]):=
 cy func81 λK=>BG 16 (GZ gl) λv1=>aF 18 (rv K)<|BG 22 (AI gl) λv4=>BG 23 (dX gl) λJ=>aF 24 (rv K)<|aF 28 (rv K)<|BG 33 (AN gl) λw=>aF 37 (rv K)<|JI 41 rY (GX gl) λx=>BG 44 (G0 gl) λy=>aF 46 (rv K)<|N4 111111111100 (sp [] [(2,.ref 0 0),(3,.ref 1 0)] [ob 0 30 (aI g),ob 1 70 (aJ o)] 2) [] 55 (rv K) (O7 11111111111101 (λb=>sf [55] [(10,aE cZ b)]) (λa=>so [55] [(10,.rsl 2 0 a.1.length),(11,iG a.2)] [ob 2 3 (a.1.flatMap cZ)] 3) [hc (rZ.imm [])] K (λb=>O7 111111111111101 (λe=>sf [] []) (λf=>sf [] [(13,iG f)]) [] K (λe=>JI 118 rO (AK gl) λv39=>BG 119 (G1 gl) λz=>aF 120 (rv K)<|rv K) λf l m h=>aF 79 (O7 1111111111111012210201 (λi=>sf [] []) (λj=>sf [] [(14,iG j)]) [] h (λi=>CD 108 rZ.ixZ 109 (rZ.p1Y tZ) λA=>CD 110 eJ.ixZ 112 (eJ.fdY tZ 3) λB=>aF 113 (aP c3 h [])<|rb l) λj n p q=>aF 85 (CD 92 rZ.ixZ 93 (rZ.p1Y tZ) λC=>CD 94 zV.ixZ 95 (zV.p1Y Vt) λD=>CD 98 rZ.ixZ 99 (rZ.p1Y tZ) λE=>ak λF c=>aw [AB 100 (rO.ixZ c)]<|kV (λd=>aw [AB 101 (cB (rO.p1Z tO c) d)]<|aP c3 q []) λd=>aw [AB 101 (cB (rO.p1Z tO c) d)]<|rb n)<|aA c2 p [])<|aA c2 m []) λa s t u=>aF 60 (CD 67 ac.ixZ 68 (ac.ptZ aW) λH=>BG 69 (dX gl) λI=>aF 71 (aP c3 u [])<|Gd (dg 75 rZ) λv=>cj s (DP rZ v))<|aA c2 t [hc (rZ.al a.1)]) λk=>aF 49 (rx k)<|rx k
def xr(g:Bc)(a:List (List Bool)×Int):Option ((List (List Bool)×Int)⊕(List (List Bool))):=
 bif a.2<ah g.In then((aS g.In a.2).bind λb=>(aT 1 ([]:List Bool) b).bind λc=>((aT 1 c [false]).bind λd=>(aT 24 a.1 [d]).bind λe=>some e).bind λf=>some (.inl (f,wI (a.2+1))))else(some (.inr a.1))
def AO(g:Bc)(o:Bo):Option (Bc×Int):=
 (vA g o).bind λv1=>bif v1.1≠0 then(some (g,v1.1))else((jA g v1.2).bind λv4=>(aT 328 ([]:List Bo) g.L).bind λj=>(aT 328 j [o]).bind λk=>(aT 24 ([]:Ba) g.IDs).bind λa=>(pV o).bind λb=>(aT 24 a [b]).bind λc=>(aT 24 ([]:K4) g.Up).bind λd=>(aT 24 d [v1.2]).bind λe=>(AH (xr g) ([],0)).bind λf=>((aT 1 v4 [false]).bind λh=>(aT 24 f [h]).bind λv39=>some v39).bind λi=>some (⟨g.Cards,k,c,e,i⟩,0))
theorem M9{g o}:DL prog gl (AO g o) 44 [.agg (aI g),.agg (aJ o)] (λr=> .tup [.agg (aI r.1),iG r.2]):=
 cy func44 λK=>BG 15 (G2 gl) λv1=>aF 19 (rv K)<|ak λv4 e5=>Gd (wX 32 eJ) λy=>Gd (dg 35 eJ) λk=>Gd (wX 41 ac) λu=>BG 43 (AI gl) λv=>Gd (dg 45 ac) λd=>Gd (wX 51 nH) λw=>Gd (dg 54 nH) λe=>aw [ho 24 [.agg (aI g),aE cZ v1.2] [] (AK gl e5) (lO v4)]<|I5 111111111101 (λb=>sp [] [(4,.ref 0 0),(8,.rsl 1 0 v4.length),(9,.ref 2 0)] [ob 0 30 (bF [0,1,2,3,4] (aI xm)),ob 1 4 (v4.flatMap cO),ob 2 30 [aE bv g.Cards,aE aJ k,aE aj d,aE Jc e,.rsl 3 0 b.length],ob 3 152 (b.flatMap OT)] 4) (λa=>sp [] [(2,.ref 0 0),(4,.ref 1 0),(8,.rsl 2 0 v4.length),(9,.ref 3 0),(10,iG a.2)] [ob 0 30 (aI g),ob 1 30 (bF [0,1,2,3,4] (aI xm)),ob 2 4 (v4.flatMap cO),ob 3 30 [aE bv g.Cards,aE aJ k,aE aj d,aE Jc e,.rsl 4 0 a.1.length],ob 4 152 (a.1.flatMap OT)] 5) [hc (el v4),hc (rO.imm v4),hc (eJ.al k),hc (ac.al d),hc (nH.al e),hc (zV.imm [])] (λb=>cN 111111111110 (sf [] []) [hc (el v4),hc (rO.imm v4),hc (el b),hc (zV.imm b)]<|cC 111111111110 (λf=>sx [8] [(9,.ref 1 0)] [ob 0 30 (bF [0,1,2,3,4] (aI xm)),ob 1 30 [aE bv g.Cards,aE aJ k,aE aj d,aE Jc e,.rsl 2 0 f.length],ob 2 152 (f.flatMap OT)] 3) (λf=>aP c0 K [hc (zV.al f)]) λf p=>Gd (dg 82 rO) λh=>ak λv39 l=>aw [Tv 84 zV l [.rsl 5 0 h.length] rfl]<|aA c0 p [hc (el v39),ZV zV l [.rsl 5 0 h.length],hc (rO.al h)] (kd:=[(2,.app (b.flatMap OT) [.rsl 5 0 h.length] (OT h) (v39.flatMap OT))])) λa q s=>aF 60 (CD 67 zV.ixZ 68 (zV.p1Y Vt) λx=>Gd (wX 69 rO) λj=>cN 1111111111012210211 (so [] [(11,.rsl 5 0 j.length)] [ob 5 4 (j.flatMap cO)] 6) [hc (el v4),hc (el j),hc (rO.imm v4),hc (el a.1),hc (zV.imm a.1),hc (rO.imm j)]<|cC 1111111111012210211 (λc=>sx [11] [] [ob 0 30 (aI g),ob 1 30 (bF [0,1,2,3,4] (aI xm)),ob 2 4 (v4.flatMap cO),ob 3 30 [aE bv g.Cards,aE aJ k,aE aj d,aE Jc e,.rsl 4 0 c.length],ob 4 152 (c.flatMap OT)] 5) (λc=>cj q [hc (el v4),hc (rO.imm v4),hc (el c),hc (zV.imm c)]) λc t=>Gd (dg 74 rO) λi=>ak λm n=>aw [Tv 76 zV n [.rsl 7 0 i.length] rfl]<|aA c0 t [hc (el v4),hc (rO.imm v4),hc (el m),ZV zV n [.rsl 7 0 i.length],hc (rO.al i)] (kd:=[(2,.row),(4,.app (a.1.flatMap OT) [.rsl 7 0 i.length] (OT i) (m.flatMap OT))]))<|aA c1 s [hc (el v4),hc (rO.imm v4),hc (el a.1),hc (zV.imm a.1)]
def r8:Option Bn:=
 some ([1,2,3,1,2,3]:Bn)
theorem E9:M5 prog gl (r8) 49 [] 3 cZ:=
 gc func49 λK=>mr c0 K (rZ.imm _)
def z7(n:Int):JQ:=
 (aS ([6,4,3,2,5,7,8,3,6,9,11,11,13,12,10,4,3,2,6,13]:Bn) (Int.tmod n 20)).bind λa=>some a
theorem Js{n}:DL prog gl (z7 n) 85 [iG n] iG:=
 cy func85 λK=>CD 6 (rZ.ixrZ 0) 7 (rZ.p10Y tZ) λa=>rv K
def vB(l:Ba)(s1:Ba×Int)(a:Int):Option ((Int)⊕(Int)):=
 bif 0<a then((aS l s1.2).bind λb=>(aS s1.1 (wI (a-1))).bind λc=>(oU b c).bind λd=>bif(!d)then(some (.inr a))else(some (.inl (wI (a-1)))))else(some (.inr a))
def oZ(l:Ba)(s1:Ba×Int):Option ((Ba×Int)⊕Ba):=
 bif s1.2<ah l then((AH (vB l s1) (ah s1.1)).bind λa=>(tq s1.1 a).bind λb=>(aT 24 ([]:Ba) b).bind λv22=>(aS l s1.2).bind λc=>(aT 24 v22 [c]).bind λd=>(mc s1.1 a).bind λe=>(aT 24 d e).bind λf=>some (.inl (f,wI (s1.2+1))))else(some (.inr s1.1))
def iu(l:Ba):Option Ba:=
 (AH (oZ l) ([],0)).bind λa=>some a
theorem iO{l}:M5 prog gl (iu l) 168 [aE aj l] 41 aj:=
 gc func168 λK=>I5 11101 (λd=>sp [] [(3,.rsl 0 0 d.length)] [ob 0 41 (d.flatMap aj)] 1) (λs1=>so [] [(3,.rsl 0 0 s1.1.length),(4,iG s1.2)] [ob 0 41 (s1.1.flatMap aj)] 1) [hc (ac.imm [])] (λd=>mr c0 K (ac.imm _)) λs1 k5 g=>aF 10 (I5 111012210210 (λa=>sx [] [(3,aE aj s1.1),(5,iG a)] [] 0) (λb=>sx [] [(3,aE aj s1.1),(5,iG b)] [] 0) [hc (ac.al s1.1)] (λa=>rdv 33 ac.preZI λh=>Gd (wX 34 ac) λv22=>CD 38 ac.ixZ 39 (ac.ptZ aW) λi=>Gd (dg 41 ac) λj=>rdv 45 ac.sufZI λk=>Gd (eu 46 ac) λe=>cj k5 (DP ac e)) λb f c=>aF 16 (CD 19 ac.ixZ 20 (ac.ptZ aW) λm=>CD 24 ac.ixZ 25 (ac.ptZ aW) λn=>BG 26 (oV gl) λo=>aF 27 (aA c1 c [])<|rb f)<|aA c1 c [])<|aA c1 g (DP ac s1.1)
def xt(g:Bc):Option Ba:=
 (iu g.IDs).bind λv1=>some v1
theorem DK{g}:M5 prog gl (xt g) 87 [.agg (aI g)] 41 aj:=
 gc func87 λK=>ak λv1 e2=>aw [ho 5 [aE aj g.IDs] [] (iO gl e2) (kF v1)]<|mr c0 K (ac.imm _)
def qJ(l:Ba)(b:Ab)(s1:Int):Option ((Int)⊕(Unit⊕Bool)):=
 bif s1<ah l then((aS l s1).bind λa=>bif a=b then(some (.inr (.inr true)))else(some (.inl (wI (s1+1)))))else(some (.inr (.inl ())))
def jL(l:Ba)(a:Ab):Fo:=
 (AH (qJ l a) 0).bind λb=>ma b (λc=>some false) (λq=>some q)
theorem jM{l id_}:DL prog gl (jL l id_) 90 [aE aj l,.agg (aj id_)] bG:=
 cy func90 λK=>O7 1101 (λc=>sg [] []) (λs1=>so [1] [(3,.ref 0 0),(5,iG s1)] [ob 0 41 (aj id_)] 1) [] K (λc=>rv K) λs1 k5 d k6=>aF 9 (CD 14 ac.ixZ 15 (ac.ptZ aW) λb=>kV (λa=>aw [hV 17 (cV (dU b id_ rfl) a)]<|aP c3 k6 []) λa=>aw [hV 17 (cV (dU b id_ rfl) a)]<|rb k5)<|aA c2 d []
def t7(g:Bc)(ids:Ba)(s1:Ba×Int)(a:Bool×Int):Option ((Bool×Int)⊕(Bool)):=
 bif a.2<ah ids then((aS ids a.2).bind λc=>(fC g c).bind λb=>(bif a.1 then(some true)else(bif 0<=b then((aS g.In (Fv b 0)).bind λd=>(aS d s1.2).bind λe=>some e)else(some false))).bind λf=>some (.inl (f,wI (a.2+1))))else(some (.inr a.1))
def t8(g:Bc)(ids:Ba)(s1:Ba×Int):Option ((Ba×Int)⊕Ba):=
 bif s1.2<ah g.L then((AH (t7 g ids s1) (false,0)).bind λa=>bif a then((aS g.IDs s1.2).bind λb=>(aT 24 s1.1 [b]).bind λv25=>some (.inl (v25,wI (s1.2+1))))else(some (.inl (s1.1,wI (s1.2+1)))))else(some (.inr s1.1))
def r9(g:Bc)(ids:Ba):Option Ba:=
 (AH (t8 g ids) ([],0)).bind λb=>(iu b).bind λa=>some a
theorem AP{g ids}:M5 prog gl (r9 g ids) 171 [.agg (aI g),aE aj ids] 41 aj:=
 gc func171 λK=>I5 11101 (λe=>sg [] [(5,aE aj e)]) (λs1=>so [0] [(2,.ref 0 0),(5,.rsl 1 0 s1.1.length),(6,iG s1.2)] [ob 0 30 (aI g),ob 1 41 (s1.1.flatMap aj)] 2) [hc (ac.imm [])] (λe=>ak λf h=>aw [ho 55 [aE aj e] [] (iO gl h) (kF f)]<|mr c0 K (ac.imm _)) λs1 k5 l=>aF 14 (I5 1110122102101 (λd=>sf [] [(7,bG d)]) (λa=>sf [] [(7,bG a.1),(8,iG a.2)]) (DP ac s1.1) (λd=>aF 45 (CD 50 ac.ixZ 51 (ac.ptZ aW) λm=>Gd (dg 53 ac) λv25=>cj k5 (DP ac v25))<|cj k5 (DP ac s1.1)) λa i j=>aF 20 (CD 26 ac.ixZ 27 (ac.ptZ aW) λn=>BG 28 (dX gl) λk=>cN 1110122102101221021 (sf [] [(9,iG k)]) (DP ac s1.1)<|cC 1110122102101221021 (λb=>sf [9] [(7,bG b)]) (λb=>cj i (DP ac s1.1)) λb c=>aF 29 (aA c0 c (DP ac s1.1))<|aF 32 (CD 38 zV.ixZ 39 (zV.p1Y Vt) λo=>CD 41 rO.ixZ 42 (rO.p1Y tO) λp=>aA c0 c (DP ac s1.1))<|aA c0 c (DP ac s1.1))<|aA c1 j (DP ac s1.1))<|aA c1 l [hc (ac.al s1.1)]
def Sc(g:Bc)(ids:Ba)(s3:Ba×Int):Option ((Ba×Int)⊕Ba):=
 bif s3.2<ah ids then(((aS ids s3.2).bind λa=>(fC g a).bind λb=>bif 0<=b then((aS ids s3.2).bind λc=>(jL s3.1 c).bind λd=>some (!d))else(some false)).bind λe=>bif e then((aS ids s3.2).bind λf=>(aT 24 s3.1 [f]).bind λh=>some (.inl (h,wI (s3.2+1))))else(some (.inl (s3.1,wI (s3.2+1)))))else(some (.inr s3.1))
def M4(g:Bc)(ids:Ba):Option Ba:=
 (r9 g ids).bind λv1=>(AH (Sc g ids) (v1,0)).bind λb=>(iu b).bind λa=>some a
theorem ua{g ids}:M5 prog gl (M4 g ids) 167 [.agg (aI g),aE aj ids] 41 aj:=
 gc func167 λK=>ak λv1 e2=>aw [ho 9 [.agg (aI g),aE aj ids] [] (AP gl e2) (kF v1)]<|I5 11101 (λb=>sg [] [(5,aE aj b)]) (λs3=>so [0] [(2,.ref 0 0),(5,.rsl 1 0 s3.1.length),(6,iG s3.2)] [ob 0 30 (aI g),ob 1 41 (s3.1.flatMap aj)] 2) (DP ac v1) (λb=>ak λc d=>aw [ho 40 [aE aj b] [] (iO gl d) (kF c)]<|mr c0 K (ac.imm _)) λs3 i k6=>aF 13 (N4 11101221020 (sf [] []) (DP ac s3.1) 31 (CD 35 ac.ixZ 36 (ac.ptZ aW) λj=>Gd (dg 38 ac) λe=>cj i (DP ac e)) (cj i (DP ac s3.1)) λa=>CD 19 ac.ixZ 20 (ac.ptZ aW) λk=>BG 21 (dX gl) λl=>aF 22 (CD 27 ac.ixZ 28 (ac.ptZ aW) λf=>ak λm h=>aw [hq 29 [aE aj s3.1,.agg (aj f)] [hc (ac.al s3.1)] (jM gl h)]<|aA c0 a (DP ac s3.1))<|aA c0 a (DP ac s3.1))<|aA c1 k6 [hc (ac.al s3.1)]
def ub(g:Bc)(device:Int)(s3:Int×Int):Option ((Int×Int)⊕(Int)):=
 bif s3.2<ah g.L then((aS g.L s3.2).bind λa=>bif a.By=device then(some (.inl (s3.2,wI (s3.2+1))))else(some (.inl (s3.1,wI (s3.2+1)))))else(some (.inr s3.1))
def SC(g:Bc)(device:Int)(n:Int):Option Ba:=
 (xt g).bind λv1=>(AH (ub g device) ((-1),0)).bind λa=>(bif Int.tmod n 37=7 then(some (decide (0<a)))else(some false)).bind λj12=>bif j12 then((aS g.L a).bind λb=>(M4 g b.Past).bind λc=>some c)else((bif 0<Int.tmod n 3 then(some true)else(some (decide (a<0)))).bind λd=>bif d then(some v1)else((aS g.IDs a).bind λe=>(u9 (wI (Int.tdiv n 3)) (ah g.IDs)).bind λf=>(aS g.IDs f).bind λh=>(M4 g [e,h]).bind λi=>some i))
theorem Jv{g device n}:M5 prog gl (SC g device n) 86 [.agg (aI g),iG device,iG n] 41 aj:=
 gc func86 λK=>ak λv1 e2=>aw [ho 11 [.agg (aI g)] [] (DK gl e2) (kF v1)]<|I5 111101 (λl=>sp [2] [(3,.ref 0 0),(7,.rsl 1 0 v1.length),(8,iG l)] [ob 0 30 (aI g),ob 1 41 (v1.flatMap aj)] 2) (λs3=>so [0] [(3,.ref 0 0),(7,.rsl 1 0 v1.length),(8,iG s3.1),(9,iG s3.2)] [ob 0 30 (aI g),ob 1 41 (v1.flatMap aj)] 2) (DP ac v1) (λl=>N4 1111100 (sf [] []) (DP ac v1) 34 (CD 39 eJ.ixZ 41 (eJ.fdY Pb 4) λe=>ak λf h=>aw [ho 42 [.agg (aI g),aE aj e.Past] [] (ua gl h) (kF f)]<|mr c0 K (ac.imm _)) (N4 11111100 (sf [34] []) (DP ac v1) 49 (mr c0 K (ac.imm _)) (CD 55 ac.ixZ 56 (ac.ptZ aW) λa=>ak λo i=>CD 65 ac.ixZ 66 (ac.ptZ aW) λb=>ak λj k=>aw [hbb 64 (KO i),ho 68 [.agg (aI g),aE aj [a,b]] [hc (ac.al [a,b])] (ua gl k) (kF j)]<|mr c0 K (ac.imm _)) λc=>aF 45 (aA c0 c (DP ac v1))<|aA c0 c (DP ac v1)) λd=>aF 30 (aA c0 d (DP ac v1))<|aA c0 d (DP ac v1)) λs3 m k6=>aF 16 (CD 22 eJ.ixZ 24 (eJ.fdY tZ 0) λp=>aF 26 (cj m (DP ac v1))<|cj m (DP ac v1))<|aA c1 k6 (DP ac v1)
def vC(g:Bc)(ids:Ba)(kind:Int)(s1:Ab×Bo×Int):Option ((Ab×Bo×Int)⊕((Int×Int×Nat×Bo)⊕(Ab×Bo))):=
 bif 0<=s1.2.2 then(((aS g.L s1.2.2).bind λa=>bif a.Kind=kind then((aS g.IDs s1.2.2).bind λb=>(jL ids b).bind λc=>some c)else(some false)).bind λj13=>bif j13 then((aS g.IDs s1.2.2).bind λd=>(aS g.L s1.2.2).bind λe=>some (.inr (.inr (d,e))))else(some (.inl (s1.1,s1.2.1,wI (s1.2.2-1)))))else(some (.inr (.inl (s1.1.By,s1.1.Seq,s1.1.Sum,s1.2.1))))
def nS(g:Bc)(ids:Ba)(kind:Int):Option (Ab×Bo):=
 (AH (vC g ids kind) (⟨0,0,0⟩,⟨0,0,0,0,[],0,0,0,0,[],⟨0,0,0⟩,0,[],[],⟨0,0,0⟩,[],0,0,[],0,[],⟨0,0⟩⟩,wI ((ah g.L)-1))).bind λa=>ma a (λb=>some (⟨0,0,0⟩,⟨0,0,0,0,[],0,0,0,0,[],⟨0,0,0⟩,0,[],[],⟨0,0,0⟩,[],0,0,[],0,[],⟨0,0⟩⟩)) (λq=>some q)
theorem vD{g ids kind}:DL prog gl (nS g ids kind) 88 [.agg (aI g),aE aj ids,iG kind] (λr=> .tup [.agg (aj r.1),.agg (aJ r.2)]):=
 cy func88 λK=>O7 1101 (λa=>sp [] [(6,.ref 0 0),(7,.ref 1 0)] [ob 0 41 (aj (⟨a.1,a.2.1,a.2.2.1⟩:Ab)),ob 1 70 (aJ a.2.2.2)] 2) (λs1=>so [0] [(3,.ref 0 0),(6,.ref 1 0),(7,.ref 2 0),(8,iG s1.2.2)] [ob 0 30 (aI g),ob 1 41 (aj s1.1),ob 2 70 (aJ s1.2.1)] 3) [] K (λa=>rv K) λs1 k5 c k6=>aF 14 (N4 1101221020 (sf [] []) [] 33 (CD 37 ac.ixZ 38 (ac.ptZ aW) λd=>CD 42 eJ.ixZ 43 (eJ.ptZ GN) λe=>aP c3 k6 []) (rb k5) λb=>CD 20 eJ.ixZ 22 (eJ.fdY tZ 2) λf=>aF 24 (CD 30 ac.ixZ 31 (ac.ptZ aW) λh=>BG 32 (jM gl) λi=>rx b)<|rx b)<|aA c2 c []
end
section
set_option maxHeartbeats 2000000
attribute [local irreducible] Tr dz Gp
def uc(n:Int)(s1:List Hd×Int):Option ((List Hd×Int)⊕(List Hd)):=
 bif s1.2<n then((aT 32 s1.1 [(⟨1,1,wU s1.2,1⟩:Hd)]).bind λa=>some (.inl (a,wI (s1.2+1))))else(some (.inr s1.1))
def o4(n:Int):Option (List Hd):=
 (AH (uc n) ([],0)).bind λa=>some a
theorem Jw{n}:M5 prog gl (o4 n) 169 [iG n] 186 cz:=
 gc func169 λK=>I5 11101 (λa=>sp [] [(3,.rsl 0 0 a.length)] [ob 0 186 (a.flatMap cz)] 1) (λs1=>so [] [(3,.rsl 0 0 s1.1.length),(4,iG s1.2)] [ob 0 186 (s1.1.flatMap cz)] 1) [hc (EP.imm [])] (λa=>mr c0 K (EP.imm _)) λs1 k5 c=>aF 7 (Gd (dg 15 EP) λb=>aw [AB 12 (C8 s1.2)]<|cj k5 (DP EP b))<|aA c1 c (DP EP s1.1)
def nT(g:Bc)(device:Int):JQ:=
 (vz g device).bind λv1=>bif(!v1.2)then(some 0)else(some v1.1.Member)
theorem vE{g device}:DL prog gl (nT g device) 170 [.agg (aI g),iG device] iG:=
 cy func170 λK=>BG 10 (AN gl) λv1=>aF 14 (rv K)<|rv K
def vF(n:Int)(s8:Bn×Int):Option ((Bn×Int)⊕Bn):=
 bif s8.2<=4 then((Gg n s8.2).bind λa=>bif Int.tmod a 2=0 then((aT 8 s8.1 ([s8.2]:Bn)).bind λb=>some (.inl (b,wI (s8.2+1))))else(some (.inl (s8.1,wI (s8.2+1)))))else(some (.inr s8.1))
def sc(g:Bc)(ids:Ba)(o:Bo)(n:Int):Option Bo:=
 (nS g ids 9).bind λv1=>(bif o.Kind≠9 then(some (decide (v1.1=(⟨0,0,0⟩:Ab))))else(some false):Fo).bind λr=>(bif r then(some 9)else(some o.Kind)).bind λa=>bif a=9 then((AH (vF n) ([],1)).bind λq=>(bif ah q=0 then(some ([1,2]:Bn))else(some q)).bind λb=>(u9 (wI (Int.tdiv n 16)) (iI 2 (ah b))).bind λi=>(o4 (ah b)).bind λj=>some ({o with Kind:=a,Path:=[],Guards:=b,Need:=wI (1+i),Wait:=Int.tmod (wI (Int.tdiv n 32)) 3,Boxes:=j,Pub:=5}))else((nT g v1.1.By).bind λc=>(bif a=10 then((o4 (ah v1.2.Guards)).bind λv66=>some (v1.1.By,v66))else(some (o.By,o.Boxes))).bind λe=>(bif a=11 then(some true)else(some (decide (a=13)))).bind λk=>(bif k then((u9 n (ah v1.2.Guards)).bind λl=>(aS v1.2.Guards l).bind λm=>some (m,wI (c+3)))else(some (e.1,o.Device))).bind λd=>(bif a=11 then((o4 1).bind λp=>some p)else(some e.2)).bind λf=>(bif a=13 then(some c)else(some o.Old)).bind λh=>bif a=12 then(some ({o with By:=c,Kind:=a,Device:=d.2,Old:=h,Path:=[],Of:=v1.1,Guards:=[],Boxes:=f}))else(some ({o with By:=d.1,Kind:=a,Device:=d.2,Old:=h,Path:=[],Of:=v1.1,Guards:=[],Boxes:=f})))
theorem Fb{g ids o n}:DL prog gl (sc g ids o n) 89 [.agg (aI g),aE aj ids,.agg (bF [9,19] (aJ ({o with Path:=[],Guards:=[]}))),iG n] (λr=> .agg (bF [9] (aJ ({r with Path:=[]})))):=
 cy func89 λK=>BG 16 (vD gl) λv1=>cN 11100 (sp [3] [(4,.ref 0 0),(6,.ref 1 0),(8,.ref 2 0),(9,.ref 3 0),(10,.ref 4 0)] [ob 0 30 (aI g),ob 1 70 (bF [9,19] (aJ ({o with Path:=[],Guards:=[]}))),ob 2 70 (bF [4,9,14,15,19,22,24] (aJ ip)),ob 3 41 (aj v1.1),ob 4 70 (aJ v1.2)] 5) []<|cC 11100 (λt=>sf [] [(26,bG t)]) (λt=>cC 11101 (λb=>so [26] [] [ob 1 70 (bF [9,19] (aJ ({o with Kind:=b,Path:=[],Guards:=[]})))] 5) (λb=>aF 30 (I5 111101301 (λu=>sk [3] [(6,.ref 0 0),(8,.ref 1 0)] [ob 0 70 (bF [9] (aJ ({o with Kind:=b,Path:=[],Guards:=u}))),ob 1 70 (bF [4,9,14,15,19,22,24] (aJ ip))] 2) (λs8=>sk [3,8] [(6,.ref 0 0),(11,iG s8.2)] [ob 0 70 [iG o.By,iG o.Seq,iG b,iG o.At,aE aj o.Past,iG o.Device,iG o.Old,iG o.Member,iG o.Role,Iy,iG o.Epoch.By,iG o.Epoch.Seq,uG o.Epoch.Sum,iG o.N,aE cY o.Body,aE cW o.Refs,iG o.Of.By,iG o.Of.Seq,uG o.Of.Sum,.rsl 1 0 s8.1.length,iG o.Need,iG o.Wait,aE cz o.Boxes,uG o.Pub,aE bp o.Hist,uG o.Sig.R,uG o.Sig.S],ob 1 3 (s8.1.flatMap cZ),ob 2 70 (bF [4,9,14,15,19,22,24] (aJ ip))] 3) [hc (rZ.imm [])] (λu=>cN 1111013101 (sf [] [(49,bG (decide (ah u=0)))]) []<|cC 1111013101 (λe=>so [49] [] [ob 0 70 (bF [9] (aJ ({o with Kind:=b,Path:=[],Guards:=e})))] 2) (λe=>ak λA v=>JI 69 EP (Jw gl) λB=>aw [hbb 58 (KO v)]<|rv K) λe i=>eH [49] (aA c0 i [hc (rZ.al ([1,2]:Bn))])<|rx i) λs8 k12 k11=>aF 32 (ak λC w=>aw [hbb 37 (Tt w)]<|aF 39 (Gd (dg 44 rZ) λx=>cj k12 (DP rZ x))<|cj k12 (DP rZ s8.1))<|aA c1 k11 [hc (rZ.al s8.1)])<|BG 77 (vE gl) λy=>cN 111111101 (sx [4] [(6,.ref 0 0),(8,.ref 1 0),(9,.ref 2 0),(10,.ref 3 0),(12,iG y),(80,bG (decide (b=10)))] [ob 0 70 (bF [9,19] (aJ ({o with Kind:=b,Path:=[],Of:=v1.1,Guards:=[]}))),ob 1 70 (bF [4,9,14,15,19,22,24] (aJ ip)),ob 2 41 (aj v1.1),ob 3 70 (aJ v1.2)] 4) []<|cC 111111101 (λc=>sx [9,80] [(10,.ref 2 0)] [ob 0 70 (bF [9,19] (aJ ({o with By:=c.1,Kind:=b,Path:=[],Of:=v1.1,Guards:=[],Boxes:=c.2}))),ob 1 70 (bF [4,9,14,15,19,22,24] (aJ ip)),ob 2 70 (aJ v1.2)] 3) (λc=>cN 1111111100 (sf [] []) []<|cC 1111111100 (λf=>sf [] [(96,bG f)]) (λf=>cC 1111111101 (λa=>sx [3,10,96] [] [ob 0 70 (bF [9,19] (aJ ({o with By:=a.1,Kind:=b,Device:=a.2,Path:=[],Of:=v1.1,Guards:=[],Boxes:=c.2}))),ob 1 70 (bF [4,9,14,15,19,22,24] (aJ ip))] 2) (λa=>cN 11111111101 (sf [] [(112,bG (decide (b=11)))]) []<|cC 11111111101 (λd=>so [112] [] [ob 0 70 (bF [9,19] (aJ ({o with By:=a.1,Kind:=b,Device:=a.2,Path:=[],Of:=v1.1,Guards:=[],Boxes:=d})))] 2) (λd=>cN 111111111101 (sf [] [(117,bG (decide (b=13)))]) []<|cC 111111111101 (λh=>so [117] [] [ob 0 70 (bF [9,19] (aJ ({o with By:=a.1,Kind:=b,Device:=a.2,Old:=h,Path:=[],Of:=v1.1,Guards:=[],Boxes:=d})))] 2) (λh=>aF 122 (rv K)<|rv K) λh j=>eH [117] (rx j)<|rx j) λd k=>eH [112] (JI 113 EP (Jw gl) λD=>rx k)<|rx k) λa l=>eH [96] (ak λE z=>CD 104 rZ.ixZ 105 (rZ.p1Y tZ) λF=>aw [hbb 103 (KO z)]<|rx l)<|rx l) λf m=>aF 91 (rx m)<|rx m) λc p=>eH [80] (JI 87 EP (Jw gl) λv66=>aA c0 p [])<|aA c0 p []) λb q=>eH [26] (rx q)<|rx q) λt s=>aF 21 (aw [hV 25 (dU v1.1 (⟨0,0,0⟩:Ab) rfl)]<|rx s)<|rx s
def qK(g:Bc)(ids:Ba)(v1:Ba)(s3:Ba×Int):Option ((Ba×Int)⊕Ba):=
 bif s3.2<ah ids then(((aS ids s3.2).bind λa=>(fC g a).bind λb=>bif 0<=b then((aS ids s3.2).bind λc=>(jL v1 c).bind λd=>bif(!d)then((aS ids s3.2).bind λe=>(jL s3.1 e).bind λf=>some (!f))else(some false))else(some false)).bind λh=>bif h then((aS ids s3.2).bind λi=>(aT 24 s3.1 [i]).bind λj=>some (.inl (j,wI (s3.2+1))))else(some (.inl (s3.1,wI (s3.2+1)))))else(some (.inr s3.1))
def qL(g:Bc)(ids:Ba):Option Ba:=
 (r9 g ids).bind λv1=>(AH (qK g ids v1) ([],0)).bind λb=>(iu b).bind λa=>some a
theorem G3{g ids}:M5 prog gl (qL g ids) 91 [.agg (aI g),aE aj ids] 41 aj:=
 gc func91 λK=>JI 10 ac (AP gl) λv1=>I5 111101 (λb=>sg [] [(6,aE aj b)]) (λs3=>so [0] [(2,.ref 0 0),(5,aE aj v1),(6,.rsl 1 0 s3.1.length),(7,iG s3.2)] [ob 0 30 (aI g),ob 1 41 (s3.1.flatMap aj)] 2) [hc (ac.imm [])] (λb=>ak λc d=>aw [ho 50 [aE aj b] [] (iO gl d) (kF c)]<|mr c0 K (ac.imm _)) λs3 i k6=>aF 14 (N4 111101221020 (sf [] []) (DP ac s3.1) 41 (CD 45 ac.ixZ 46 (ac.ptZ aW) λj=>Gd (dg 48 ac) λe=>cj i (DP ac e)) (cj i (DP ac s3.1)) λa=>CD 20 ac.ixZ 21 (ac.ptZ aW) λk=>BG 22 (dX gl) λl=>aF 23 (CD 28 ac.ixZ 29 (ac.ptZ aW) λm=>BG 30 (jM gl) λn=>aF 32 (CD 37 ac.ixZ 38 (ac.ptZ aW) λf=>ak λo h=>aw [hq 39 [aE aj s3.1,.agg (aj f)] [hc (ac.al s3.1)] (jM gl h)]<|aA c0 a (DP ac s3.1))<|aA c0 a (DP ac s3.1))<|aA c0 a (DP ac s3.1))<|aA c1 k6 [hc (ac.al s3.1)]
def xu(ids:Ba)(device:Int)(s1:Int×Int):Option ((Int×Int)⊕(Int)):=
 bif s1.2<ah ids then((aS ids s1.2).bind λa=>bif a.By=device then((aS ids s1.2).bind λb=>some (.inl (Fv s1.1 b.Seq,wI (s1.2+1))))else(some (.inl (s1.1,wI (s1.2+1)))))else(some (.inr s1.1))
def Fc(g:Bc)(ids:Ba)(device:Int):JQ:=
 (AH (xu ids device) (0,0)).bind λa=>some (wI (a+1))
theorem Na{g ids device}:DL prog gl (Fc g ids device) 92 [.agg (aI g),aE aj ids,iG device] iG:=
 cy func92 λK=>I5 11101 (λa=>sg [] [(7,iG a)]) (λs1=>sf [0] [(7,iG s1.1),(8,iG s1.2)]) [] (λa=>rv K) λs1 k5 b=>aF 12 (CD 17 ac.ixZ 19 (ac.fdY tZ 0) λc=>aF 21 (CD 25 ac.ixZ 27 (ac.fdY tZ 1) λd=>rb k5)<|rb k5)<|aA c1 b []
def ue(g:Bc)(ids:Ba)(s1:Int×Int):Option ((Int×Int)⊕(Int)):=
 bif s1.2<ah ids then((aS ids s1.2).bind λb=>(fC g b).bind λa=>bif 0<=a then((aS g.L a).bind λc=>some (.inl (Fv s1.1 c.At,wI (s1.2+1))))else(some (.inl (s1.1,wI (s1.2+1)))))else(some (.inr s1.1))
def z8(g:Bc)(ids:Ba):JQ:=
 (AH (ue g ids) (0,0)).bind λa=>some a
theorem Jx{g ids}:DL prog gl (z8 g ids) 93 [.agg (aI g),aE aj ids] iG:=
 cy func93 λK=>I5 11101 (λa=>sg [] [(5,iG a)]) (λs1=>so [0] [(2,.ref 0 0),(5,iG s1.1),(6,iG s1.2)] [ob 0 30 (aI g)] 1) [] (λa=>rv K) λs1 k5 b=>aF 11 (CD 17 ac.ixZ 18 (ac.ptZ aW) λc=>BG 19 (dX gl) λd=>aF 21 (CD 26 eJ.ixZ 28 (eJ.fdY tZ 3) λe=>rb k5)<|rb k5)<|aA c1 b []
end
end Go.Proofs.YtjbfcillbjiajaaGreatDoor
