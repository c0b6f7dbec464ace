/- Texts. -/
import Derived.Laws.StructEq
import Derived.Test.YtjbfcillbjiajaaGreatDoorGX
namespace Go.Proofs.YtjbfcillbjiajaaGreatDoor
set_option linter.unusedSectionVars false
set_option linter.unusedVariables false
set_option linter.unusedSimpArgs false
open Go.RowKit
variable {α β:Type}{o:Oper}{J S st st'':St}{f fid:FuncId}{gs gs0 l l' l0 ts:Bk}{e t t0:Bj}{i j k m n s:Nat}{g gx gy v:G}{R u:Br}{C:Option Prop}{ps:JR}{ρ:DH}{gl:CC}{b r:Bool}{xs ys:Array Value}{p q:DC}{a z:Int}{P:Bu}{vs:List Bj}
section
variable {P:Bu}
theorem H4{f:DC}{xs:Array DC}{ats:Array Bj}{fst cap:Bk}(ho:o.op= .call {callee:= .value f,args:=xs,argTypes:=ats})(hd:LV o st.n)(hf:aB st f= .clo (.func fid) fst cap)(hc:aK P fid=true)
  (hl:gs.length=(fst++xs.toList.map (aB st)++cap).length) (hi:∀(i:Nat) (g g':G),(fst++xs.toList.map (aB st)++cap)[i]?=some g->gs[i]?=some g'->ve P st g g') (hF:iV P st.gl fid gs t m l) (d:∀g∈l,∃v,g= .lit v):
  GS P o st ({st with σ:=(st.c,some ⟨t,l,none⟩)::st.σ,c:=st.c+1}.put o.dst (.rsl st.c 0 m)):=by
 intro cx a w K R ⟨β,h⟩ q
 obtain⟨vs,hrun,hsz,hv⟩:=lQ h ho hf hc
 refine h.loose.oper (by grind) ?_
 unfold Oper.wp
 rw[hrun]
 have hav:∀b,Av cx.S0 (λ_=>none) [] b->cx.S0 b:=by grind
 refine(hF w (λ_=>none) cx.S0 vs (by grind) (by grind) (λg l hl=>(by grind [IV.sub])) ⟨λi o ho=>by(cases ho),(by grind),(by grind)⟩ aa (λi g u hg hu=>?_)).mono ?_
 .have hlt:=(cr hg).1
  have hx:(fst++xs.toList.map (aB st)++cap)[i]?=some ((fst++xs.toList.map (aB st)++cap)[i]'aa):=by rw[EA]
  exact .imm _ _ ((hi i _ g hx hg cx a w β h u (by grind)).sub (by grind))
 .rintro e w' ⟨v,r,rfl,hp⟩
  have hkeep:A3 (λ_=>False) w w':=hp.keep.mono (by rintro k _ ⟨i,ob,C,hob,_⟩;cases hob)
  have hob:=hp.rs.ob 0 _ rfl
  have hval:=hp.val
  rcases hob with⟨h1,h2,_⟩|⟨b,x,s,h1,_⟩|⟨b,C,cur,_,h1,h2,h3,h4,h5,h6⟩
  .obtain⟨hv0,hm0⟩:v= .slice none 0 0/\m=0:=by grind [RV.rsl_form]
   subst hv0;subst hm0
   have hl0:l=[]:=h2
   subst hl0
   exact q _ _ ⟨_,((h.world hkeep).virt t (Dk _)).put o.dst hd (.rsl0 _ _ aC)⟩
  .cases h1
  .have hb:w.heap.size<=b:=by
    rcases hp.old b ⟨0,_,C,rfl,h1⟩ with⟨i,ob,D,hob,_⟩|hb
    all_goals simp_all
   have p:=h.alloc (k:=st.c) (ob:=⟨t,l,none⟩) hkeep hb h2 h3 h4 h5 rfl (λj g hj=>by obtain⟨u,hu,h7,h8⟩:=h6 j g hj;obtain⟨v',rfl⟩:=d g (bO hj);exact⟨u,hu,h7,by rw[h8.lit_eq];exact .imm _ _ (.lit _)⟩) (Dk _)
   refine q _ _ ⟨_,p.put o.dst hd ?_⟩
   grind [RV.rsl_form,RV]
inductive Hn where
 |v (d:Nat) (g:G)
 |b (d:Nat) (g:G)
 |f (d:Nat) (g:G)
 |e (d:Nat) (g:G) (i:Nat) (ob:Ob)
 |a (d:Nat) (L:Bk) (M:Nat)
 |r (d:Nat) (b:Bool)
 |w (d:Nat) (L:Bk)
 |k (d:Nat) (L:Bk) (M:Nat)
 |q (d:Nat) (ts:Bk) (g:G)
 |c (d:Nat) (g:G)
 |m (d:Nat) (g:G)
 |z (d:Nat) (R:Br) (g:G) (U:aQ) (c':Nat)
 |o (d:Nat) (ts:Bk) (t:Bj) (m:Nat) (l:Bk)
 |i (d j:Nat) (ob:Ob) (n:Nat)
 |n (d:Nat) (g:G) (ck:aQ->Bool)
def Hn.key:Hn->Nat
 | .v d _| .b d _| .f d _| .e d _ _ _| .a d _ _| .r d _| .k d _ _| .q d _ _| .o d _ _ _ _| .c d _| .m d _| .z d _ _ _ _| .i d _ _ _| .n d _ _=>d
 | .w d _=>1000000+d
def CL(o:Oper):Nat:=match o.dst with
 |some d=>d
 |none=>match o.op with
  | .store _ (.tmp d) _=>1000000+d
  | .entryStore _ _ (.tmp d) _=>2000000+d
  |_=>999999998
def Ol(o:Oper)(hs:List Hn):Option Hn:=hs.find? λh=>Nat.beq h.key (CL o)
def II:Option Prop->Prop->Prop
 |none,q=>q
 |some p,q=>p/\q
def EM(P:Bu)(o:Oper)(st:St)(g:G):Prop:=match o.op with
 | .binOp op t x y _=>∀p q:DC,b8 P op t p q (aB st x) (aB st y)=some g
 | .indexAddr t x i=>match aB st i with
  | .lit (.int _ k)=>fh P t (aB st x) k=some g
  |_=>False
 | .load t x=>match aB st x with
  | .ptr l o=>dN P t l o=some g
  | .ref i o=>match ag st.σ i with
   |some ob=>dN P t ob.l o=some g
   |none=>False
  |_=>False
 | .slice t x lo hi none=>match aB st x with
  | .sl l n=>(JX (lo.map (aB st))).bind (λa=>(JX (hi.map (aB st))).bind λb=>ig P t (.sl l n) a b)=some g
  | .rsl i o n=>(JX (lo.map (aB st))).bind (λa=>(JX (hi.map (aB st))).bind λb=>ig P t (.rsl i o n) a b)=some g
  |_=>False
 | .call {callee:= .builtin .len,args:=⟨[x]⟩,argTypes:=⟨[t]⟩}=>match aB st x with
  | .lit (.string b)=>nu P t=true/\G.lit (.int .i64 b.size)=g
  |_=>aX P (aB st) [] o=some g
 |_=>aX P (aB st) [] o=some g
theorem Ae8(hd:LV o st.n)(h:EM P o st g):GS P o st (st.put o.dst g):=by
 obtain⟨a,op,ty,pos,c,gd⟩:=o;unfold EM at h;dsimp only at h;split at h
 .exact fM hd (by grind [rA])
 .split at h
  .rename_i hi;exact fM hd (by grind [aX,UM])
  .exact h.elim
 .refine aab rfl hd ?_;grind [jU]
 .split at h
  .rename_i hx;exact fM hd (by grind [aX])
  .rename_i hx;exact fM hd (by grind [aX])
  .exact h.elim
 .split at h
  .rename_i b hx;exact fM hd (by grind [Qf,Qd])
  .exact fM hd (SH aC h)
 .rename_i hl _ _;exact fM hd (SH hl h)
def xrd(o:Oper)(st:St):Br:=match o.op with
 | .load _ x=>fR (aB st x)
 |_=>[]
theorem Ae9(h:EM P o st g)(b:∀i∈xrd o st,ag st''.σ i=ag st.σ i)(hx:∀x∈o.op.operands,aB st'' x=aB st x):EM P o st'' g:=by
 obtain⟨a,op,ty,pos,c,gd⟩:=o;have ev:aX P (aB st'') [] ⟨a,op,ty,pos,c,gd⟩=aX P (aB st) [] ⟨a,op,ty,pos,c,gd⟩:=jW hx;unfold EM at h⊢;unfold xrd at b;dsimp only at h b hx⊢;have om:∀lo:Option DC,(∀y,lo=some y->y∈op.operands)->lo.map (aB st'')=lo.map (aB st):=λlo hl=>by cases lo<;>grind
 split at h
 .grind [Op.operands]
 .grind [Op.operands]
 .grind [Op.operands,fR]
 .rw[hx _ fK,om _ (by simp+contextual [Op.operands]),om _ (by simp+contextual [Op.operands])];exact h
 all_goals grind [Op.operands,Call.operands]
def KU(P:Bu)(σ:aQ)(t:Bj)(ok:Bool)(gm gk g:G):Prop:=match gm with
 | .mref i=>bL P [(i,ag σ i)] t ok (.mref i) gk=some g
 |gm=>∀σ,bL P σ t ok gm gk=some g
theorem EN{σ σ':aQ}{ok:Bool}{gm gk:G}(h:KU P σ t ok gm gk g)(hs:∀i∈fR gm,ag σ' i=ag σ i):bL P σ' t ok gm gk=some g:=by
 cases gm with
 |mref i=>have h:bL P [(i,ag σ i)] t ok (.mref i) gk=some g:=h;grind [fR,Ac5]
 |_=>exact h σ'
def ge(st:St)(o:Oper):Option (FuncId×Bk):=match o.op with
 | .call {callee:= .value x,args:=xs,argTypes:=_}=>match aB st x with
  | .clo (.func fid) fst cap=>some (fid,fst++xs.toList.map (aB st)++cap)
  |_=>none
 |_=>none
def oJ(P:Bu)(gl:CC)(fid:FuncId)(gs:Bk)(σR:aQ)(c:Nat)(g:G)(U:aQ)(c':Nat):Prop:=∀(o:Oper) (st:St) (y:DC) (xs:Array DC) (ats:Array Bj) (fst cap:Bk),o.op= .call {callee:= .value y,args:=xs,argTypes:=ats}->(∀d,o.dst=some d->d<st.n)->aB st y= .clo (.func fid) fst cap->fst++xs.toList.map (aB st)++cap=gs->st.gl=gl->(∀q∈σR,ag st.σ q.1=q.2)->st.c=c->GS P o st ({st with σ:=U++st.σ,c:=c'}.put o.dst g)
def nF:Nat->G->Bool
 |0,_=>false
 |_+1,.lit _=>true
 |_+1,.sl _ _=>true
 |_+1,.ptr _ _=>true
 |_+1,.mp _ _ _ _=>true
 |n+1,.agg l=>l.all (nF n)
 |n+1,.tup l=>l.all (nF n)
 |n+1,.clo _ a b=>a.all (nF n)&&b.all (nF n)
 |_,_=>false
theorem aG:∀(n:Nat) (g:G),nF n g=true->bB g
 |0,_,h=>by cases h
 |n+1,g,h=>by
  cases g with
  |lit v=>exact mN v
  |sl l m=>exact FC l m
  |ptr l o=>exact Ah l o
  |mp ks vs ns c=>grind [J5]
  |agg l=>exact L6 λx hx=>aG n x (GV.1 h x hx)
  |tup l=>exact L7 λx hx=>aG n x (GV.1 h x hx)
  |clo fn a b=>simp only[nF,bA] at h;exact L8 (λx hx=>aG n x (by grind)) (λx hx=>aG n x (by grind))
  |_=>cases h
def w8:Nat->G->Bool
 |0,_=>false
 |_+1,.lit _=>true
 |n+1,.agg l=>l.all (w8 n)
 |n+1,.tup l=>l.all (w8 n)
 |_,_=>false
theorem rQ:∀(n:Nat) (g:G),w8 n g=true->YD g
 |0,_,h=>by cases h
 |n+1,g,h=>by
  cases g with
  |lit v=>exact lR v
  |agg l=>exact HM λx hx=>rQ n x (GV.1 h x hx)
  |tup l=>exact HN λx hx=>rQ n x (GV.1 h x hx)
  |_=>cases h
theorem KV:ve P st (.lit (.slice none 0 0)) (.sl [] 0):=λcx a w β r v hv=>by rw[hv.lit_eq];exact .sl [] 0 none 0 (λ_=>undef) (Dk _) (Nat.zero_le _) aC aC aC
theorem QY{clock:Nat}{es:List (Value×G×Nat)}(ho:ag st.σ i=some ⟨t,l,some (.map es clock)⟩)(hi:∀e∈es,bB e.2.1):ve P st (.mref i) (.mp (es.map (·.1)) (es.map (·.2.1)) (es.map (·.2.2)) clock):=λcx a w β r v hv=>by
 obtain⟨b,C,hb,rfl⟩:=hv.mref_form;rcases r.ob i _ ho with⟨_,_,h3⟩|⟨b',x,o,h1,h2,h3,h4,h5⟩|⟨b',C',cur,h1,_⟩
 .grind
 .cases h1;have c:=hb;rw[h3] at hb;cases hb;obtain⟨ents,rfl,e2,e3⟩:=h5;have hav:=r.sep i _ _ _ ho c;refine .mp _ _ _ _ _ ents hav (r.lt ho c) h4 (by simp[e2]) ?_ ?_ λj g e hg he=>?_
  .apply List.ext_getElem?;grind
  .apply List.ext_getElem?;grind
  .rw[Mu,DQ] at hg;obtain⟨⟨k,d,n⟩,hj,rfl⟩:=hg;obtain⟨e',h6,h7,h8,h9⟩:=e3 j k d n hj;rw[he] at h6;cases h6;exact(hi _ (bO hj) _ _ _ _ h9).sub (by grind)
 .cases h1
def Da(f:G->G->Option (JR×G)):Bk->Bk->Option (JR×Bk)
 |[],[]=>some ([],[])
 |g::r,t::r'=>match f g t with
  |some (C,g')=>match Da f r r' with
   |some (D,l)=>some (C++D,g'::l)
   |none=>none
  |none=>none
 |_,_=>none
theorem io{Q:G->G->Prop}{f:G->G->Option (JR×G)}(hf:∀g t C d,f g t=some (C,d)->(∀p∈C,p)->Q g d):∀(l t:Bk) (C:JR) (l':Bk),Da f l t=some (C,l')->(∀p∈C,p)->l'.length=l.length/\∀(i:Nat) (g d:G),l[i]?=some g->l'[i]?=some d->Q g d
 |[],[],C,l',h,c=>by cases h;grind
 |g::r,t::r',C,l',h,c=>by
  unfold Da at h;split at h
  .rename_i e g1 h1;split at h
   .rename_i D l1 h2;cases h;obtain⟨k1,k2⟩:=io hf r r' D l1 h2 λp hp=>c p (by grind);refine⟨by simp[k1],λi a b ha hb=>?_⟩;cases i with
    |zero=>simp at ha hb;subst ha;subst hb;exact hf _ _ _ _ h1 λp hp=>c p (by grind)
    |succ i=>grind
   .cases h
  .cases h
 |[],_::_,C,l',h,c=>by cases h
 |_::_,[],C,l',h,c=>by cases h
def KW(P:Bu)(σ:aQ):Nat->G->G->Option (JR×G)
 |0,_,_=>none
 |n+1,g,t=>match t with
  | .sl _ m'=>match g with
   | .sl l m=>some ([],.sl l m)
   | .lit (.slice none 0 0)=>some ([],.sl [] 0)
   | .rsl j o m=>match ag σ j with
    |some ob=>match bw P ob.t with
     |some s=>bif Nat.beq o 0 then some ([ob.l.length=m'*s/\(∀x∈ob.l,bB x)/\m=m'],.sl ob.l m')else some ([o+m*s<=ob.l.length/\∀x∈ob.l,bB x],.sl ((ob.l.drop o).take (m*s)) m)
     |none=>none
    |none=>none
   |_=>none
  | .ptr l' _=>match g with
   | .ptr l o=>some ([],.ptr l o)
   | .ref i o=>match ag σ i with
    |some ob=>match Da (KW P σ n) ob.l l' with
     |some (C,r)=>some (C,.ptr r o)
     |none=>none
    |none=>none
   |_=>none
  | .mp _ _ _ _=>match g with
   | .mp ks vs ns c=>some ([],.mp ks vs ns c)
   | .mref j=>match ag σ j with
    |some ⟨_,_,some (.map es clock)⟩=>some ([∀e∈es,bB e.2.1],.mp (es.map (·.1)) (es.map (·.2.1)) (es.map (·.2.2)) clock)
    |_=>none
   |_=>none
  | .agg l'=>match g with
   | .agg l=>match Da (KW P σ n) l l' with
    |some (C,r)=>some (C,.agg r)
    |none=>none
   |_=>none
  | .tup l'=>match g with
   | .tup l=>match Da (KW P σ n) l l' with
    |some (C,r)=>some (C,.tup r)
    |none=>none
   |_=>none
  | .clo _ l' m'=>match g with
   | .clo f l m=>match Da (KW P σ n) l l',Da (KW P σ n) m m' with
    |some (C,r),some (a,b)=>some (C++a,.clo f r b)
    |_,_=>none
   |_=>none
  |_=>bif nF 20 g then some ([],g)else none
theorem rR{st:St}:∀(n:Nat) (g t:G) (C:JR) (a:G),KW P st.σ n g t=some (C,a)->(∀p∈C,p)->ve P st g a
 |0,_,_,_,_,h,_=>by cases h
 |n+1,g,t,C,a,h,b=>by
  unfold KW at h;split at h
  .split at h
   .grind [jB,FC]
   .grind [KV]
   .rename_i j o m;split at h
    .rename_i ob ho;split at h
     .rename_i s hs;cases hz:Nat.beq o 0 with
      |true=>rw[hz] at h;obtain rfl:=bc hz;cases h;obtain⟨h1,h2,rfl⟩:=b _ (List.mem_singleton.2 rfl);grind [FD,jB]
      |false=>rw[hz] at h;cases h;have h1:=b _ (List.mem_singleton.2 rfl);grind [FD,jB]
     .cases h
    .cases h
   .cases h
  .split at h
   .grind [jB,Ah]
   .split at h
    .rename_i ob ho;split at h
     .rename_i C' r hl;cases h;obtain⟨k1,k2⟩:=io (Q:=ve P st) (λg t C a=>rR n g t C a) _ _ _ _ hl b;grind [Mb]
     .cases h
    .cases h
   .cases h
  .split at h
   .grind [jB,J5]
   .split at h
    .rename_i t l es clock ho;cases h;exact QY ho (b _ (by grind))
    .cases h
   .cases h
  .split at h
   .split at h
    .rename_i C' r hl;cases h;obtain⟨k1,k2⟩:=io (Q:=ve P st) (λg t C a=>rR n g t C a) _ _ _ _ hl b;exact L9 k1 k2
    .cases h
   .cases h
  .split at h
   .split at h
    .rename_i C' r hl;cases h;obtain⟨k1,k2⟩:=io (Q:=ve P st) (λg t C a=>rR n g t C a) _ _ _ _ hl b;exact Ma k1 k2
    .cases h
   .cases h
  .split at h
   .split at h
    .rename_i C' r c d hl hm;cases h;obtain⟨k1,k2⟩:=io (Q:=ve P st) (λg t C a=>rR n g t C a) _ _ _ _ hl λp hp=>b p (by grind);obtain⟨k3,e⟩:=io (Q:=ve P st) (λg t C a=>rR n g t C a) _ _ _ _ hm λp hp=>b p (by grind);grind [SX]
    .cases h
   .cases h
  grind [jB,aG]
def IJ:JR->Prop
 |[]=>True
 |p::r=>p/\IJ r
theorem w9:∀{l:JR},IJ l->∀p∈l,p
 |[],_,p,hp=>by cases hp
 |q::r,h,p,hp=>by
  rcases EG.1 hp with rfl|hp
  .exact h.1
  .exact w9 h.2 p hp
def TA(σ:aQ)(e:Bj)(s:Nat):G->Option (Nat×Nat×Bk×Prop)
 | .lit (.slice none 0 0)=>some (0,0,[],True)
 | .rsl i 0 n=>match ag σ i with
  |some ⟨t,l,none⟩=>bif Nat.beq t e then some (i,n,l,l.length=n*s)else none
  |_=>none
 |_=>none
def QZ(σ:aQ)(s:Nat):G->Option (Bk×Nat×Prop)
 | .sl l m=>some (l,m,l.length=m*s)
 | .rsl j o m=>match ag σ j with
  |some ob=>some ((ob.l.drop o).take (m*s),m,o+m*s<=ob.l.length)
  |none=>none
 | .lit (.slice none 0 _)=>some ([],0,True)
 |_=>none
def ME(P:Bu)(σ:aQ)(t u:Bj)(gx gy:G)(L:Bk)(M:Nat):Option (Bj×Prop):=match dp P t with
 |some e=>bif Nat.beq t u then(match bw P e,jj P e,(P.info? e).map (·.bytes) with
  |some s,some zs,some b=>bif Nat.blt 0 s&&Nat.beq zs.length s&&Nat.blt 0 b then(match TA σ e s gx,QZ σ s gy with
   |some (i,n,l,a),some (news,m,c)=>some (e,a/\c/\(n+m)*b<=140737488355328/\l++news=L/\n+m=M)
   |_,_=>none)else none
  |_,_,_=>none)
  else match gy,bw P e,(P.info? e).bind (·.zero),(P.info? e).map (·.bytes) with
   | .lit (.string b),some 1,some (.int .u8 0),some 1=>bif nu P u then(match TA σ e 1 gx with
    |some (i,n,l,a)=>some (e,a/\n+b.data.toList.length<=140737488355328/\l++b.data.toList.map gY=L/\n+b.data.toList.length=M)
    |none=>none)else none
   |_,_,_,_=>none
 |none=>none
theorem MF{σ:aQ}{C:Prop}(h:TA σ e s g=some (i,n,l,C))(a:C):xO σ 0 e s g=some (i,n,l):=by unfold TA at h;grind [bc,xO]
theorem Q0{σ:aQ}{C:Prop}(h:QZ σ s g=some (l,m,C))(a:C):fO σ s g=some (l,m):=by unfold QZ at h;grind [fO]
theorem CN{σ:aQ}{u:Bj}{L:Bk}{M:Nat}{C:Prop}(h:ME P σ t u gx gy L M=some (e,C))(c:C):∃i,abf P σ t u gx gy=some (e,i,M,L):=by
 unfold ME at h;unfold abf;split at h
 .rename_i e' he;cases htu:Nat.beq t u with
  |true=>
   rw[htu] at h;simp only[ax] at h⊢;split at h
   .rename_i s zs b hs hz hb;cases hk:(Nat.blt 0 s&&Nat.beq zs.length s&&Nat.blt 0 b) with
    |false=>grind
    |true=>
     rw[hk] at h;simp only[ax] at h;simp only[bA] at hk;split at h
     .rename_i a n l f d m j h1 h2;cases h;obtain⟨c1,c2,c3,rfl,rfl⟩:=c;have hb1:n+m<=(n+m)*b:=Nat.le_mul_of_pos_right _ (by simp_all);refine⟨a,?_⟩;unfold wu;simp only[he,hs,hz,hb,aL,MF h1 c1,Q0 h2 c2];rw[BB ⟨(by simp_all),(by simp_all),aa,c3⟩]
     .cases h
   .cases h
  |false=>
   rw[htu] at h;simp only[Bf] at h⊢;split at h
   .rename_i b h1 h2 h3;cases hu:nu P u with
    |false=>grind
    |true=>
     rw[hu] at h;simp only[ax] at h;split at h
     .rename_i a n l f hs;cases h;obtain⟨c1,c2,rfl,rfl⟩:=c;refine⟨a,?_⟩;unfold Hc;simp only[he,h1,h2,h3,MF hs c1,hu,Bool.true_and,Nk c2,ax]
     .cases h
   .cases h
 .cases h
def Adf(P:Bu)(σ:aQ)(t:Bj)(x:G)(lo hi:Option G)(g:G):Prop:=match JX lo,JX hi with
 |some a,some b=>JJ P σ t x a b=some g
 |_,_=>False
theorem Afa{x:DC}{lo hi:Option DC}(ho:o.op= .slice t x lo hi none)(hd:LV o st.n)(h:Adf P st.σ t (aB st x) (lo.map (aB st)) (hi.map (aB st)) g):GS P o st (st.put o.dst g):=by grind [Adf,AdL]
theorem cM(h:ge st o=some (fid,gs)):∃x xs ats fst cap,o.op= .call {callee:= .value x,args:=xs,argTypes:=ats}/\aB st x= .clo (.func fid) fst cap/\gs=fst++xs.toList.map (aB st)++cap:=by grind [ge]
theorem CP{f f':G->G->Option (JR×G)}:∀(l t:Bk),(∀g∈l,∀t,f' g t=f g t)->Da f' l t=Da f l t
 |[],[],h=>rfl
 |g::r,t::r',h=>by unfold Da;rw[h g aC t,CP r r' λg hg=>h g (List.mem_cons_of_mem _ hg)]
 |[],_::_,h=>rfl
 |_::_,[],h=>rfl
def Oq(σ:aQ):Nat->G->Br
 |0,_=>[]
 |n+1,g=>match g with
  | .rsl j _ _=>[j]
  | .ref i _=>i::(match ag σ i with
   |some ob=>ob.l.flatMap (Oq σ n)
   |none=>[])
  | .mref i=>[i]
  | .agg l=>l.flatMap (Oq σ n)
  | .tup l=>l.flatMap (Oq σ n)
  | .clo _ l m=>l.flatMap (Oq σ n)++m.flatMap (Oq σ n)
  |_=>[]
theorem Ul{σ σ':aQ}:∀(n:Nat) (g t:G),(∀j∈Oq σ n g,ag σ' j=ag σ j)->KW P σ' n g t=KW P σ n g t
 |0,g,t,h=>rfl
 |n+1,g,t,h=>by
  unfold KW;cases t with
  |sl l' m'=>grind [Oq]
  |ptr l' m'=>
   cases g with
   |ref j o=>
    dsimp only;rw[h j (by simp[Oq])];cases ho:ag σ j with
    |none=>rfl
    |some ob=>
     dsimp only;rw[CP ob.l l' λg hg t=>Ul n g t λk hk=>h k (by simp only[Oq,ho,EG,List.mem_flatMap];exact .inr ⟨g,hg,hk⟩)]
   |_=>rfl
  |mp ks vs ns ck=>grind [Oq]
  |agg l'=>
   cases g with
   |agg l=>dsimp only;rw[CP l l' λg hg t=>Ul n g t λj hj=>h j (by simp only[Oq,List.mem_flatMap];exact⟨g,hg,hj⟩)]
   |_=>rfl
  |tup l'=>
   cases g with
   |tup l=>dsimp only;rw[CP l l' λg hg t=>Ul n g t λj hj=>h j (by simp only[Oq,List.mem_flatMap];exact⟨g,hg,hj⟩)]
   |_=>rfl
  |clo f' l' m'=>
   cases g with
   |clo f l m=>dsimp only;rw[CP l l' λg hg t=>Ul n g t λj hj=>h j (by simp only[Oq,JF,List.mem_flatMap];exact .inl ⟨g,hg,hj⟩),CP m m' λg hg t=>Ul n g t λj hj=>h j (by simp only[Oq,JF,List.mem_flatMap];exact .inr ⟨g,hg,hj⟩)]
   |_=>rfl
  |_=>rfl
theorem Q7{σ σ':aQ}(h:∀j∈gs.flatMap (Oq σ 20),ag σ' j=ag σ j):Da (KW P σ' 20) gs ts=Da (KW P σ 20) gs ts:=
 by grind [CP,Ul]
theorem sV(h:∀x∈o.op.operands,aB st'' x=aB st x)(hc:ge st o=some (fid,gs)):ge st'' o=some (fid,gs):=by
 obtain⟨x,xs,ats,fst,cap,ho,hx,rfl⟩:=cM hc;have h1:aB st'' x=aB st x:=by grind [Op.operands,Call.operands]
 have h2:xs.toList.map (aB st'')=xs.toList.map (aB st):=by grind [List.map_congr_left,Op.operands,Call.operands]
 grind [ge]
def US(σ:aQ)(R:Br):aQ:=R.map λi=>(i,ag σ i)
theorem Hh{σ:aQ}:∀i∈R,ag σ i=ag (US σ R) i:=λi hi=>by rw[US,lL,BB hi]
theorem Afb{σ σ':aQ}(h:∀i∈R,ag σ' i=ag σ i):US σ' R=US σ R:=List.map_congr_left (by grind)
def syO(P:Bu)(o:Oper)(st:St)(hs:List Hn)(k:Nat):Option (Option Prop×XF):=match Ol o hs with
 |none=>(xop P o st k).map λx=>(none,x)
 |some h=>match h with
  | .v _ g=>some (some (EM P o st g),xv (xrd o st) g)
  | .b _ g=>match o.op with
   | .binOp op t x y _=>some (some (lD op (aB st x) (aB st y)=some g),xv [] g)
   |_=>none
  | .r _ b=>match xop P o st k with
   |some (.lit (.bool t),[],R,none)=>some (some (t=b),xv R (.lit (.bool b)))
   |_=>none
  | .f _ g=>match ge st o with
   |some (fid,gs)=>bif aK P fid&&gs.all (nF 20)then some (some (ba P st.gl fid gs g),xv [] g)else none
   |none=>none
  | .q _ ts g=>match ge st o with
   |some (fid,gs)=>bif aK P fid&&w8 20 g then(match Da (KW P st.σ 20) gs ts with
    |some (C,gs')=>some (some (IJ C/\ba P st.gl fid gs' g),xv (gs.flatMap (Oq st.σ 20)) g)
    |none=>none)else none
   |none=>none
  | .o _ ts t m l=>match ge st o with
   |some (fid,gs)=>bif aK P fid then(match Da (KW P st.σ 20) gs ts with
    |some (C,gs')=>some (some (IJ C/\iV P st.gl fid gs' t m l/\∀g∈l,∃v,g= .lit v),.rsl st.c 0 m,[(st.c,some ⟨t,l,none⟩)],gs.flatMap (Oq st.σ 20),some (st.c+1))
    |none=>none)else none
   |none=>none
  | .z _ R g U c'=>match ge st o with
   |some (fid,gs)=>some (some (oJ P st.gl fid gs (US st.σ R) st.c g U c'),g,U,R,some c')
   |none=>none
  | .m _ g=>match o.op with
   | .lookup t x y ok=>some (some (KU P st.σ t ok (aB st x) (aB st y) g),xv (fR (aB st x)) g)
   | .entry x=>some (some (jr (US st.σ (Aa4 st.σ (aB st x))) (aB st x)=some g),xv (Aa4 st.σ (aB st x)) g)
   |_=>none
  | .c _ g=>match o.op with
   | .convert s t x=>some (some (iQ P (US st.σ (fR (aB st x))) s t (aB st x)=some g),xv (fR (aB st x)) g)
   | .slice t x (some lo) (some hi) (some mx)=>some (some (sJ P t (aB st x) (aB st lo) (aB st hi) (aB st mx)=some g),xv [] g)
   | .slice t x lo hi none=>some (some (Adf P (US st.σ (fR (aB st x))) t (aB st x) (lo.map (aB st)) (hi.map (aB st)) g),xv (fR (aB st x)) g)
   |_=>none
  | .k _ L M=>match o.op with
   | .makeSlice t x y=>match dp P t with
    |some e=>bif Sf st k then some (some (tI P t (aB st x) (aB st y)=some (e,L,M)),xn (.rsl k 0 M) k ⟨e,L,none⟩ [])else none
    |none=>none
   |_=>none
  | .w _ L=>match o.op with
   | .store t x y=>match aB st x with
    | .ref i j=>match ag st.σ i,dH (aB st y),bw P t with
     |some ⟨t0,l0,none⟩,some l,some s=>some (some (l.length=s/\j+s<=l0.length/\l0.take j++l++l0.drop (j+s)=L),xw (.lit undef) [i] (i,⟨t0,L,none⟩))
     |_,_,_=>none
    |_=>none
   |_=>none
  | .a _ L M=>match o.op with
   | .call ⟨.builtin .append,⟨[x,y]⟩,⟨[t,u]⟩⟩=>bif Sf st k then(match ME P st.σ t u (aB st x) (aB st y) L M with
    |some (e,C)=>match aB st x with
     | .rsl j 0 _=>some (some C,.rsl k 0 M,[(k,some ⟨e,L,none⟩),(j,none)],k::j::fR (aB st y),none)
     | .lit (.slice none 0 0)=>some (some C,xn (.rsl k 0 M) k ⟨e,L,none⟩ (fR (aB st y)))
     |_=>none
    |none=>none)else none
   |_=>none
  | .i _ j ob n=>match o.op with
   | .call ⟨.builtin .append,⟨[x,y]⟩,⟨[t,u]⟩⟩=>bif Nat.beq t u then some (some (R7 P (US st.σ (fR (aB st x)++fR (aB st y))) t (aB st x) (aB st y)=some (j,ob,n)),xw (.rsr j n) (fR (aB st x)++fR (aB st y)) (j,ob))else none
   |_=>none
  | .e _ g i ob=>match o.op with
   | .mapUpdate t x y z=>some (some (dZ P (US st.σ (fR (aB st x))) t (aB st x) (aB st y) (aB st z)=some (i,ob)),xw (.lit undef) (fR (aB st x)) (i,ob))
   | .mapEntry t x y=>some (some (ov P (US st.σ (fR (aB st x))) t (aB st x) (aB st y)=some (i,ob,g)),xw g (fR (aB st x)) (i,ob))
   | .entryStore _ x y z=>some (some (jX (US st.σ (fR (aB st x))) (aB st x) (aB st y) (aB st z)=some (i,ob)),xw (.lit undef) (fR (aB st x)) (i,ob))
   | .call ⟨.builtin .delete,⟨[x,y]⟩,⟨[t,_]⟩⟩=>some (some (FN P (US st.σ (fR (aB st x))) t (aB st x) (aB st y)=some (i,ob)),xw (.tup []) (fR (aB st x)) (i,ob))
   | .call ⟨.builtin .clear,⟨[x]⟩,⟨[t]⟩⟩=>some (some (rF P (US st.σ (fR (aB st x))) t (aB st x)=some (i,ob)),xw (.tup []) (fR (aB st x)) (i,ob))
   |_=>none
  | .n _ _ _=>none
section
variable {σ σ':aQ} {g:G}
theorem abj{k:G}(h:∀i∈fR g,ag σ' i=ag σ i):dZ P σ' t g k v=dZ P σ t g k v:=by grind [dZ,Lw]
theorem Afc{k:G}(h:∀i∈fR g,ag σ' i=ag σ i):ov P σ' t g k=ov P σ t g k:=by grind [ov,Lw]
theorem AiO{k:G}(h:∀i∈fR g,ag σ' i=ag σ i):jX σ' g k v=jX σ g k v:=by unfold jX;rw[Lw h]
theorem Afd{k:G}(h:∀i∈fR g,ag σ' i=ag σ i):FN P σ' t g k=FN P σ t g k:=by grind [FN,Lw]
theorem Afe(h:∀i∈fR g,ag σ' i=ag σ i):rF P σ' t g=rF P σ t g:=by unfold rF;split<;>simp_all [fR]
theorem AjN{lo hi:JQ}(h:∀i∈fR g,ag σ' i=ag σ i):JJ P σ' t g lo hi=JJ P σ t g lo hi:=by unfold JJ;split;all_goals grind [fR]
end
theorem Adg{σ σ':aQ}(h:∀i∈fR gx++fR gy,ag σ' i=ag σ i):R7 P σ' t gx gy=R7 P σ t gx gy:=by have:=λs=>Vz (σ:=σ) (σ':=σ') (g:=gy) (λi hi=>h i (List.mem_append_right _ hi)) s;unfold R7;split<;>simp_all [fR]
theorem Acf{hs:List Hn}{x:XF}(hd:LV o st.n)(h:syO P o st hs k=some (C,x)){X:Prop}(b:II C X):X6 P o st x/\X:=by
 have bg:xop P o st k=some x->X6 P o st x:=AjG hd;have hn:∀{a},Lk o st a x->∀d,o.dst=some d->d<a.n:=by grind [Lk.n]
 unfold syO at h;split at h
 .obtain⟨y,hy,e⟩:=DQ.1 h;cases e;exact⟨bg hy,b⟩
 split at h
 .cases h;exact⟨λa L=>Ae8 (hn L) (Ae9 b.1 L.σ L.x),b.2⟩
 .split at h
  .rename_i ho;cases h;exact⟨bg (by unfold xop;rw[ho];simp only[b.1,Option.map_some]),b.2⟩
  .cases h
 .split at h
  .rename_i hv;cases h;obtain⟨rfl,f⟩:=b;exact⟨bg hv,f⟩
  .cases h
 .split at h
  .rename_i fid gs hc;cases hb:(aK P fid&&gs.all (nF 20)) with
   |false=>grind
   |true=>rw[hb] at h;simp only[bA] at hb;cases h;refine⟨λa L=>?_,b.2⟩;obtain⟨x,xs,ats,fst,cap,ho,hx,hgs⟩:=cM (sV L.x hc);exact wt ho (hn L) hx hb.1 (by grind [aG]) (by rw[<-hgs,L.gl];exact b.1)
  .cases h
 .split at h
  .rename_i fid gs hc;cases hb:(aK P fid&&w8 20 _) with
   |false=>rw[hb] at h;cases h
   |true=>
    rw[hb] at h;simp only[bA] at hb;simp only[ax] at h;split at h
    .rename_i l j hz;cases h;refine⟨λa L=>?_,b.2⟩;obtain⟨x,xs,ats,fst,cap,ho,hx,hgs⟩:=cM (sV L.x hc);have hz':=(Q7 (P:=P) L.σ).trans hz;rw[hgs] at hz';obtain⟨f1,f2⟩:=io (Q:=ve P a) (by grind [rR]) _ _ _ _ hz' (w9 b.1.1);exact Ai ho (hn L) hx hb.1 f1 f2 (by rw[L.gl];exact b.1.2) (rQ 20 _ hb.2)
    .cases h
  .cases h
 .split at h
  .rename_i fid gs hc;cases hb:aK P fid with
   |false=>grind
   |true=>
    rw[hb] at h;simp only[ax] at h;split at h
    .rename_i l j hz;cases h;obtain⟨⟨k1,k2,k3⟩,f⟩:=b;refine⟨λa L=>?_,f⟩;obtain⟨x,xs,ats,fst,cap,ho,hx,hgs⟩:=cM (sV L.x hc);have hz':=(Q7 (P:=P) L.σ).trans hz;rw[hgs] at hz';obtain⟨f1,f2⟩:=io (Q:=ve P a) (by grind [rR]) _ _ _ _ hz' (w9 k1);have:=H4 ho (hn L) hx hb f1 f2 (by rw[L.gl];exact k2) k3;rw[L.c rfl] at this;exact this
    .cases h
  .cases h
 .split at h
  .rename_i fid gs hc;cases h;obtain⟨hS,f⟩:=b;refine⟨λa L=>?_,f⟩;obtain⟨x,xs,ats,fst,cap,ho,hx,hgs⟩:=cM (sV L.x hc);exact hS o a x xs ats fst cap ho (hn L) hx hgs.symm L.gl (λq hq=>by obtain⟨i,hi,rfl⟩:=EO.1 hq;exact L.σ i hi) (L.c rfl)
  .cases h
 .split at h
  .rename_i ho;cases h;exact⟨bg (by unfold xop;rw[ho];simp only[EN b.1 (λ_ _=>rfl),Option.map_some]),b.2⟩
  .rename_i ho;cases h;have hc:=b.1;rw[(WG λi hi=>(Hh i hi).symm).1] at hc;exact⟨(by grind [xop]),b.2⟩
  .cases h
 .split at h
  .rename_i ho;cases h;have hc:=b.1;rw[<-Ac6 Hh] at hc;exact⟨(by grind [xop]),b.2⟩
  .rename_i ho;cases h;exact⟨bg (by unfold xop;rw[ho];simp only[b.1,Option.map_some]),b.2⟩
  .rename_i t x lo hi ho;cases h;refine⟨λa L=>Afa ho (hn L) ?_,b.2⟩;have hc:=b.1;have om:∀lo:Option DC,(∀y,lo=some y->y∈o.op.operands)->lo.map (aB a)=lo.map (aB st):=λlo hl=>by cases lo<;>grind [Lk.x]
   rw[L.x x (by grind [Op.operands]),om lo (by grind [Op.operands]),om hi (by grind [Op.operands])];have e:US a.σ (fR (aB st x))=_:=Afb L.σ;rw[<-e] at hc;unfold Adf at hc⊢;split at hc
   .rw[AjN Hh];exact hc
   .exact hc.elim
  .cases h
 .split at h
  .rename_i ho;split at h
   .cases hb:Sf st k with
    |false=>grind
    |true=>rw[hb] at h;cases h;exact⟨bg (by unfold xop;rw[ho];simp only[hb,ax,b.1,Option.map_some]),b.2⟩
   .cases h
  .cases h
 .split at h
  .rename_i ho;split at h
   .rename_i hx;split at h
    .rename_i h1 h2 h3;cases h;obtain⟨⟨k1,k2,rfl⟩,f⟩:=b;grind [xop,FK,fR]
    .cases h
   .cases h
  .cases h
 .split at h
  .rename_i ho;cases hb:Sf st k with
   |false=>grind
   |true=>
    rw[hb] at h;simp only[ax] at h;split at h
    .rename_i hcd;split at h
     .rename_i hx;cases h;rw[hx] at hcd;obtain⟨i,hi⟩:=CN hcd b.1;exact⟨(by grind [xop]),b.2⟩
     .rename_i hx;cases h;rw[hx] at hcd;obtain⟨i,hi⟩:=CN hcd b.1;exact⟨(by grind [xop]),b.2⟩
     .cases h
    .cases h
  .cases h
 .split at h
  .rename_i x y t u ho;cases hb:Nat.beq t u with
   |false=>grind
   |true=>rw[hb] at h;obtain rfl:=bc hb;cases h;refine⟨λa L=>?_,b.2⟩;have e:US a.σ (fR (aB st x)++fR (aB st y))=_:=Afb L.σ;exact Ag2 (st:=a) ho (hn L) (by rw[L.x x (by grind [Op.operands,Call.operands]),L.x y (by rw[ho];simp[Op.operands,Call.operands]),<-b.1,<-e];exact Adg Hh)
  .cases h
 .split at h;all_goals first
   |(cases h;done)
   |(
     rename_i ho
     cases h
     refine⟨bg ?_,b.2⟩
     have hc:=b.1
     grind [abj,Hh,xop,Afc,AiO,Afd,Afe])
 .cases h
def TI(_:aQ):Bool:=false
def lkN(P:Bu)(o:Oper)(hs:List Hn)(s:St):Option (Prop×G×Br×(aQ->Bool)):=match Ol o hs with
 |some (.n _ g ck)=>match o.op with
  | .lookup t x y ok=>some ((KU P s.σ t ok (aB s x) (aB s y) g/\∀W,ck W=true->KU P (W++s.σ) t ok (aB s x) (aB s y) g),g,fR (aB s x),ck)
  |_=>none
 |_=>none
def oPs(C:Option Prop)(ps:JR):JR:=match C with
 |some p=>p::ps
 |none=>ps
def oKs(o:Oper)(C:Option Prop)(u:Br):Br:=match C with
 |some _=>CL o::u
 |none=>u
def AdX(x:XF)(ck:aQ->Bool):DI:=⟨x.2.2.1,x.2.1,x.2.2.2.isSome,ck⟩
def yp(P:Bu)(ops:Array Oper)(hs:List Hn):HE->St->Nat->Option (JR×Br×St×List DI)
 |[],s,_=>some ([],[],s,[])
 |o::r,s,k=>bif pj s.n o.dst then(match ce s ops o with
  |some true=>match lkN P o hs s with
   |some (C,g,R,ck)=>(match yp P ops hs r (s.put o.dst g) (Nm o k) with
    |some (ps,u,s',inf)=>some (C::ps,CL o::u,s',AdX (xv R g) ck::inf)
    |none=>none)
   |none=>match syO P o s hs k with
    |some (C,x)=>(match yp P ops hs r (lay s o x) (Nm o k) with
     |some (ps,u,s',inf)=>some (oPs C ps,oKs o C u,s',AdX x TI::inf)
     |none=>none)
    |none=>none
  |some false=>(match yp P ops hs r (s.put o.dst (.lit undef)) (Nm o k) with
   |some (ps,u,s',inf)=>some (ps,u,s',AdX (xv [] (.lit undef)) TI::inf)
   |none=>none)
  |none=>none)else none
def AjO(s:St)(o:Oper)(x:XF):St:={s with σ:=bif x.2.2.2.isSome then x.2.1++s.σ else upd x.2.1 s.σ,c:=bif aai o then s.c+1 else x.2.2.2.getD s.c}.put o.dst x.1
def Um(P:Bu)(ops:Array Oper)(hs:List Hn):HE->St->Option (JR×Br×St)
 |[],s=>some ([],[],s)
 |o::r,s=>bif pj s.n o.dst then(match ce s ops o with
  |some true=>(λs1=>match syO P o s1 hs s.c with
   |some (C,x)=>bif aai o&& !(x.2.2.2.isNone&&x.2.1.any λq=>Nat.beq q.1 s.c)then none else(match Um P ops hs r (AjO s o x) with
    |some (ps,u,s')=>some (oPs C ps,oKs o C u,s')
    |none=>none)
   |none=>none) (bif aai o then ff 1 s else s)
  |some false=>Um P ops hs r (s.put o.dst (.lit undef))
  |none=>none)else none
theorem Aff(h:∀p∈oPs C ps,p):II C True/\∀p∈ps,p:=by
 cases C with
 |none=>exact⟨trivial,h⟩
 |some q=>exact⟨⟨h q (by simp[oPs]),trivial⟩,(by grind [oPs])⟩
theorem Ahj(o:Oper)(st:St)(x:XF):Lk o st st x:=by constructor<;>grind
theorem Q4{ops:Array Oper}{hs:List Hn}{K:St->Prop}:∀(l:HE) (s:St) (ps:JR) (u:Br) (s':St),Um P ops hs l s=some (ps,u,s')->(∀p∈ps,p)->K s'->D8 P ops K l s
 |[],s,ps,u,s',h,hp,b=>by cases h;exact b
 |o::r,s,ps,u,s',h,hp,b=>by
  unfold Um at h;cases hd:pj s.n o.dst<;>rw[hd] at h
  .cases h
  have hd:=SG hd;simp only[ax] at h;split at h
  .rename_i hw;split at h
   .rename_i C x hx;cases hm:(aai o&& !(x.2.2.2.isNone&&x.2.1.any λq=>Nat.beq q.1 s.c))<;>rw[hm] at h;rotate_left
    .cases h
    simp only[Bf] at h;split at h
    .rename_i d u1 s1 hr;cases h;obtain⟨h1,h2⟩:=Aff hp;have bg:∀s1:St,s1.n=s.n->Le P s s1->syO P o s1 hs s.c=some (C,x)->GS P o s (lay s1 o x):=λs1 e le hx=>λcx a w K R r=>(Acf (by grind) hx h1).1 s1 (Ahj o s1 x) cx a w K R (le cx a w r);refine .inl ⟨hw,AjO s o x,?_,Q4 r _ _ _ _ hr h2 b⟩;unfold AjO;cases hk:aai o with
     |false=>rw[hk] at hx;refine(bg s rfl (Le.refl s) hx).eqv (Ae (Af (λi=>?_) rfl) _ _);grind [WF]
     |true=>rw[hk] at hx hm;simp only[Bool.true_and,Bool.not_eq_false',bA,Option.isNone_iff_eq_none] at hm;refine(bg (ff 1 s) rfl (uB 1 s) hx).eqv (Ae (Af (λi=>?_) (by rw[hm.1];rfl)) _ _);rw[hm.1];refine(WF ..).trans ?_;obtain⟨q,hq,hb⟩:=List.any_eq_true.1 hm.2;show _=ag (x.2.1++((s.c,some BC)::s.σ)) i;grind [fY,fE,bc]
    .cases h
   .cases h
  .rename_i hw;exact .inr ⟨hw,hd,Q4 r _ _ _ _ h hp b⟩
  .cases h
theorem sX{ops:Array Oper}{hs:List Hn}{K:St->Prop}:∀(l:HE) (s:St) (k:Nat) (ps:JR) (u:Br) (s':St) (inf:List DI),yp P ops hs l s k=some (ps,u,s',inf)->(∀p∈ps,p)->K s'->PQ P ops K l inf s
 |[],s,k,ps,u,s',inf,h,hp,d=>by cases h;exact d
 |o::r,s,k,ps,u,s',inf,h,hp,d=>by
  unfold yp at h;cases hd:pj s.n o.dst<;>rw[hd] at h
  .cases h
  have hd:=SG hd;simp only[ax] at h;split at h
  .rename_i hw;split at h
   .rename_i C g R ck hx;split at h
    .rename_i f u1 s1 b hr;cases h;refine⟨g,s.put o.dst g,.inl ⟨hw,s.c,rfl,λ_=>rfl,?_⟩,sX r _ _ _ _ _ _ hr (by simp_all) d⟩;have i:=hp C aC;unfold lkN at hx;split at hx
     .split at hx
      .rename_i t x y ok ho;cases hx;intro V hV a h1 h2 h3 h4 h5 h6;refine xS ho (by grind) ?_;rw[h6 x (by grind [Op.operands]),h6 y (by grind [Op.operands])];rcases hV with rfl|hV
       .exact EN i.1 h5
       .exact EN (i.2 V hV) h5
      .cases hx
     .cases hx
    .cases h
   .split at h
    .rename_i C x hx;split at h
     .rename_i f u1 s1 b hr;cases h;obtain⟨h1,h2⟩:=Aff hp;refine⟨x.1,_,.inl ⟨hw,x.2.2.2.getD s.c,rfl,λhc=>?_,λV hV a e1 e2 e3 e4 e5 e6=>?_⟩,sX r _ _ _ _ _ _ hr h2 d⟩
      .cases hx2:x.2.2.2<;>grind [AdX]
      .rcases hV with rfl|hV
       .have:=(Acf hd hx h1).1 a ⟨e1,e2,e3,e4,e5,e6⟩;unfold lay at this;have e:(if(AdX x TI).cu=true then x.2.2.2.getD s.c else a.c)=x.2.2.2.getD a.c:=by cases hx2:x.2.2.2<;>simp[AdX,hx2]
        rw[e];exact this
       .cases hV
     .cases h
    .cases h
  .rename_i hw;split at h
   .rename_i f u1 s1 b hr;cases h;exact⟨_,_,.inr ⟨hw,rfl,rfl,rfl,rfl⟩,sX r _ _ _ _ _ _ hr hp d⟩
   .cases h
  .cases h
def AjP(l:HE)(inf:List DI)(n:Nat):Option Prop:=(λR=>bif wv l R n then(match Nu inf R l.length with
 |[q]=>bif(bP inf q.1).U.isEmpty&& !(bP inf q.1).cu then some ((bP inf q.1).ck (bP inf q.2).U=true)else none
 |_=>none)else none) (rgo l [])
theorem Ahk{l:HE}{inf:List DI}{C:Prop}(h:AjP l inf n=some C)(a:C):kL l inf n=true:=by grind [AjP,kL]
inductive Kf where
 |thn (c:Code)
 |blk (id:Nat)
 |lp (B:St->Prop)
inductive Afg where
 |lp (c:Code) (K:List Kf) (st:St)
 |fin (e:Exit) (st:St)
 |bk (B:St->Prop) (st:St)
 |ct (c:Code) (K:List Kf) (st:St)
abbrev Q3:=Option (Prop×Br×Afg)
def TE:JR->Prop->Prop
 |[],q=>q
 |p::r,q=>p/\TE r q
theorem Gr:∀{l:JR} {q:Prop},TE l q->(∀p∈l,p)/\q
 |[],q,h=>⟨(by simp_all),h⟩
 |p::r,q,h=>by
  obtain⟨h1,h2⟩:=Gr h.2;exact⟨λx hx=>by
   rcases EG.1 hx with rfl|hx
   .exact h.1
   grind,h2⟩
def Al6(hs:List Hn)(l:HE):Bool:=l.any λo=>match Ol o hs with
 |some (.n ..)=>true
 |_=>false
def MK(P:Bu)(ops:Array Oper)(hs:List Hn)(st:St):Option (JR×Br×St):=match yp P ops hs ops.toList (ff (UN ops.toList) st) st.c with
 |some (ps,u,s,inf)=>bif Al6 hs ops.toList then(match AjP ops.toList inf st.n with
  |some C=>some (C::ps,999999996::u,s)
  |none=>none)else bif kL ops.toList inf st.n then some (ps,u,s)else none
 |none=>none
theorem Q8(hm:P.follows .mixedOrders=true){id:Nat}{ops:Array Oper}{hs:List Hn}{s:St}{Q:Exit->St->Prop}(h:MK P ops hs st=some (ps,u,s))(hp:∀p∈ps,p)(hQ:Q .normal s):Tr P (.region id ops true) st Q:=by
 unfold MK at h;split at h
 .rename_i a c s' inf h1;have go:kL ops.toList inf st.n=true->(∀p∈a,p)->s'=s->Tr P (.region id ops true) st Q:=λhk hp e=>by subst e;refine Tr.le ?_ (uB (UN ops.toList) st);have:=sX (K:=Q .normal) ops.toList _ _ _ _ _ _ h1 hp hQ;have hx:=pX (id:=id) (l:=ops.toList) (st:=ff (UN ops.toList) st) (Q:=Q) hm (by rw[(sv (UN ops.toList) st).1];exact hk) (by rwa [Array.toArray_toList]);simp_all
  cases hN:Al6 hs ops.toList with
  |false=>grind
  |true=>
   rw[hN] at h;simp only[ax] at h;split at h
   .rename_i C b;cases h;exact go (Ahk b (by simp_all)) (by simp_all) rfl
   .cases h
 .cases h
def rgK(k:St->Q3):Option (JR×Br×St)->Q3
 |some (ps,u,s)=>match k s with
  |some (C,u',out)=>some (TE ps C,u++u',out)
  |none=>none
 |none=>none
def U9(cut:Nat):DC->Bool
 | .tmp d=>Nat.beq d cut
 |_=>false
def sy(P:Bu)(hs:List Hn)(cut:Nat):Nat->Code⊕Exit->List Kf->St->Q3
 |0,_,_,_=>none
 |n+1,.inl c,K,st=>match c with
  | .skip=>sy P hs cut n (.inr .normal) K st
  | .label _=>sy P hs cut n (.inr .normal) K st
  | .seq a b=>sy P hs cut n (.inl a) (.thn b::K) st
  | .block id c=>sy P hs cut n (.inl c) (.blk id::K) st
  | .region id ops draw=>bif Nat.beq cut (2000000+id)then some (True,[],.ct (.region id ops draw) K st)else rgK (λs=>sy P hs cut n (.inr .normal) K s) (bif draw then MK P ops hs st else Um P ops hs ops.toList st)
  | .cond x a b=>bif U9 cut x then some (True,[],.ct (.cond x a b) K st)else match aB st x with
   | .lit (.bool t)=>bif t then sy P hs cut n (.inl a) K st else sy P hs cut n (.inl b) K st
   |_=>none
  | .loop c=>some (True,[],.lp c K st)
  | .rangeFunc g ps a b=>some (True,[],.ct (.rangeFunc g ps a b) K st)
  | .scope c=>some (True,[],.ct (.scope c) K st)
  | .exit id=>sy P hs cut n (.inr (.exit id)) K st
  | .ret=>sy P hs cut n (.inr .ret) K st
  |_=>none
 |n+1,.inr e,K,st=>match K with
  |[]=>some (True,[],.fin e st)
  | .thn b::K=>match e with
   | .normal=>sy P hs cut n (.inl b) K st
   |_=>sy P hs cut n (.inr e) K st
  | .blk id::K=>match e with
   | .exit i=>bif Nat.beq i id then sy P hs cut n (.inr .normal) K st else sy P hs cut n (.inr (.exit i)) K st
   |_=>sy P hs cut n (.inr e) K st
  | .lp B::K=>match e with
   | .normal=>some (True,[],.bk B st)
   |_=>sy P hs cut n (.inr e) K st
def Z1(P:Bu)(Q:Exit->St->Prop):Exit->St->Prop:=λe s=>∃s',Le P s s'/\Q e s'
def LeB(P:Bu)(B:St->Prop):St->Prop:=λs=>∃s',Le P s s'/\B s'
def dz(P:Bu):List Kf->(Exit->St->Prop)->Exit->St->Prop
 |[],Q=>Z1 P Q
 | .thn b::K,Q=>uE (λs=>Tr P b s (dz P K Q)) (dz P K Q)
 | .blk id::K,Q=>pu id (dz P K Q)
 | .lp B::K,Q=>uE (LeB P B) (dz P K Q)
def Res(P:Bu)(Q:Exit->St->Prop):Afg->Prop
 | .lp c K st=>Tr P (.loop c) st (dz P K Q)
 | .fin e st=>Z1 P Q e st
 | .bk B st=>LeB P B st
 | .ct c K st=>Tr P c st (dz P K Q)
theorem Tr.leQ{c:Code}{st:St}{Q:Exit->St->Prop}(h:Tr P c st (Z1 P Q)):Tr P c st Q:=λcx a w R r k=>h cx a w R r λe s a' w' ⟨s',h1,h2⟩ r'=>k e s' a' w' h2 (h1 cx a' w' r')
theorem pQ{Q:Exit->St->Prop}{s s':St}(l:Le P s s'):∀(K:List Kf) (e:Exit),dz P K Q e s'->dz P K Q e s
 |[],e,h=>by obtain⟨t,h1,h2⟩:=h;exact⟨t,l.trans h1,h2⟩
 | .thn b::K,e,h=>by
  unfold dz at h⊢;cases e with
  |normal=>grind [uE,Tr.le]
  |_=>unfold uE at h⊢;exact pQ l K _ h
 | .blk id::K,e,h=>by
  unfold dz at h⊢;cases e with
  |exit i=>
   by_cases hi:i=id
   .subst hi;refine PX (pQ l K _ ?_);grind [pu]
   .refine PY hi (pQ l K _ ?_);grind [pu]
  |_=>unfold pu at h⊢;exact pQ l K _ h
 | .lp B::K,e,h=>by
  unfold dz at h⊢;cases e with
  |normal=>unfold uE at h⊢;obtain⟨t,h1,h2⟩:=h;exact⟨t,l.trans h1,h2⟩
  |_=>unfold uE at h⊢;exact pQ l K _ h
def CQ(P:Bu)(Q:Exit->St->Prop)(K:List Kf)(st:St):Code⊕Exit->Prop
 | .inl c=>Tr P c st (dz P K Q)
 | .inr e=>dz P K Q e st
theorem oK(hm:P.follows .mixedOrders=true){Q:Exit->St->Prop}{hs:List Hn}{cut:Nat}{out:Afg}(hR:Res P Q out):∀(n:Nat) (m:Code⊕Exit) (K:List Kf) (st:St) (C:Prop) (u:Br),sy P hs cut n m K st=some (C,u,out)->C->CQ P Q K st m
 |0,m,K,st,C,u,h,d=>by cases h
 |n+1,.inl c,K,st,C,u,h,d=>by
  have ih:=oK hm (hs:=hs) (cut:=cut) hR n;unfold sy at h;show Tr P c st (dz P K Q);split at h
  .exact Fy (ih _ _ _ _ _ h d)
  .exact HJ (ih _ _ _ _ _ h d)
  .exact BH (ih _ _ _ _ _ h d)
  .exact BI (ih _ _ _ _ _ h d)
  .rename_i id ops f;cases hcut:Nat.beq cut (2000000+id) with
   |true=>rw[hcut] at h;simp only[ax,Fe,Ft] at h;obtain⟨rfl,rfl,rfl⟩:=h;exact hR
   |false=>
   rw[hcut] at h;simp only[Bf] at h;simp only[rgK] at h;split at h
   .rename_i ps u1 s1 hr;split at h
    .rename_i l o k h1;cases h;obtain⟨hp,j⟩:=Gr d;have hQ:=ih (.inr .normal) K _ _ _ h1 j;cases f with
     |true=>exact Q8 hm hr hp hQ
     |false=>have:=D9 (id:=id) (Q4 (K:=dz P K Q .normal) _ _ _ _ _ hr hp hQ);simp_all
    .cases h
   .cases h
  .rename_i x a b;cases hcut:U9 cut x with
   |true=>rw[hcut] at h;simp only[ax,Fe,Ft] at h;obtain⟨rfl,rfl,rfl⟩:=h;exact hR
   |false=>
    rw[hcut] at h;simp only[Bf] at h;split at h
    .rename_i t ht;refine wk ht ?_;cases t with
     |true=>exact ih _ _ _ _ _ h d
     |false=>exact ih _ _ _ _ _ h d
    .cases h
  .simp only[Fe,Ft] at h;obtain⟨rfl,rfl,rfl⟩:=h;exact hR
  .simp only[Fe,Ft] at h;obtain⟨rfl,rfl,rfl⟩:=h;exact hR
  .simp only[Fe,Ft] at h;obtain⟨rfl,rfl,rfl⟩:=h;exact hR
  .exact Fz (ih _ _ _ _ _ h d)
  .exact PW (ih _ _ _ _ _ h d)
  .cases h
 |n+1,.inr e,K,st,C,u,h,d=>by
  have ih:=oK hm (hs:=hs) (cut:=cut) hR n;unfold sy at h;show dz P K Q e st;split at h
  .simp only[Fe,Ft] at h;obtain⟨rfl,rfl,rfl⟩:=h;exact hR
  .rename_i b K;unfold dz;split at h
   .exact wm (ih _ _ _ _ _ h d)
   .rename_i hne;exact DU hne (ih _ _ _ _ _ h d)
  .rename_i id K;unfold dz;split at h
   .rename_i i;cases hb:Nat.beq i id with
    |true=>rw[hb] at h;obtain rfl:=bc hb;exact PX (ih _ _ _ _ _ h d)
    |false=>rw[hb] at h;exact PY (by grind [Nat.beq_refl]) (ih _ _ _ _ _ h d)
   .rename_i hne;exact UP (by grind) (ih _ _ _ _ _ h d)
  .rename_i B K;unfold dz;split at h
   .simp only[Fe,Ft] at h;obtain⟨rfl,rfl,rfl⟩:=h;exact wm hR
   .rename_i hne;exact DU hne (ih _ _ _ _ _ h d)
def Iu(ρ:DH)(j:Nat):Fq:=match ρ.find? (λq=>Nat.beq q.2 j) with
 |some q=>match dq ρ q.1 with
  |some k=>bif Nat.beq k j then some q.1 else none
  |none=>none
 |none=>none
theorem Acg(h:Iu ρ j=some i):dq ρ i=some j:=by grind [Iu,bc]
def cR(ρ:DH):Nat:=ρ.foldr (λq m=>A8 (q.1+1) m) 0
theorem Va:∀{ρ:DH} {q:Nat×Nat},q∈ρ->q.1<cR ρ
 |x::r,q,h=>by
  show q.1<A8 (x.1+1) (cR r);rcases EG.1 h with rfl|h
  .exact xz _ _
  .exact Nat.lt_of_lt_of_le (Va h) (xA _ _)
def ER(ρ:DH)(p:Nat):Bool:=(ρ.all λq=>match dq ρ q.1 with|some k=>Nat.beq k q.2|none=>false)&&(ρ.all λq=>ρ.all λa=> !(Nat.beq q.2 a.2)||Nat.beq q.1 a.1)&&(List.range p).all λi=>match dq ρ i with|some k=>Nat.beq k i|none=>false
theorem Gt(h:dq ρ i=some j):(i,j)∈ρ:=by grind [dq,List.lookup_eq_some_iff]
variable {c:Code} {K:List Kf} {st:St} {Q:Exit->St->Prop}
structure Lp (ι:Type) where
 S:ι->St
 μ:ι->Nat
def Lp.B{ι:Type}(L:Lp ι)(i:ι):St->Prop:=λs=>∃j,s=L.S j/\L.μ j<L.μ i
theorem TJ{ι:Type}(L:Lp ι)(a:ι)(h:∀i,Tr P c (L.S i) (dz P (.lp (L.B i)::K) Q)):Tr P (.loop c) (L.S a) (dz P K Q):=
 L4 L.S L.μ a (Le.refl _) λi=>(h i).mono λe s hq=>by unfold dz at hq;cases e<;>grind [LeB,Lp.B,uE]
def ai(fn:Func):Code:=fn.body.getD .skip
theorem Y7{r:G}(fn:Func)(hf:P.funcs[f]?=some fn)(hb:fn.body.isSome=true)(hn:Nat.ble gs.length fn.ntmps=true)(h:Tr P (ai fn) ⟨fn.ntmps,gl,bQ 0 gs,[],0,0,false⟩ (dz P [] (tH P fn r))):ba P gl f gs r:=
 HL hf (c:=ai fn) (by unfold ai;cases hx:fn.body<;>grind) (Ef hn) h.leQ
end
section
variable {P:Bu}
variable {c:Code} {K:List Kf} {st:St}
end
class Mix (P:Bu):Prop where
 mx:P.follows .mixedOrders=true
structure HP where
 h:Option Hn
 p:Prop
 t:p
def AB(d:Nat){X:Option G}{g:G}(t:X=some g):HP:=⟨some (.v d g),X=some g,t⟩
def hV(d:Nat){X:DC->DC->Option G}{g:G}(t:∀p q,X p q=some g):HP:=⟨some (.v d g),∀p q,X p q=some g,t⟩
def hbb(d:Nat){X:Option G}{g:G}(t:X=some g):HP:=⟨some (.b d g),X=some g,t⟩
def hf(d:Nat){P:Bu}{gl:CC}{f:FuncId}{gs:Bk}{g:G}(t:ba P gl f gs g):HP:=⟨some (.f d g),ba P gl f gs g,t⟩
def ha(d:Nat)(L:Bk)(M:Nat){p:Prop}(t:p):HP:=⟨some (.a d L M),p,t⟩
def hc{p:Prop}(t:p):HP:=⟨none,p,t⟩
def bK(l:List HP):List Hn:=l.filterMap (·.h)
def psU(A:List HP):Br->Prop
 |[]=>True
 |d::r=>match A.find? (λx=>match x.h with|some h=>Nat.beq h.key d|none=>false) with
  |some x=>x.p/\psU A r
  |none=>False
theorem Ra(A:List HP):∀u:Br,(∀d∈u,(A.find? (λx=>match x.h with|some h=>Nat.beq h.key d|none=>false)).isSome=true)->psU A u
 |[],_=>trivial
 |d::r,h=>by
  have h1:=h d aC;unfold psU;split
  .rename_i x hx;exact⟨x.t,Ra A r (by grind)⟩
  grind
def qe(A:List HP)(u:Br):Bool:=u.all λd=>(A.find? (λx=>match x.h with|some h=>Nat.beq h.key d|none=>false)).isSome
theorem kA{A:List HP}(h:qe A u=true):psU A u:=Ra A u λd hd=>GV.1 h d hd
def xb(s:St):Br:=s.fr.map (·.1)
section
variable {P:Bu} [M:Mix P] {c:Code} {K:List Kf} {st:St} {Q:Exit->St->Prop} {ι:Type}
end
section
variable {P:Bu}
theorem fP{s:Sem α}{f:α->Sem β}{a:α}(h:bt P s=some a):bt P (s>>=f)=bt P (f a):=by rw[dd,h];rfl
theorem Qr{c:Prop}[Decidable c]{a b:Sem α}:bt P (if c then a else b)=if c then bt P a else bt P b:=by split<;>rfl
theorem xV{d:Nat}{fs:Array Field}(ht:bt P (underlying t)=some (.struct fs))(hp:P.stoodInHeld t=false):bt P (Op.equalIn (d+1) t (.agg xs) (.agg ys))=bt P (Op.eqFields d xs ys fs.toList):=by
 unfold Op.equalIn;rw[fP ht];simp only[];rw[fP (show bt P Go.program=some P from rfl)];rw[hp];simp only[Bool.false_eq_true,if_false];rw[<-Array.forIn_toList];generalize fs.toList=l;clear ht;induction l with
 |nil=>rfl
 |cons f fs ih=>
  rw[dd] at ih;rw[dd,List.forIn_cons,dd];unfold Op.eqFields;by_cases hn:f.name≠ "_"
  .rw[BB hn,BB hn];simp only[dd];cases bt P (part f.type xs f.offset) with
   |none=>rfl
   |some a=>
   cases bt P (part f.type ys f.offset) with
   |none=>rfl
   |some b=>
   simp only[aL];cases bt P (Op.equalIn d f.type a b) with
   |none=>rfl
   |some r=>
   cases r with
   |false=>rfl
   |true=>exact ih
  .rw[BX hn,BX hn];exact ih
theorem uJ{d:Nat}{f:Field}{fs:List Field}{k k':IntKind}{a b:Int}(hn:f.name≠ "_")(hx:bt P (part f.type xs f.offset)=some (.int k a))(hy:bt P (part f.type ys f.offset)=some (.int k b))(ht:bt P (underlying f.type)=some (.int k')):bt P (Op.eqFields (d+1) xs ys (f::fs))=if a=b then bt P (Op.eqFields (d+1) xs ys fs)else some false:=by
 rw[Op.eqFields,BB hn,fP hx,fP hy];have e:bt P (Op.equalIn (d+1) f.type (.int k a) (.int k b))=some (a==b):=by unfold Op.equalIn;rw[fP ht];simp only[if_true];rfl
 rw[fP e,Qr];by_cases h:a=b
 .simp[h]
 .rw[BX h,BB (by simp[h])];rfl
theorem Cb{m:Bk}{us vs:List Value}(hl:rt l=some us)(hm:rt m=some vs)(hg:bt P (eqGuard .neq t p q (.agg us.toArray) (.agg vs.toArray))=some ())(he:bt P (Op.equalIn 10000 t (.agg us.toArray) (.agg vs.toArray))=some r):b8 P .neq t p q (.agg l) (.agg m)=some (.lit (.bool (!r))):=by
 unfold b8;simp only[cD,hl,hm,Option.map_some];rw[fP hg];have e:bt P (binOp .neq t (.agg us.toArray) (.agg vs.toArray))=some (.bool (!r)):=by show bt P (Op.equalIn 10000 t (.agg us.toArray) (.agg vs.toArray)>>=λb=>pure (Value.bool (!b)))=_;rw[fP he];rfl
 rw[e];rfl
theorem Eo{m:Bk}{us vs:List Value}(hl:rt l=some us)(hm:rt m=some vs)(hg:bt P (eqGuard .eql t p q (.agg us.toArray) (.agg vs.toArray))=some ())(he:bt P (Op.equalIn 10000 t (.agg us.toArray) (.agg vs.toArray))=some r):b8 P .eql t p q (.agg l) (.agg m)=some (.lit (.bool r)):=by
 unfold b8;simp only[cD,hl,hm,Option.map_some];rw[fP hg];have e:bt P (binOp .eql t (.agg us.toArray) (.agg vs.toArray))=some (.bool r):=by show bt P (Op.equalIn 10000 t (.agg us.toArray) (.agg vs.toArray)>>=λb=>pure (Value.bool b))=_;rw[fP he];rfl
 rw[e];rfl
end
abbrev iG(z:Int):G:= .lit (.int .i64 z)
abbrev uG(z:Int):G:= .lit (.int .u64 z)
abbrev bG(b:Bool):G:= .lit (.bool b)
theorem Mx(h: -9223372036854775808<=z/\z<9223372036854775808):IntKind.i64.wrap z=z:=w64 aa
theorem ad{b:Int}(h:a+b=z)(hb: -9223372036854775808<=z/\z<9223372036854775808):lD .add (iG a) (iG b)=some (iG z):=by subst h;show some (iG (IntKind.i64.wrap (a+b)))=_;rw[Mx hb]
theorem sb{a b z:Int}(h:a-b=z)(hb: -9223372036854775808<=z/\z<9223372036854775808):lD .sub (iG a) (iG b)=some (iG z):=by subst h;show some (iG (IntKind.i64.wrap (a-b)))=_;rw[Mx hb]
theorem dec{q:Nat}(h:q<4611686018427387904):lD .sub (iG ((q+1:Nat):Int)) (iG 1)=some (iG (q:Int)):=by grind [sb]
theorem Xl{q:Nat}(h:q<4611686018427387904):lD .add (iG (q:Int)) (iG 1)=some (iG ((q+1:Nat):Int)):=by grind [ad]
section
variable {α:Type} {f:α->Bk} {k:Nat}
theorem QP(hk:∀x,(f x).length=k)(l:List α):(l.flatMap f).length=l.length*k:=by induction l<;>grind
theorem sQ(hk:∀x,(f x).length=k):∀(l:List α) (i:Nat),(l.flatMap f).drop (i*k)=(l.drop i).flatMap f
 |l,0=>aC
 |[],i+1=>aC
 |x::r,i+1=>by rw[List.flatMap_cons,Nat.add_mul,Nat.one_mul,List.drop_append,hk,Nat.add_sub_cancel,sQ hk r i,List.drop_of_length_le (by grind)];rfl
theorem yk(hk:∀x,(f x).length=k):∀(l:List α) (i:Nat),(l.flatMap f).take (i*k)=(l.take i).flatMap f
 |l,0=>aC
 |[],i+1=>aC
 |x::r,i+1=>by rw[List.flatMap_cons,Nat.add_mul,Nat.one_mul,Nat.add_comm,List.take_append,hk,Nat.add_sub_cancel_left,yk hk r i,List.take_of_length_le (by grind)];rfl
theorem wQ(hk:∀x,(f x).length=k){l:List α}{x:α}(h:l[i]?=some x):((l.flatMap f).drop (i*k)).take k=f x:=by grind [sQ,List.drop_eq_getElem_cons]
theorem l9{l:List α}{x:α}(h:l[i]?=some x):i*k+k<=l.length*k:=by have hi:=(cr h).1;have:=Nat.mul_le_mul_right k (Nat.succ_le_of_lt hi);grind
end
structure AQ (P:Bu) (ts te:Bj) (k:Nat) {α:Type} (f:α->Bk):Prop where
 el:dp P ts=some te
 sz:bw P te=some k
 kp:0<k
 ln:∀x,(f x).length=k
 im:∀x,(f x).all (nF 19)=true
section
variable {P:Bu} {ts te:Bj} {k:Nat} {α:Type} {f:α->Bk}
abbrev aE(f:α->Bk)(l:List α):G:= .sl (l.flatMap f) l.length
theorem AQ.im'(R:AQ P ts te k f)(x:α):∀g∈f x,bB g:=by grind [AQ,aG]
theorem AQ.imm(R:AQ P ts te k f)(l:List α):∀g∈l.flatMap f,bB g:=λg hg=>by obtain⟨x,_,hx⟩:=List.mem_flatMap.1 hg;exact R.im' x g hx
theorem AQ.len(R:AQ P ts te k f)(l:List α):(l.flatMap f).length=l.length*k:=QP R.ln l
theorem AQ.ix(R:AQ P ts te k f){l:List α}{i:Nat}{x:α}(h:l[i]?=some x):fh P ts (aE f l) (i:Int)=some (.ptr (l.flatMap f) (i*k)):=by have hi:=(cr h).1;have hb:=l9 (k:=k) h;have hl:=R.len l;have hk:=R.kp;simp only[fh,R.el,R.sz,aL];grind
theorem AQ.ixr(R:AQ P ts te k f)(j:Nat){l:List α}{i o:Nat}{x:α}(h:l[i]?=some x):fh P ts (.rsl j o l.length) (i:Int)=some (.ref j (o+i*k)):=by have hi:=(cr h).1;simp only[fh,R.el,R.sz,aL];grind
theorem AQ.pt(R:AQ P ts te k f)(ha:fg P te=some true){l:List α}{i:Nat}{x:α}(h:l[i]?=some x):dN P te (l.flatMap f) (i*k)=some (.agg (f x)):=by grind [AQ,l9,dN,len,wQ]
theorem AQ.pt1(R:AQ P ts te 1 f)(ha:fg P te=some false){l:List α}{i:Nat}{x:α}(h:l[i]?=some x){g:G}(hg:f x=[g]:=by rfl):dN P te (l.flatMap f) (i*1)=some g:=by have e:=wQ (f:=f) (k:=1) R.ln h;rw[hg] at e;have e2:=congrArg (λz=>z[0]?) e;grind [dN]
theorem AQ.fd(R:AQ P ts te k f){t:Bj}(ha:fg P t=some false){l:List α}{i j:Nat}{x:α}{g:G}(h:l[i]?=some x)(hg:(f x)[j]?=some g):dN P t (l.flatMap f) (i*k+j)=some g:=by have e:=wQ (f:=f) (k:=k) R.ln h;grind [dN]
def An7(d:Nat)(R:AQ P ts te k f)(b:Nat)(l r:List α)(hb:(l.length+r.length)*b<=140737488355328):HP:=ha d ((l++r).flatMap f) (l++r).length (p:=(l.flatMap f).length=l.length*k/\(r.flatMap f).length=r.length*k/\(l.length+r.length)*b<=140737488355328/\l.flatMap f++r.flatMap f=(l++r).flatMap f/\l.length+r.length=(l++r).length) (by grind [AQ.len])
theorem AQ.snoc(R:AQ P ts te k f)(l:List α)(x:α):l.flatMap f++((f x).drop 0).take (1*k)=(l++[x]).flatMap f:=by grind [AQ]
def Tn(d:Nat)(R:AQ P ts te k f)(b:Nat)(l:List α)(x:α)(hb:(l.length+1)*b<=140737488355328):HP:=ha d ((l++[x]).flatMap f) (l++[x]).length (p:=(l.flatMap f).length=l.length*k/\0+1*k<=(f x).length/\(l.length+1)*b<=140737488355328/\l.flatMap f++((f x).drop 0).take (1*k)=(l++[x]).flatMap f/\l.length+1=(l++[x]).length) (by grind [AQ.len,AQ.snoc])
theorem AQ.pre(R:AQ P ts te k f)(j:Nat){n q:Nat}(h:q<=n):ig P ts (.rsl j 0 n) none (some (q:Int))=some (.rsl j 0 q):=by have:=R.kp;simp only[ig,R.el,R.sz,aL];grind
theorem AQ.suf(R:AQ P ts te k f)(j:Nat){n q:Nat}(h:q<=n):ig P ts (.rsl j 0 n) (some (q:Int)) none=some (.rsl j (0+q*k) (n-q)):=by have:=R.kp;simp only[ig,R.el,R.sz,aL];grind
end
def qg(κ:Nat->Fq):Nat->G->G
 |0,_=> .junk
 |n+1,g=>match g with
  | .lit v=> .lit v
  | .agg l=> .agg (l.map (qg κ n))
  | .tup l=> .tup (l.map (qg κ n))
  | .clo f a b=> .clo f (a.map (qg κ n)) (b.map (qg κ n))
  | .ifc t x=> .ifc t (qg κ n x)
  | .ref i o=>match κ i with|some k=> .ref k o|none=> .junk
  | .rsl i o m=>match κ i with|some k=> .rsl k o m|none=> .junk
  | .mref i=>match κ i with|some k=> .mref k|none=> .junk
  | .yld i=>match κ i with|some k=> .yld k|none=> .junk
  | .rsr i m=>match κ i with|some k=> .rsr k m|none=> .junk
  | .ptr l o=> .ptr l o
  | .sl l m=> .sl l m
  | .mp a b c d=> .mp a b c d
  | .junk=> .junk
theorem IG{β β2:Bm}{S:Fu}{w:World}{κ:Nat->Fq}(hκ:∀i k,κ i=some k->β2 k=β i):∀(n:Nat) (g:G) (v:Value),RV β S w g v->RV β2 S w (qg κ n g) v
 |0,g,v,h=> .junk v
 |n+1,g,v,h=>by
  have ih:=IG (w:=w) (S:=S) hκ n;have el:∀(l:Bk) (us:Array Value),(∀(i:Nat) (g:G) (u:Value),l[i]?=some g->us[i]?=some u->RV β S w g u)->∀(i:Nat) (g:G) (u:Value),(l.map (qg κ n))[i]?=some g->us[i]?=some u->RV β2 S w g u:=by grind
  have im:∀(l:Bk) (us:Array Value),(∀(i:Nat) (g:G) (u:Value),l[i]?=some g->us[i]?=some u->IV S w g u)->∀(i:Nat) (g:G) (u:Value),(l.map (qg κ n))[i]?=some g->us[i]?=some u->RV β2 S w g u:=by grind [RV]
  cases h with
  |imm _ _ h=>
   cases h with
   |lit=>exact .imm _ _ (.lit v)
   |agg l us hl h1 h=>exact .agg _ us (by grind) h1 (im l us h)
   |tup l us hl h=>exact .tup _ us (by grind) (im l us h)
   |ptr l o b off us hs hb hc h1 h=>exact .imm _ _ (.ptr l o b off us hs hb hc h1 h)
   |sl l m a cap us hn hm ha h1 h=>exact .imm _ _ (.sl l m a cap us hn hm ha h1 h)
   |clo f a b fs cs hf hc h h'=>exact .clo f _ _ fs cs (by grind) (by grind) (im a fs h) (im b cs h')
   |ifc t x u h=>exact .ifc t _ u (ih x u (.imm _ _ h))
   |mp ks vs ns clock b ents hs hb ho hl hk hn h=>exact .imm _ _ (.mp ks vs ns clock b ents hs hb ho hl hk hn h)
  |agg l us hl h1 h=>exact .agg _ us (by grind) h1 (el l us h)
  |tup l us hl h=>exact .tup _ us (by grind) (el l us h)
  |clo f a b fs cs hf hc h h'=>exact .clo f _ _ fs cs (by grind) (by grind) (el a fs h) (el b cs h')
  |ifc t x u h=>exact .ifc t _ u (ih x u h)
  |ref i o b C h=>grind [qg,RV]
  |rsl0 i o h=>grind [qg,RV]
  |rsl i o m b C o' cap h hn hm ho c=>grind [qg,RV]
  |mref i b C h=>grind [qg,RV]
  |rsr i m b C h hn hm=>grind [qg,RV]
  |yld i b C h=>grind [qg,RV]
  |junk=>exact .junk v
def Wu(κ:Nat->Fq)(l a:Bk):Prop:=a=l.map (qg κ 20)\/(a=l/\∀g∈l,bB g)
def RnE(κ:Nat->Fq)(l a:List (Value×G×Nat)):Prop:=a=l.map (λe=>(e.1,qg κ 20 e.2.1,e.2.2))\/(a=l/\∀e∈l,bB e.2.1)
def MB(κ:Nat->Fq)(o a:Ob):Prop:=a.t=o.t/\match o.x,a.x with
 |none,none=>Wu κ o.l a.l
 |some (.map es c),some (.map es' c')=>o.l=[]/\a.l=[]/\c'=c/\RnE κ es es'
 |_,_=>False
theorem Wu.get{β β2:Bm}{S:Fu}{w:World}{κ:Nat->Fq}{l l':Bk}(h:Wu κ l l')(hκ:∀i k,κ i=some k->β2 k=β i){j:Nat}{g':G}(hg:l'[j]?=some g'):∃g,l[j]?=some g/\∀v,RV β S w g v->RV β2 S w g' v:=by
 rcases h with rfl|⟨rfl,hi⟩
 .grind [IG]
 .exact⟨g',hg,λv hv=> .imm _ _ (hi g' (bO hg) _ _ _ _ hv)⟩
theorem Wu.len{κ:Nat->Fq}{l l':Bk}(h:Wu κ l l'):l'.length=l.length:=by
 rcases h with rfl|⟨rfl,_⟩
 .simp
 .rfl
theorem U8{β β2:Bm}{S:Fu}{w:World}{κ:Nat->Fq}(hκ:∀i k,κ i=some k->β2 k=β i){o o':Ob}(h:RO P β S w i o)(hr:MB κ o o')(hk:β2 k=β i):RO P β2 S w k o':=by
 obtain⟨t,l,x⟩:=o;obtain⟨t',m,a⟩:=o';obtain⟨e,hr⟩:=hr;simp only at e hr;subst e;rcases h with⟨h1,h2,h3⟩|⟨b,y,q,h1,h2,h3,h4,h5⟩|⟨b,C,cur,hx,h1,h2,h3,h4,h5,h6⟩
 .simp only at h2 h3;rcases h3 with rfl|rfl
  .cases a with
   |some a=>exact hr.elim
   |none=>exact .inl ⟨hk.trans h1,by have:=hr.len;grind,.inl rfl⟩
  grind
 .simp only at h1 h2;subst h1;cases y with
  |map es c=>
   cases a with
   |none=>exact hr.elim
   |some a=>
    cases a with
    |map es' c'=>
     obtain⟨_,e1,rfl,he⟩:=hr;refine .inr (.inl ⟨b,_,q,rfl,e1,hk.trans h3,h4,?_⟩);obtain⟨ents,g1,g2,d⟩:=h5;rcases he with rfl|⟨rfl,hi⟩
     .refine⟨ents,g1,by grind,λj kk g n hj=>?_⟩;grind [IG]
     .refine⟨ents,g1,g2,λj kk g n hj=>?_⟩;obtain⟨e,e1,e2,e3,e4⟩:=d j kk g n hj;exact⟨e,e1,e2,e3,.imm _ _ (hi _ (bO hj) _ _ _ _ e4)⟩
    |iter _ _ _ _=>exact hr.elim
    |loop _ _ _ _ _ _ _=>exact hr.elim
    |resv=>exact hr.elim
  |iter _ _ _ _=>grind
  |loop _ _ _ _ _ _ _=>grind
  |resv=>grind
 .simp only at hx h2 h3 h5 h6;subst hx;cases a with
  |some a=>exact hr.elim
  |none=>have hl:m.length=l.length:=Wu.len hr;refine .inr (.inr ⟨b,C,cur,rfl,hk.trans h1,h2,h3,h4,by grind,λj g hg=>?_⟩);obtain⟨g0,f,hv⟩:=Wu.get (S:=S) (w:=w) hr hκ hg;grind
section
variable {P:Bu}
theorem AiJ(n:Nat)(g:G):Wk P st ρ g (qg (Iu ρ) n g):=λcx a w β r v hv=>
 (IG (β2:=λi=>(dq ρ i).bind β) (λi k h=>by rw[Acg h];rfl) n g v hv).step (by grind) (by grind) (A3.refl _ _)
theorem AjJ(h:Wu (Iu ρ) l l'):∀(k:Nat) (g a:G),l[k]?=some g->l'[k]?=some a->Wk P st ρ g a:=λk g a h1 h2=>by
 rcases h with rfl|⟨rfl,hi⟩
 all_goals grind [AiJ,ry]
def Za(κ:Nat->Fq)(s b:Option Ob):Prop:=∀a,b=some a->∃ob,s=some ob/\MB κ ob a
theorem Aa9{o':Option Ob}{σ:aQ}(h1:dq ρ i=some j)(h:Za (Iu ρ) (ag st.σ j) o')(hr:Dp P st ρ σ):Dp P st ρ ((i,o')::σ):=λk d hk=>by
 rw[A9] at hk;split at hk
 .subst_vars;obtain⟨⟨t,l,x⟩,e,h2,h3⟩:=h d rfl;obtain⟨t',g,f⟩:=d;cases x with
  |none=>
   cases f with
   |some _=>exact h3.elim
   |none=>have hl:=Wu.len h3;simp only at hl;exact⟨j,_,h1,e,h2,by grind,(by grind),AjJ h3,trivial⟩
  |some x=>
   cases x with
   |map es c=>
    cases f with
    |none=>exact h3.elim
    |some f=>
     cases f with
     |map es' c'=>
      obtain⟨e1,e2,rfl,he⟩:=h3;simp only at e1 e2;subst e1 e2;refine⟨j,_,h1,e,h2,Dk _,λe=>e,(by grind),SV ?_ λk a a' b b' m n g1 g2=>?_,(by grind)⟩
      .rcases he with rfl|⟨rfl,_⟩
       .simp
       .rfl
      .rcases he with rfl|⟨rfl,hi⟩
       all_goals grind [AiJ,ry]
     |iter _ _ _ _=>exact h3.elim
     |loop _ _ _ _ _ _ _=>exact h3.elim
     |resv=>exact h3.elim
   |iter _ _ _ _=>grind
   |loop _ _ _ _ _ _ _=>grind
   |resv=>grind
 .exact hr k d hk
end
theorem bS{o:Option α}{f:α->Option β}{r:β}(h:o.bind f=some r):∃y,o=some y/\f y=some r:=Gf.1 h
theorem bC{c:Bool}{a b:Option α}{r:α}(h:(bif c then a else b)=some r):(c=true/\a=some r)\/(c=false/\b=some r):=by grind
def KN{σ ρ:Type}(step:σ->Option (σ⊕ρ)):Nat->σ->Option ρ
 |0,_=>none
 |n+1,s=>match step s with
  |none=>none
  |some (.inl s')=>KN step n s'
  |some (.inr r)=>some r
def FU:Nat:=4611686018427387904
def AH{σ ρ:Type}(step:σ->Option (σ⊕ρ))(s:σ):Option ρ:=KN step FU s
def ma{α β γ:Type}(x:α⊕β)(k:α->Option γ)(q:β->Option γ):Option γ:=match x with
 | .inl a=>k a
 | .inr b=>q b
def wI(z:Int):Int:=IntKind.i64.wrap z
def wU(z:Int):Nat:=(IntKind.u64.wrap z).toNat
def ah{α:Type}(l:List α):Int:=(l.length:Int)
def aS{α:Type}(l:List α)(i:Int):Option α:=if 0<=i then l[i.toNat]? else none
def ji{α:Type}(l:List α)(i:Int)(x:α):Option (List α):=if 0<=i/\i.toNat<l.length then some (l.set i.toNat x)else none
def tq{α:Type}(l:List α)(i:Int):Option (List α):=if 0<=i/\i.toNat<=l.length then some (l.take i.toNat)else none
def mc{α:Type}(l:List α)(i:Int):Option (List α):=if 0<=i/\i.toNat<=l.length then some (l.drop i.toNat)else none
def aT{α:Type}(b:Nat)(l r:List α):Option (List α):=if(l.length+r.length)*b<=140737488355328 then some (l++r)else none
def Gg(a b:Int):JQ:=if b=0 then none else some (IntKind.i64.wrap (a.tdiv b))
def u9(a b:Int):JQ:=if b=0 then none else some (a.tmod b)
def rP{α:Type}(b:Nat)(z:α)(n:Int):Option (List α):=if 0<=n/\b*n.toNat<=281474976710656/\n<=9223372036854775807 then some (List.replicate n.toNat z)else none
theorem cB{X:Option G}{t:Bool}(h:X=some (bG t))(e:t=b):X=some (bG b):=e▸h
def bq:Br->Code->Code
 |[],c=>c
 |0::r,.seq a _=>bq r a
 |1::r,.seq _ b=>bq r b
 |2::r,.block _ c=>bq r c
 |2::r,.loop c=>bq r c
 |3::r,.cond _ a _=>bq r a
 |4::r,.cond _ _ b=>bq r b
 |_,_=> .skip
def bE:Br->Code->List (St->Prop)->List Kf->List Kf
 |0::r,.seq a b,Bs,K=>bE r a Bs (.thn b::K)
 |1::r,.seq _ b,Bs,K=>bE r b Bs K
 |2::r,.block id c,Bs,K=>bE r c Bs (.blk id::K)
 |2::r,.loop c,B::Bs,K=>bE r c Bs (.lp B::K)
 |3::r,.cond _ a _,Bs,K=>bE r a Bs K
 |4::r,.cond _ _ b,Bs,K=>bE r b Bs K
 |_,_,_,K=>K
def LQ(m:Bool)(p:Br)(c:Code):Code⊕Exit:=bif m then .inr .normal else .inl (bq p c)
section
variable {P:Bu}
def Gp(P:Bu)(fn:Func)(Q:Exit->St->Prop)(Bs:List (St->Prop))(m:Bool)(p:Br)(st:St):Prop:=CQ P Q (bE p (ai fn) Bs []) st (LQ m p (ai fn))
theorem m8{Q:Exit->St->Prop}{K:List Kf}:∀(a:List Kf) (e:Exit) (s:St),dz P a (dz P K Q) e s->dz P (a++K) Q e s
 |[],e,s,h=>by obtain⟨s',l,h⟩:=h;grind [pQ]
 | .thn b::a,e,s,h=>by
  show dz P (.thn b::(a++K)) Q e s;unfold dz at h⊢;cases e with
  |normal=>unfold uE at h⊢;exact h.mono λe s h=>m8 a e s h
  |_=>unfold uE at h⊢;exact m8 a _ s h
 | .blk id::a,e,s,h=>by
  show dz P (.blk id::(a++K)) Q e s;unfold dz at h⊢;cases e with
  |exit i=>
   unfold pu at h⊢;by_cases hi:i=id
   .simp only[hi,if_true] at h⊢;exact m8 a _ s h
   .simp only[hi,if_false] at h⊢;exact m8 a _ s h
  |_=>unfold pu at h⊢;exact m8 a _ s h
 | .lp B::a,e,s,h=>by
  show dz P (.lp B::(a++K)) Q e s;unfold dz at h⊢;cases e with
  |normal=>grind [uE]
  |_=>unfold uE at h⊢;exact m8 a _ s h
theorem QQ{Q:Exit->St->Prop}{K a:List Kf}{m:Code⊕Exit}(h:CQ P (dz P K Q) a st m):CQ P Q (a++K) st m:=by
 cases m with
 |inl c=>exact Tr.mono h (by grind [m8])
 |inr e=>exact m8 a e st h
theorem Oi:Wk P st ρ (.lit (.slice none 0 0)) (.sl [] 0):=λcx a w β r v hv=>by rw[hv.lit_eq];exact .imm _ _ (.sl [] 0 none 0 (λ_=>undef) (Dk _) (Nat.zero_le _) aC aC aC)
theorem CE{i j:Nat}{ob:Ob}(h:dq ρ i=some j)(ho:ag st.σ j=some ob):Wk P st ρ (.lit (.slice none 0 0)) (.rsl i 0 0):=λcx a w β r v hv=>by grind [RV.lit_eq,RV,RO.at]
def QR(P:Bu)(σ:aQ)(ρ:DH)(cl:Bool):Nat->G->G->Option (JR×G)
 |0,_,_=>none
 |n+1,g,t=>match t with
  | .junk=>some ([],.junk)
  | .sl _ m'=>match g with
   | .sl l m=>some ([],.sl l m)
   | .lit (.slice none 0 0)=>some ([],.sl [] 0)
   | .rsl j o m=>match ag σ j with
    |some ob=>match bw P ob.t with
     |some s=>bif ρ.all λq=> !(Nat.beq q.2 j)then(bif Nat.beq o 0 then some ([ob.l.length=m'*s/\(∀x∈ob.l,bB x)/\m=m'],.sl ob.l m')else some ([o+m*s<=ob.l.length/\∀x∈ob.l,bB x],.sl ((ob.l.drop o).take (m*s)) m))else none
     |none=>none
    |none=>none
   |_=>none
  | .rsl i _ m'=>match g with
   | .rsl j o m=>match dq ρ i with
    |some k=>bif Nat.beq k j then some ([m=m'],.rsl i o m')else none
    |none=>none
   | .rsr j m=>match dq ρ i with
    |some k=>bif Nat.beq k j then some ([m=m'],.rsl i 0 m')else none
    |none=>none
   | .lit (.slice none 0 0)=>match dq ρ i with
    |some k=>match ag σ k with
     |some _=>some ([],.rsl i 0 0)
     |none=>none
    |none=>none
   |_=>none
  | .ref i _=>match g with
   | .ref j o=>match dq ρ i with
    |some k=>bif Nat.beq k j then some ([],.ref i o)else none
    |none=>none
   |_=>none
  | .mref i=>match g with
   | .mref j=>match dq ρ i with
    |some k=>bif Nat.beq k j then some ([],.mref i)else none
    |none=>none
   |_=>none
  | .ptr l' _=>match g with
   | .ptr l o=>some ([],.ptr l o)
   | .ref j o=>match ag σ j with
    |some ob=>bif ρ.all λq=> !(Nat.beq q.2 j)then(match Da (QR P σ ρ cl n) ob.l l' with
     |some (C,r)=>some (C++[∀x∈r,bB x],.ptr r o)
     |none=>none)else none
    |none=>none
   |_=>none
  | .mp _ _ _ _=>match g with
   | .mp ks vs ns c=>some ([],.mp ks vs ns c)
   | .mref j=>match ag σ j with
    |some ⟨_,_,some (.map es clock)⟩=>bif ρ.all λq=> !(Nat.beq q.2 j)then some ([∀e∈es,bB e.2.1],.mp (es.map (·.1)) (es.map (·.2.1)) (es.map (·.2.2)) clock)else none
    |_=>none
   |_=>none
  | .yld i=>match g with
   | .yld j=>match dq ρ i with
    |some k=>bif Nat.beq k j then some ([],.yld i)else none
    |none=>none
   |_=>none
  | .clo _ a' b'=>match g with
   | .clo f a b=>bif cl then(match Da (QR P σ ρ cl n) a a' with
    |some (C,r)=>match Da (QR P σ ρ cl n) b b' with
     |some (D,r')=>some (C++D,.clo f r r')
     |none=>none
    |none=>none)else some ([bB (.clo f a b)],.clo f a b)
   |_=>none
  | .agg l'=>match g with
   | .agg l=>match Da (QR P σ ρ cl n) l l' with
    |some (C,r)=>some (C,.agg r)
    |none=>none
   |_=>none
  | .tup l'=>match g with
   | .tup l=>match Da (QR P σ ρ cl n) l l' with
    |some (C,r)=>some (C,.tup r)
    |none=>none
   |_=>none
  |_=>bif nF 20 g then some ([],g)else none
theorem nE{st:St}{ρ:DH}{cl:Bool}:∀(n:Nat) (g t:G) (C:JR) (a:G),QR P st.σ ρ cl n g t=some (C,a)->(∀p∈C,p)->Wk P st ρ g a
 |0,_,_,_,_,h,_=>by cases h
 |n+1,g,t,C,a,h,b=>by
  unfold QR at h;split at h
  .grind [FE]
  .split at h
   .grind [ry,FC]
   .grind [Oi]
   .rename_i j o m;split at h
    .rename_i ob ho;split at h
     .rename_i s hs;cases hk:(ρ.all λq=> !(Nat.beq q.2 j)) with
      |false=>grind
      |true=>
       rw[hk] at h;have hk':∀p∈ρ,p.2≠j:=by grind [Nat.beq_refl]
       simp only[ax] at h;cases hz:Nat.beq o 0 with
       |true=>rw[hz] at h;obtain rfl:=bc hz;cases h;obtain⟨h1,h2,rfl⟩:=b _ (List.mem_singleton.2 rfl);have:=BS (P:=P) (st:=st) (ρ:=ρ) (o:=0) (n:=m) hk' ho hs (by rw[h1];omega) h2;grind
       |false=>rw[hz] at h;cases h;have h1:=b _ (List.mem_singleton.2 rfl);grind [BS]
     .cases h
    .cases h
   .cases h
  .split at h
   .split at h
    .rename_i k hr;cases hb:Nat.beq k _ with
     |false=>rw[hb] at h;cases h
     |true=>rw[hb] at h;obtain rfl:=bc hb;cases h;obtain rfl:=b _ (List.mem_singleton.2 rfl);exact P4 hr
    .cases h
   .split at h
    .rename_i k hr;cases hb:Nat.beq k _ with
     |false=>rw[hb] at h;cases h
     |true=>rw[hb] at h;obtain rfl:=bc hb;cases h;obtain rfl:=b _ (List.mem_singleton.2 rfl);exact Ajb hr
    .cases h
   all_goals grind [CE]
  .grind [bc,VH]
  .grind [bc,SU]
  .split at h
   .grind [ry,Ah]
   .rename_i j o;split at h
    .rename_i ob ho;cases hk:(ρ.all λq=> !(Nat.beq q.2 j)) with
     |false=>grind
     |true=>
      rw[hk] at h;have hk':∀p∈ρ,p.2≠j:=by grind [Nat.beq_refl]
      simp only[ax] at h;split at h
      .rename_i C' r hl;cases h;obtain⟨k1,k2⟩:=io (Q:=Wk P st ρ) (λg t C a=>nE n g t C a) _ _ _ _ hl (λp hp=>b p (by grind));exact J7 hk' ho k1 k2 (b _ (by grind))
      .cases h
    .cases h
   .cases h
  .split at h
   .grind [ry,J5]
   .rename_i j;split at h
    .rename_i t l es clock ho;cases hk:(ρ.all λq=> !(Nat.beq q.2 j)) with
     |false=>grind
     |true=>
      rw[hk] at h;have hk':∀p∈ρ,p.2≠j:=by grind [Nat.beq_refl]
      cases h;exact HO hk' ho (b _ (by grind))
    .cases h
   .cases h
  .grind [bc,VI]
  .split at h
   .cases cl with
    |false=>cases h;exact ry (b _ (by grind))
    |true=>
     simp only[ax] at h;split at h
     .rename_i C' r hl;split at h
      .rename_i D r' c;cases h;obtain⟨k1,k2⟩:=io (Q:=Wk P st ρ) (λg t C a=>nE n g t C a) _ _ _ _ hl λp hp=>b p (by grind);obtain⟨m1,m2⟩:=io (Q:=Wk P st ρ) (λg t C a=>nE n g t C a) _ _ _ _ c λp hp=>b p (by grind);grind [VL]
      .cases h
     .cases h
   .cases h
  .split at h
   .split at h
    .rename_i C' r hl;cases h;obtain⟨k1,k2⟩:=io (Q:=Wk P st ρ) (λg t C a=>nE n g t C a) _ _ _ _ hl b;exact VJ k1 k2
    .cases h
   .cases h
  .split at h
   .split at h
    .rename_i C' r hl;cases h;obtain⟨k1,k2⟩:=io (Q:=Wk P st ρ) (λg t C a=>nE n g t C a) _ _ _ _ hl b;exact VK k1 k2
    .cases h
   .cases h
  grind [ry,aG]
inductive Rk where
 |row
 |clo
 |app (A B B' L:Bk)
 |any
def Wh(P:Bu)(σ:aQ)(ρ:DH)(cl:Bool)(fr:Fr):Fr->Option (JR×Fr)
 |[]=>some ([],[])
 |(k,t)::r=>match QR P σ ρ cl 20 (aD fr k) t with
  |some (C,g)=>match Wh P σ ρ cl fr r with
   |some (D,f)=>some (C++D,(k,g)::f)
   |none=>none
  |none=>none
theorem QS{st:St}{ρ:DH}{cl:Bool}:∀(r:Fr) (C:JR) (f:Fr),Wh P st.σ ρ cl st.fr r=some (C,f)->(∀p∈C,p)->J6 P st ρ f
 |[],C,f,h,_=>by cases h;exact HQ
 |(k,t)::r,C,f,h,a=>by
  unfold Wh at h;split at h
  .rename_i b g h1;split at h
   .rename_i D f1 h2;cases h;exact NF (nE 20 _ _ _ _ h1 λp hp=>a p (by grind)) (QS r _ _ h2 λp hp=>a p (by grind))
   .cases h
  .cases h
def Yz(kd:List (Nat×Rk)):Bool:=kd.any λq=>match q.2 with| .clo=>true|_=>false
def wkC(P:Bu)(σ:aQ)(ρ:DH)(kd:List (Nat×Rk))(i:Nat)(l a:Bk):Option (JR×Bk):=match kd.find? (λq=>Nat.beq q.1 i) with
 |some (_,.row)=>some ([∀g∈l,bB g],l)
 |some (_,.clo)=>none
 |some (_,.any)=>none
 |some (_,.app A B B' L)=>match Da (QR P σ ρ (Yz kd) 20) B B' with
  |some (C,B'')=>some ((l=A++B/\(∀g∈A,bB g)/\A++B''=L)::C,L)
  |none=>none
 |none=>Da (QR P σ ρ (Yz kd) 20) l a
theorem Wi{kd:List (Nat×Rk)}{C:JR}{r:Bk}(h:wkC P st.σ ρ kd i l l'=some (C,r))(a:∀p∈C,p):r.length=l.length/\∀(k:Nat) (g g':G),l[k]?=some g->r[k]?=some g'->Wk P st ρ g g':=by
 unfold wkC at h;split at h
 .cases h;exact⟨rfl,P8 (a _ (by grind))⟩
 .cases h
 .cases h
 .rename_i A B B' L _;split at h
  .rename_i b B'' hB;cases h;obtain⟨rfl,h2,rfl⟩:=a _ (List.mem_cons_self ..);obtain⟨k1,k2⟩:=io (Q:=Wk P st ρ) (by grind [nE]) _ _ _ _ hB (by grind);grind [ry]
  .cases h
 .exact io (Q:=Wk P st ρ) (by grind [nE]) _ _ _ _ h a
theorem My{st:St}{ρ:DH}{cl:Bool}{fr:Fr}:∀(r:Fr) (C:JR) (f:Fr),Wh P st.σ ρ cl fr r=some (C,f)->(∀p∈C,p)->∀d,Wk P st ρ (aD fr d) (aD f d)
 |[],C,f,h,_,d=>by cases h;exact FE
 |(k,t)::r,C,f,h,a,d=>by
  unfold Wh at h;split at h
  .rename_i b g h1;split at h
   .rename_i D f1 h2;cases h;rw[aO];split
    .rename_i e;subst e;exact nE 20 _ _ _ _ h1 λp hp=>a p (by grind)
    .exact My r _ _ h2 (λp hp=>a p (by grind)) d
   .cases h
  .cases h
def Wj(P:Bu)(σ:aQ)(ρ:DH)(cl:Bool):QN->Option QN->Option (JR×QN)
 | .loop ls pe n fr ps a b,some (.loop _ _ _ fr' _ _ _)=>match Wh P σ ρ cl fr fr' with
  |some (C,f)=>some (C,.loop ls pe n f ps a b)
  |none=>none
 | .map es cl,some (.map _ _)=>some ([∀q∈es,bB q.2.1],.map es cl)
 | .iter (some j) since seen last,some (.iter (some i) _ _ _)=>match dq ρ i with
  |some k=>bif Nat.beq k j then some ([],.iter (some i) since seen last)else none
  |none=>none
 |_,_=>none
theorem Tp{cl:Bool}{x:QN}{t:Option QN}{C:JR}{x':QN}(h:Wj P st.σ ρ cl x t=some (C,x'))(c:∀p∈C,p):Xk P st ρ x x'/\x≠ .resv:=by
 unfold Wj at h;split at h
 .grind [P7,My]
 .cases h;refine⟨SV rfl λk a a' b b' m d e1 e2=>?_,aC⟩;rw[e1] at e2;cases e2;exact⟨rfl,rfl,ry (c _ (List.mem_singleton.2 rfl) _ (bO e1))⟩
 all_goals grind [bc,P6]
def kdA(kd:List (Nat×Rk))(i:Nat):Bool:=kd.any λq=>Nat.beq q.1 i&&(match q.2 with| .any=>true|_=>false)
def Wl(P:Bu)(σ:aQ)(ρ:DH)(kd:List (Nat×Rk)):aQ->Option (JR×aQ)
 |[]=>some ([],[])
 |(i,o')::r=>bif kdA kd i then(match dq ρ i with
  |some j=>match Wl P σ ρ kd r with
   |some (D,τ)=>some (Za (Iu ρ) (ag σ j) o'::D,(i,o')::τ)
   |none=>none
  |none=>none)else match o' with
  |none=>Wl P σ ρ kd r
  |some ob'=>match dq ρ i with
  |some j=>match ag σ j with
   |some ⟨t,l,none⟩=>match wkC P σ ρ kd i l ob'.l with
    |some (C,l')=>match Wl P σ ρ kd r with
     |some (D,τ)=>some (C++D,(i,some ⟨t,l',none⟩)::τ)
     |none=>none
    |none=>none
   |some ⟨t,_,some x⟩=>match Wj P σ ρ (Yz kd) x ob'.x with
    |some (C,x')=>match Wl P σ ρ kd r with
     |some (D,τ)=>some (C++D,(i,some ⟨t,[],some x'⟩)::τ)
     |none=>none
    |none=>none
   |_=>none
  |none=>none
theorem CF{st:St}{ρ:DH}{kd:List (Nat×Rk)}:∀(r:aQ) (C:JR) (τ:aQ),Wl P st.σ ρ kd r=some (C,τ)->(∀p∈C,p)->Dp P st ρ τ
 |[],C,τ,h,_=>by cases h;exact BT
 |(i,o')::r,C,τ,h,a=>by
  unfold Wl at h;cases hk:kdA kd i with
  |true=>
   rw[hk] at h;simp only[ax] at h;split at h
   .rename_i j hr;split at h
    .rename_i D b h2;cases h;exact Aa9 hr (by simp_all) (CF r _ _ h2 (by grind))
    .cases h
   .cases h
  |false=>
  rw[hk] at h;simp only[Bf] at h;cases o' with
  |none=>exact CF r C τ h a
  |some ob'=>
  simp only at h;split at h
  .rename_i j hr;split at h
   .rename_i t l ho;split at h
    .rename_i c d h1;split at h
     .rename_i D b h2;cases h;obtain⟨k1,k2⟩:=Wi h1 λp hp=>a p (by grind);exact xP hr ho rfl rfl (by grind) k2 (CF r _ _ h2 λp hp=>a p (by grind))
     .cases h
    .cases h
   .rename_i t l0 x ho;split at h
    .rename_i c e h1;split at h
     .rename_i D b h2;cases h;obtain⟨k1,k2⟩:=Tp h1 λp hp=>a p (by grind);exact J8 hr ho rfl rfl k1 k2 (CF r _ _ h2 λp hp=>a p (by grind))
     .cases h
    .cases h
   .cases h
  .cases h
def zj:List Bj->St->St
 |[],st=>st
 |t::r,st=>zj r {st with σ:=(st.c,some ⟨t,[],none⟩)::st.σ,c:=st.c+1}
theorem CG:∀(l:List Bj) (st:St),Le P st (zj l st)
 |[],st=>Le.refl _
 |t::r,st=>Le.trans (by rintro cx a w ⟨β,h⟩;exact⟨_,h.virt t (k:=st.c) (Dk _)⟩) (CG r _)
def Ade(P:Bu)(vs:List Bj)(ρ:DH)(kd:List (Nat×Rk))(J:St)(s:St):Option (JR×St):=(λs=>bif ER ρ s.p then(match Wh P s.σ ρ (Yz kd) s.fr J.fr with
 |some (C,f)=>match Wl P s.σ ρ kd J.σ with
  |some (D,τ)=>some (C++D,⟨s.n,s.gl,f,τ,cR ρ,s.p,s.r⟩)
  |none=>none
 |none=>none)else none) (zj vs s)
theorem Ae7{kd:List (Nat×Rk)}{s:St}{C:JR}(h:Ade P vs ρ kd J s=some (C,S))(a:∀p∈C,p):Le P s S:=by
 refine(CG vs s).trans ?_;unfold Ade at h;generalize zj vs s=st at h⊢;dsimp only at h;cases hk:ER ρ st.p with
 |false=>grind
 |true=>
  rw[hk] at h;simp only[ax] at h;split at h
  .rename_i b f h1;split at h
   .rename_i D τ h2;cases h;simp only[ER,bA] at hk;obtain⟨⟨k1,k2⟩,k3⟩:=hk;refine NG ρ rfl rfl rfl (λi hi=>?_) (λi c j h1 h2=>?_) (λq hq=>Va hq) (QS _ _ _ h1 λp hp=>a p (by grind)) (CF _ _ _ h2 λp hp=>a p (by grind)) rfl
    .grind [bc]
    .have:=GV.1 (GV.1 k2 _ (Gt h1)) _ (Gt h2);grind [Nat.beq_refl,bc]
   .cases h
  .cases h
def gob:G->Fq
 | .ref i _=>some i
 | .rsl i _ _=>some i
 | .rsr i _=>some i
 | .mref i=>some i
 |_=>none
def prw(t g:G):DH:=match gob t with
 |some i=>match gob g with
  |some j=>[(i,j)]
  |none=>[]
 |none=>[]
def Al3(σ:aQ):Nat->Bk->Br
 |0,_=>[]
 |n+1,l=>l.flatMap λg=>match g with
  | .rsl i _ _=>[i]
  | .ref i _=>match ag σ i with
   |some ⟨_,l',none⟩=>Al3 σ n l'
   |_=>[]
  |_=>[]
def An9(l:Br):Br:=l.foldr (λi r=>bif r.any (Nat.beq i)then r else i::r) []
def aM(J s:St)(R:Br):Nat->DH->DH
 |0,M=>M
 |n+1,M=>aM J s R n (M++M.flatMap λq=>bif R.any (Nat.beq q.1) then[]else match ag J.σ q.1,ag s.σ q.2 with
  |some ⟨_,l',none⟩,some ⟨_,l,none⟩=>(List.zipWith prw l' l).flatten
  |_,_=>[])
def aRw(J:St):Br:=An9 (Al3 J.σ 4 (J.fr.map (·.2)))
def aMr(J s:St):DH:=aM J s (aRw J) 2 (J.fr.flatMap λq=>prw q.2 (aD s.fr q.1))
def aUn(J s:St):Br:=(aRw J).filter λi=>(aMr J s).all λq=> !(Nat.beq q.1 i)
def aVs(J s:St):List Bj:=(aUn J s).map λi=>match ag J.σ i with
 |some ob=>ob.t
 |none=>0
def ixN(i:Nat):Br->Fq
 |[]=>none
 |j::r=>bif Nat.beq i j then some 0 else(ixN i r).map (·+1)
def aRo(J s:St):DH:=J.σ.map λq=>(q.1,match dq (aMr J s) q.1 with
 |some j=>j
 |none=>match ixN q.1 (aUn J s) with
  |some k=>s.c+k
  |none=>q.1)
def aKd(kd:List (Nat×Rk))(J:St):List (Nat×Rk):=match kd with
 |[]=>(aRw J).map λi=>(i,.row)
 |_=>kd
def Iw(P:Bu)(vs:List Bj)(ρ:DH)(kd:List (Nat×Rk))(J:St)(s:St):Option (JR×St):=match ρ with
 |[]=>Ade P (aVs J s) (aRo J s) (aKd kd J) J s
 |_=>Ade P vs ρ (aKd kd J) J s
theorem sR{kd:List (Nat×Rk)}{s:St}{C:JR}(h:Iw P vs ρ kd J s=some (C,S))(a:∀p∈C,p):Le P s S:=by unfold Iw at h;grind [Ae7]
def pR(A:List HP):JR:=A.map (·.p)
theorem wR(A:List HP):∀p∈pR A,p:=λp hp=>by obtain⟨x,_,rfl⟩:=EO.1 hp;exact x.t
def Xm(P:Bu)(hs:List Hn)(m:Code⊕Exit)(K:List Kf)(vs:List Bj)(ρ:DH)(kd:List (Nat×Rk))(J st:St):Option (Prop×Br×JR×St):=match sy P hs 1000000 1000 m K st with
 |some (C,u,.fin .normal s)=>match Iw P vs ρ kd J s with
  |some (L,s')=>some (C,u,L,s')
  |none=>none
 |_=>none
def Xn(P:Bu)(hs:List Hn)(m:Code⊕Exit)(K:List Kf)(vs:List Bj)(ρ:DH)(kd:List (Nat×Rk))(J st:St):Option (Prop×Br×JR×St×(St->Prop)):=match sy P hs 1000000 1000 m K st with
 |some (C,u,.bk B s)=>match Iw P vs ρ kd J s with
  |some (L,s')=>some (C,u,L,s',B)
  |none=>none
 |_=>none
def Xo(P:Bu)(hs:List Hn)(m:Code⊕Exit)(K:List Kf)(fn:Func)(r:G)(st:St):Option (Prop×Br×JR×G):=match sy P hs 1000000 1000 m K st with
 |some (C,u,.fin e s)=>match tc e,vR P s fn.results.toList with
  |true,some gs=>match KW P s.σ 20 (iU gs) r with
   |some (L,g)=>some (C,u,L,g)
   |none=>none
  |_,_=>none
 |_=>none
def ky{β:Type}(x:Option (Prop×Br×β)):Br:=match x with|some (_,u,_)=>u|none=>[0]
def Ua{β:Type}(A:List HP)(x:Option (Prop×Br×β))(j:β):Prop:=qe A (ky x)=true/\x=some (psU A (ky x),ky x,j)
theorem Ua.out{β:Type}{A:List HP}{x:Option (Prop×Br×β)}{j:β}(h:Ua A x j):∃C u,C/\x=some (C,u,j):=⟨_,_,kA h.1,h.2⟩
variable [M:Mix P] {fn:Func} {Q:Exit->St->Prop} {r:G} {Bs Bs':List (St->Prop)} {m:Bool} {p q:Br} {st:St}
theorem Gh{gl:CC}{gs:Bk}(hf:P.funcs[f]?=some fn)(h:Gp P fn (tH P fn r) [] false [] ⟨fn.ntmps,gl,bQ 0 gs,[],0,0,false⟩)(hb:fn.body.isSome=true:=by kernel_rfl)(hn:Nat.ble gs.length fn.ntmps=true:=by kernel_rfl):ba P gl f gs r:=Y7 fn hf hb hn h
def Wm(fn:Func)(Bs Bs':List (St->Prop))(p q:Br):List Kf:=(bE p (ai fn) Bs []).take ((bE p (ai fn) Bs []).length-(bE q (ai fn) Bs' []).length)
theorem yl(q:Br){J:St}(A O:List HP)(kk:Gp P fn Q Bs' true q J)(vs:List Bj:=[])(ρ:DH:=[])(kd:List (Nat×Rk):=[])(hk:Ua A (Xm P (bK A) (LQ m p (ai fn)) (Wm fn Bs Bs' p q) vs ρ kd J st) (pR O,J):=by exact⟨aH,aH⟩)(eK:Wm fn Bs Bs' p q++bE q (ai fn) Bs' []=bE p (ai fn) Bs []:=by kernel_rfl):Gp P fn Q Bs m p st:=by
 obtain⟨C,u,a,e⟩:=hk.out;unfold Gp;rw[<-eK];refine QQ ?_;unfold Xm at e;split at e
 .rename_i b c s h1;split at e
  .rename_i L s' h2;cases e;exact oK M.mx (out:= .fin .normal s) (Q:=dz P (bE q (ai fn) Bs' []) Q) ⟨_,sR h2 (wR O),kk⟩ 1000 _ _ _ _ _ h1 a
  .cases e
 .cases e
theorem jw{J:St}{B:St->Prop}(A O:List HP)(hB:B J)(vs:List Bj:=[])(ρ:DH:=[])(kd:List (Nat×Rk):=[])(hk:Ua A (Xn P (bK A) (LQ m p (ai fn)) (bE p (ai fn) Bs []) vs ρ kd J st) (pR O,J,B):=by exact⟨aH,aH⟩):Gp P fn Q Bs m p st:=by
 obtain⟨C,u,a,e⟩:=hk.out;unfold Gp;unfold Xn at e;split at e
 .rename_i b c B' s h1;split at e
  .rename_i L s' h2;cases e;exact oK M.mx (out:= .bk B s) ⟨_,sR h2 (wR O),hB⟩ 1000 _ _ _ _ _ h1 a
  .cases e
 .cases e
theorem Ar(A O:List HP)(hk:Ua A (Xo P (bK A) (LQ m p (ai fn)) (bE p (ai fn) Bs []) fn r st) (pR O,r):=by exact⟨aH,aH⟩):Gp P fn (tH P fn r) Bs m p st:=by
 obtain⟨C,u,a,e⟩:=hk.out;unfold Gp;unfold Xo at e;split at e
 .rename_i b c x s h1;split at e
  .rename_i gs hx hg;split at e
   .rename_i L g hq;cases e;refine oK M.mx (out:= .fin x s) ⟨s,Le.refl _,?_⟩ 1000 _ _ _ _ _ h1 a;grind [tH,eO,gh,rR,wR]
   .cases e
  .cases e
 .cases e
def Xp(P:Bu)(hs:List Hn)(m:Code⊕Exit)(K:List Kf)(fn:Func)(t:Bj)(st:St):Option (Prop×Br×Prop×Nat×Bk):=match sy P hs 1000000 1000 m K st with
 |some (C,u,.fin e s)=>match tc e,fn.results with
  |true,⟨[.tmp x]⟩=>match aD s.fr x with
   | .rsl i 0 n=>match ag s.σ i with
    |some ⟨t',l,none⟩=>bif Nat.beq t t'&&Nat.beq s.p 0 then some (C,u,∀g∈l,bB g,n,l)else none
    |_=>none
   | .lit (.slice none 0 0)=>bif Nat.beq s.p 0 then some (C,u,∀g∈([]:Bk),bB g,0,[])else none
   |_=>none
  |_,_=>none
 |_=>none
theorem YE{fn:Func}{st:St}{x:Tmp}(hp:st.p=0)(h:fn.results= #[.tmp x])(hv:aD st.fr x= .lit (.slice none 0 0)){e:Exit}(he:e= .normal\/e= .ret):Z1 P (zE P fn (.rsl 0 0 0) [(0,some ⟨t,[],none⟩)]) e st:=by
 refine⟨zj [t] st,CG _ _,he,[.lit (.slice none 0 0)],[(0,st.c)],?_,?_,?_,?_,?_⟩
 .grind [jV,zj]
 .grind [zj]
 .intro a b j h1 h2;have a1:=fj h1;have a2:=fj h2;grind
 .show Wk P _ _ (.lit (.slice none 0 0)) _;exact CE (j:=st.c) (by simp[dq]) (by show ag ((st.c,some ⟨t,[],none⟩)::st.σ) st.c=_;rw[A9,BB rfl])
 .exact xP (j:=st.c) (by simp[dq]) (by show ag ((st.c,some ⟨t,[],none⟩)::st.σ) st.c=_;rw[A9,BB rfl]) rfl rfl (Dk _) (by grind) BT
theorem EI{l:Bk}(A:List HP)(hi:∀g∈l,bB g)(a:Nat:=n)(hn:a=n:=by rfl)(hk:Ua A (Xp P (bK A) (LQ m p (ai fn)) (bE p (ai fn) Bs []) fn t st) (∀g∈l,bB g,a,l):=by exact⟨aH,aH⟩):Gp P fn (zE P fn (.rsl 0 0 n) [(0,some ⟨t,l,none⟩)]) Bs m p st:=by
 subst hn;obtain⟨C,u,b,e⟩:=hk.out;unfold Gp;unfold Xp at e;split at e
 .rename_i d f x s h1;split at e
  .rename_i c hx hres;have hr:fn.results= #[.tmp c]:=hres;split at e
   .rename_i i h hv;split at e
    .rename_i t' j ho;cases hb:(Nat.beq t t'&&Nat.beq s.p 0) with
     |false=>grind
     |true=>rw[hb] at e;simp only[bA] at hb;obtain rfl:=bc hb.1;have hp:=bc hb.2;simp only[ax,Fe,Ft] at e;obtain⟨rfl,rfl,_,rfl,rfl⟩:=e;exact oK M.mx (out:= .fin x s) ⟨s,Le.refl _,(by grind [aan,eO])⟩ 1000 _ _ _ _ _ h1 b
    .cases e
   .rename_i hv;cases hb:Nat.beq s.p 0 with
    |false=>grind
    |true=>rw[hb] at e;have hp:=bc hb;simp only[ax,Fe,Ft] at e;obtain⟨rfl,rfl,_,rfl,rfl⟩:=e;exact oK M.mx (out:= .fin x s) (YE hp hr hv (eO hx)) 1000 _ _ _ _ _ h1 b
   .cases e
  .cases e
 .cases e
def Xq(P:Bu)(hs:List Hn)(m:Code⊕Exit)(K:List Kf)(fn:Func)(ρ:DH)(kd:List (Nat×Rk))(r:G)(σ1:aQ)(st:St):Option (Prop×Br×JR×G×aQ):=match sy P hs 1000000 1000 m K st with
 |some (C,u,.fin e s)=>match tc e,vR P s fn.results.toList with
  |true,some gs=>match QR P s.σ ρ (Yz kd) 20 (iU gs) r,Wl P s.σ ρ kd σ1 with
   |some (L,g),some (D,τ)=>bif ER ρ s.p then some (C,u,L++D,g,τ)else none
   |_,_=>none
  |_,_=>none
 |_=>none
theorem ZT{r:G}{σ1:aQ}(A O:List HP)(ρ:DH)(kd:List (Nat×Rk))(hk:Ua A (Xq P (bK A) (LQ m p (ai fn)) (bE p (ai fn) Bs []) fn ρ kd r σ1 st) (pR O,r,σ1):=by exact⟨aH,aH⟩):Gp P fn (zE P fn r σ1) Bs m p st:=by
 obtain⟨C,u,a,e⟩:=hk.out;unfold Gp;unfold Xq at e;split at e
 .rename_i b c x s h1;split at e
  .rename_i gs hx hg;split at e
   .rename_i L g D τ h2 h3;cases hb:ER ρ s.p with
    |false=>grind
    |true=>
     rw[hb] at e;simp only[ax,Fe,Ft] at e;obtain⟨rfl,rfl,hL,rfl,rfl⟩:=e;have hp:∀p∈L++D,p:=by grind [wR]
     simp only[ER,bA] at hb;obtain⟨⟨k1,k2⟩,k3⟩:=hb;refine oK M.mx (out:= .fin x s) ⟨s,Le.refl _,eO hx,gs,ρ,gh hg,λi hi=>?_,λi d j h1 h2=>?_,nE 20 _ _ _ _ h2 λp hq=>hp p (by grind),CF _ _ _ h3 λp hq=>hp p (by grind)⟩ 1000 _ _ _ _ _ h1 a
     .grind [bc]
     .have:=GV.1 (GV.1 k2 _ (Gt h1)) _ (Gt h2);grind [Nat.beq_refl,bc]
   .cases e
  .cases e
 .cases e
theorem ZU{σ0 σ1:aQ}{a:Nat}(hf:P.funcs[f]?=some fn)(h:Gp P fn (zE P fn r σ1) [] false [] ⟨fn.ntmps,gl,bQ 0 gs,σ0,a,a,false⟩)(hp:∀i,i<a->∃ob,ag σ0 i=some ob)(hb:fn.body.isSome=true:=by kernel_rfl)(hn:Nat.ble gs.length fn.ntmps=true:=by kernel_rfl):OU P gl f gs σ0 a a r σ1:=
 Ee hf (c:=ai fn) (by unfold ai;cases hx:fn.body<;>grind) (Ef hn) hp (Tr.leQ (by exact h))
theorem wS{r:G}{i c:Nat}(hc:aK P f=true)(hF:OU P gl f gs0 [(0,some ⟨t,l,none⟩)] 1 1 r [(0,some ⟨t,l,none⟩)])(hr:bB r)(hl:∀g∈l,bB g)(h:i<c)(hln:gs0.length=gs.length)(hi:∀(j:Nat) (g d:G),gs[j]?=some g->gs0[j]?=some d->(∃o n,g= .rsl i o n/\d= .rsl 0 o n)\/(d=g/\bB g)):oJ P gl f gs [(i,some ⟨t,l,none⟩)] c r [] c:=by
 intro o st y xs ats fst cap ho hd hx hgs hgl u e;have hob:ag st.σ i=some ⟨t,l,none⟩:=by simp_all
 subst hgl;subst e;refine B1 (fst:=fst) (cap:=cap) (σ':=[]++st.σ) (c':=st.c) (r':=r) [(0,i)] [(i,0)] [] ho hd hx hc hF (by grind) (λj g d h1 h2=>?_) (λa b j h1 h2=>?_) aC (NH (j:=i) (by simp[dq]) aC hob rfl rfl (Dk _) (λk g d h1 h2=>?_) BY) (Dk _) (λk j hk hlt=>?_) (λk k' j h1 h2=>?_) (by grind) (λk s hk=>?_) (FH hr);all_goals grind [VY,dq,FG,FH]
theorem Tq{c:Nat}(h:dq [(c,0),(c+1,1),(c+2,2),(c+3,3)] k=some j):k=c+j/\j<4:=by have a:=fj h;grind
theorem m9(c:Nat){j:Nat}(h:j<4):dq [(c,0),(c+1,1),(c+2,2),(c+3,3)] (c+j)=some j:=by
 have e1:(c+1==c)=false:=aC;have e2:(c+2==c)=false:=aC;have e3:(c+3==c)=false:=aC;have e4:(c+2==c+1)=false:=aC;have e5:(c+3==c+1)=false:=aC;have e6:(c+3==c+2)=false:=aC;match j,h with
 |0,_=>grind [dq]
 |1,_=>grind [dq]
 |2,_=>grind [dq]
 |3,_=>simp[dq,List.lookup,e3,e5,e6]
theorem Ts{i t2 t3:Bj}{l1 l2 l3:Bk}{r r':G}{c:Nat}(hc:aK P f=true)(hF:OU P gl f gs [] 0 0 r [(0,some ⟨t0,l0,none⟩),(1,some ⟨i,l1,none⟩),(2,some ⟨t2,l2,none⟩),(3,some ⟨t3,l3,none⟩)])(hg:∀g∈gs,bB g)(hr:Rn [(c,0),(c+1,1),(c+2,2),(c+3,3)] r r')(h0:∀g∈l0,bB g)(h1:∀g∈l1,bB g)(h2:∀g∈l2,bB g)(h3:∀g∈l3,bB g):oJ P gl f gs [] c r' [(c,some ⟨t0,l0,none⟩),(c+1,some ⟨i,l1,none⟩),(c+2,some ⟨t2,l2,none⟩),(c+3,some ⟨t3,l3,none⟩)] (c+4):=by
 intro o st y xs ats fst cap ho hd hx hgs hgl s h;subst hgl;subst h;have key:∀(k:Nat) (l:Bk),(∀g∈l,bB g)->∀(x:Nat) (g d:G),l[x]?=some g->l[x]?=some d->Rn [(st.c,0),(st.c+1,1),(st.c+2,2),(st.c+3,3)] g d:=λk l hl x g d a b=>by rw[a] at b;cases b;exact FH (hl g (bO a))
 refine B1 (fst:=fst) (cap:=cap) (c':=st.c+4) (r':=r') [] [(st.c,0),(st.c+1,1),(st.c+2,2),(st.c+3,3)] [] ho hd hx hc hF (by rw[hgs]) (λj g d a b=>?_) (by simp[dq]) aC BY aa (λk j hk hlt=>?_) (λk k' j a b=>?_) (λq hq=>?_) (λk n hk=>?_) hr
 .grind [FG]
 .have:=Tq hk;omega
 .have a1:=Tq a;grind [Tq]
 .simp at hq;rcases hq with rfl|rfl|rfl|rfl<;>simp<;>omega
 .simp only[List.cons_append,Px,A9] at hk;split at hk
  .cases hk;subst_vars;exact .inl ⟨0,_,m9 st.c (j:=0) BU,by grind,rfl,Dk _,λe=>e,⟨rfl,rfl⟩,key 0 _ h0⟩
  .split at hk
   .cases hk;subst_vars;exact .inl ⟨1,_,m9 st.c (j:=1) BU,by simp[A9],rfl,Dk _,λe=>e,⟨rfl,rfl⟩,key 0 _ h1⟩
   .split at hk
    .cases hk;subst_vars;exact .inl ⟨2,_,m9 st.c (j:=2) BU,by simp[A9],rfl,Dk _,λe=>e,⟨rfl,rfl⟩,key 0 _ h2⟩
    .split at hk
     .cases hk;subst_vars;exact .inl ⟨3,_,m9 st.c (j:=3) BU,by simp[A9],rfl,Dk _,λe=>e,⟨rfl,rfl⟩,key 0 _ h3⟩
     grind [dq]
theorem VA{gl:CC}{gs:Bk}{n c:Nat}(hc:aK P f=true)(hF:iV P gl f gs t0 n l0)(hg:∀g∈gs,bB g)(h0:∀g∈l0,bB g):oJ P gl f gs [] c (.rsl c 0 n) [(c,some ⟨t0,l0,none⟩)] (c+1):=by intro o st y xs ats fst cap ho hd hx hgs hgl h d;subst hgl;subst d;refine B1 (fst:=fst) (cap:=cap) (c':=st.c+1) (r':= .rsl st.c 0 n) (r:= .rsl 0 0 n) (σ1:=[(0,some ⟨t0,l0,none⟩)]) [] [(st.c,0)] [] ho hd hx hc hF (by rw[hgs]) (λj g i a b=>?_) (by simp[dq]) aC BY aa (λk j hk hlt=>?_) (λk k' j a b=>?_) (by grind) (λk e hk=>?_) (BZ (by simp[dq]));all_goals grind [FG,dq,FH]
theorem OW{gl:CC}{gs:Bk}{n:Nat}{l:Bk}(hf:P.funcs[f]?=some fn)(h:Gp P fn (zE P fn (.rsl 0 0 n) [(0,some ⟨t,l,none⟩)]) [] false [] ⟨fn.ntmps,gl,bQ 0 gs,[],0,0,false⟩)(hb:fn.body.isSome=true:=by kernel_rfl)(hn:Nat.ble gs.length fn.ntmps=true:=by kernel_rfl):iV P gl f gs t n l:=
 NJ hf (cd:=ai fn) (by unfold ai;cases hx:fn.body<;>grind) (Ef hn) (Tr.leQ (by exact h))
theorem dNx(b:Br)(h:Gp P fn Q Bs false b st)(e:bE q (ai fn) Bs []= .thn (bq b (ai fn))::bE b (ai fn) Bs []:=by kernel_rfl):Gp P fn Q Bs true q st:=by unfold Gp;rw[e];exact wm h
def Xr(P:Bu)(hs:List Hn)(m:Code⊕Exit)(K:List Kf)(vs:List Bj)(ρ:DH)(kd:List (Nat×Rk))(J st:St):Option (Prop×Br×JR×St×Code×List Kf):=match sy P hs 1000000 1000 m K st with
 |some (C,u,.lp c K' s)=>match Iw P vs ρ kd J s with
  |some (L,s')=>some (C,u,L,s',c,K')
  |none=>none
 |_=>none
def Oj(fn:Func)(Bs:List (St->Prop))(b:Br):List Kf:=(bE b (ai fn) (Bs++[λ_=>False]) []).tail
theorem pN{σ ρ':Type}{step:σ->Option (σ⊕ρ')}{s0:σ}{x:ρ'}(S:σ->St)(b:Br)(hl:AH step s0=some x)(A O:List HP)(h:∀(B:St->Prop) (s:σ) (v:σ⊕ρ'),step s=some v->(∀s',v= .inl s'->B (S s'))->(∀y,v= .inr y->y=x)->Gp P fn Q (Bs++[B]) false b (S s))(vs:List Bj:=[])(ρ:DH:=[])(kd:List (Nat×Rk):=[])
  (hk:Ua A (Xr P (bK A) (LQ m p (ai fn)) (bE p (ai fn) Bs []) vs ρ kd (S s0) st) (pR O,S s0,bq b (ai fn),Oj fn Bs b):=by exact⟨aH,aH⟩)
  (e2:∀B,bE b (ai fn) (Bs++[B]) []= .lp B::Oj fn Bs b:=by intro B;kernel_rfl):Gp P fn Q Bs m p st:=by
 obtain⟨C,u,d,e⟩:=hk.out
 unfold Gp
 unfold Xr at e
 split at e
 rotate_left
 .cases e
 rename_i f g c K' s1 h1
 split at e
 rotate_left
 .cases e
 rename_i L s' h2
 simp only[Fe,Ft] at e
 obtain⟨rfl,rfl,rfl,rfl,rfl,rfl⟩:=e
 refine oK M.mx (out:= .lp (bq b (ai fn)) (Oj fn Bs b) s1) (Tr.le ?_ (sR h2 (wR O))) 1000 _ _ _ _ _ h1 d
 unfold AH at hl
 have key:=TJ (P:=P) (Q:=Q) (c:=bq b (ai fn)) (K:=Oj fn Bs b) (ι:={q:Nat×σ//KN step q.1 q.2=some x}) ⟨λq=>S q.1.2,λq=>q.1.1⟩ ⟨(FU,s0),hl⟩ (by
  rintro⟨⟨n,s⟩,hn⟩;have hn:KN step n s=some x:=hn;cases n with
  |zero=>cases hn
  |succ n=>
   unfold KN at hn;split at hn
   .cases hn
   .rename_i s' hs;have:=h (λt=>t=S s'/\KN step n s'=some x) s (.inl s') hs (λa e=>by cases e;exact⟨rfl,hn⟩) (λy e=>by cases e);unfold Gp at this;rw[e2] at this;refine Tr.mono this λe t ht=>?_;unfold dz at ht⊢;cases e with
    |normal=>unfold uE at ht⊢;obtain⟨u,hu,rfl,hx⟩:=ht;exact⟨_,hu,⟨(n,s'),hx⟩,rfl,Nat.lt_succ_self _⟩
    |_=>grind [uE]
   .rename_i y hs;cases hn;have:=h (λt=>False) s (.inr x) hs (λa e=>by cases e) (λy e=>by cases e;rfl);unfold Gp at this;rw[e2] at this;refine Tr.mono this λe t ht=>?_;unfold dz at ht⊢;cases e with
    |normal=>unfold uE at ht⊢;obtain⟨u,hu,hx⟩:=ht;exact hx.elim
    |_=>grind [uE])
 exact key
def wT:Code->Nat
 | .cond (.tmp d) _ _=>d
 | .region id _ _=>2000000+id
 |_=>1000000
def Xs(P:Bu)(hs:List Hn)(cut:Nat)(m:Code⊕Exit)(K:List Kf)(vs:List Bj)(ρ:DH)(kd:List (Nat×Rk))(J st:St):Option (Prop×Br×JR×St×Code×List Kf):=match sy P hs cut 1000 m K st with
 |some (C,u,.ct c K' s)=>match Iw P vs ρ kd J s with
  |some (L,s')=>some (C,u,L,s',c,K')
  |none=>none
 |_=>none
theorem pO(q:Br)(J:St)(A O:List HP)(kk:Gp P fn Q Bs false q J)(vs:List Bj:=[])(ρ:DH:=[])(kd:List (Nat×Rk):=[])
  (hk:Ua A (Xs P (bK A) (wT (bq q (ai fn))) (LQ m p (ai fn)) (bE p (ai fn) Bs []) vs ρ kd J st) (pR O,J,bq q (ai fn),bE q (ai fn) Bs []):=by exact⟨aH,aH⟩):Gp P fn Q Bs m p st:=by
 obtain⟨C,u,a,e⟩:=hk.out
 unfold Gp
 unfold Xs at e
 split at e
 rotate_left
 .cases e
 rename_i b d c K' s1 h1
 split at e
 rotate_left
 .cases e
 rename_i L s' h2
 simp only[Fe,Ft] at e
 obtain⟨rfl,rfl,rfl,rfl,rfl,rfl⟩:=e
 exact oK M.mx (out:= .ct (bq q (ai fn)) (bE q (ai fn) Bs []) s1) (Tr.le kk (sR h2 (wR O))) 1000 _ _ _ _ _ h1 a
theorem Ix(q:Br)(J:St)(kk:Gp P fn Q Bs true q J)(h:Gp P fn Q Bs true q J->Gp P fn Q Bs m p st):Gp P fn Q Bs m p st:=h kk
end
def hr(d:Nat){c b:Bool}(t:c=b):HP:=⟨some (.r d b),c=b,t⟩
def hw(d:Nat)(L:Bk){p:Prop}(t:p):HP:=⟨some (.w d L),p,t⟩
def hk(d:Nat)(L:Bk)(M:Nat){p:Prop}(t:p):HP:=⟨some (.k d L M),p,t⟩
def hq(d:Nat)(ts:Bk)(O:List HP){P:Bu}{gl:CC}{f:FuncId}{gs:Bk}{g:G}(t:ba P gl f gs g):HP:=⟨some (.q d ts g),IJ (O.map (·.p))/\ba P gl f gs g,by
 refine⟨?_,t⟩;induction O with
 |nil=>trivial
 |cons x r ih=>exact⟨x.t,ih⟩⟩
def ho(d:Nat)(ts:Bk)(O:List HP){P:Bu}{gl:CC}{f:FuncId}{gs:Bk}{ty:Bj}{m:Nat}{l:Bk}(t:iV P gl f gs ty m l)(h:∀g∈l,∃v,g= .lit v):HP:=⟨some (.o d ts ty m l),IJ (O.map (·.p))/\iV P gl f gs ty m l/\∀g∈l,∃v,g= .lit v,by
 refine⟨?_,t,h⟩;induction O with
 |nil=>trivial
 |cons x r ih=>exact⟨x.t,ih⟩⟩
def hm(d:Nat){P:Bu}{t:Bj}{ok:Bool}{gm gk g:G}(h:∀σ,bL P σ t ok gm gk=some g):HP:=⟨some (.m d g),∀σ,bL P σ t ok gm gk=some g,h⟩
theorem bf:∀g∈([]:Bk),bB g:=by grind
theorem aY{x:G}{l:Bk}(hx:bB x)(h:∀g∈l,bB g):∀g∈x::l,bB g:=by grind
theorem jf{c:Nat}(hc:aK P f=true)(hF:ba P gl f gs g)(hg:∀x∈gs,bB x):oJ P gl f gs [] c g [] c:=λo st y xs ats fst cap ho hd hx hgs hgl b a=>by subst hgs;subst hgl;subst a;exact wt ho hd hx hc hg hF
structure Uk (P:Bu) (gl:CC) (fid:FuncId) (fst cap:Bk) {α β:Type} (ca:α->Bk) (cb:β->G) (p:α->Option β):Prop where
 ok:aK P fid=true
 im1:∀g∈fst,bB g
 im2:∀g∈cap,bB g
 fn:∀x r,p x=some r->ba P gl fid (fst++ca x++cap) (cb r)
theorem Uk.im{P:Bu}{gl:CC}{fid:FuncId}{fst cap:Bk}{α β:Type}{ca:α->Bk}{cb:β->G}{p:α->Option β}(h:Uk P gl fid fst cap ca cb p):bB (.clo (.func fid) fst cap):=L8 h.im1 h.im2
theorem Uk.cs{P:Bu}{gl:CC}{fid:FuncId}{fst cap:Bk}{α β:Type}{ca:α->Bk}{cb:β->G}{p:α->Option β}(h:Uk P gl fid fst cap ca cb p){x:α}{r:β}(e:p x=some r)(hx:∀g∈ca x,bB g){c:Nat}:oJ P gl fid (fst++ca x++cap) [] c (cb r) [] c:=by grind [Uk,jf]
def hz(d:Nat)(R:Br){P:Bu}{gl:CC}{f:FuncId}{gs:Bk}{σR:aQ}{c:Nat}{g:G}{U:aQ}{c':Nat}(t:oJ P gl f gs σR c g U c'):HP:=⟨some (.z d R g U c'),oJ P gl f gs σR c g U c',t⟩
theorem cF{t:Bool}(h:ba P gl f gs (bG t))(e:t=b):ba P gl f gs (bG b):=e▸h
theorem cS{σR U:aQ}{c c':Nat}{t:Bool}(h:oJ P gl f gs σR c (bG t) U c')(e:t=b):oJ P gl f gs σR c (bG b) U c':=e▸h
theorem cV{X:DC->DC->Option G}{t:Bool}(h:∀p q,X p q=some (bG t))(e:t=b):∀p q,X p q=some (bG b):=e▸h
def OX(f:G->G->G):Bk->Bk->Bk
 |g::r,t::r'=>f g t::OX f r r'
 |_,_=>[]
def nz:Nat->G->G->G
 |0,g,_=>g
 |n+1,g,t=>match t with
  | .sl _ _=>match g with
   | .lit (.slice none 0 0)=> .sl [] 0
   |g=>g
  | .agg l'=>match g with
   | .agg l=> .agg (bif Nat.beq l.length l'.length then OX (nz n) l l' else l)
   |g=>g
  |_=>g
theorem SO{f:G->G->G}:∀(l t:Bk),l.length=t.length->(OX f l t).length=l.length
 |[],[],_=>rfl
 |g::r,t::r',h=>by simp only[OX,List.length_cons,SO r r' (by grind)]
theorem sS{f:G->G->G}:∀(l t:Bk),l.length=t.length->∀(i:Nat) (g':G),(OX f l t)[i]?=some g'->∃g t0,l[i]?=some g/\g'=f g t0
 |[],[],_,i,g',h=>by simp[OX] at h
 |g::r,t::r',h,i,g',hg=>by
  cases i with
  |zero=>grind [OX]
  |succ i=>simp only[OX,List.getElem?_cons_succ] at hg;simpa using sS r r' (by grind) i g' hg
theorem UX{S:Fu}{w:World}:∀(n:Nat) (g t:G) (v:Value),IV S w g v->IV S w (nz n g t) v
 |0,g,t,v,h=>h
 |n+1,g,t,v,h=>by
  unfold nz;split
  .split
   .cases h;exact .sl [] 0 none 0 (λ_=>undef) (Dk _) (Nat.zero_le _) aC aC aC
   .exact h
  .split
   .rename_i b _ l;cases hb:Nat.beq l.length b.length with
    |false=>exact h
    |true=>
     have hl:=bc hb;cases h with
     |agg _ us h2 h1 hr=>refine .agg _ us (by grind [SO]) h1 λi c u hg hu=>?_;obtain⟨g,t0,a,rfl⟩:=sS _ _ hl i c hg;exact UX n g t0 u (by grind)
   .exact h
  .exact h
theorem UY{r:G}(gs:Bk)(h:ba P gl f ts r)(hl:gs.length=ts.length:=by rfl)(e:OX (nz 20) gs ts=ts:=by kernel_rfl):ba P gl f gs r:=λw S vs hS hG hsz a=>by refine h w S vs hS hG aa λi g u hg hu=>?_;grind [sS,UX]
theorem Gj{f:α->Bk}(hf:∀x,∀g∈f x,∃v,g= .lit v)(l:List α):∀g∈l.flatMap f,∃v,g= .lit v:=by grind
def wY(z:Int):UInt8:=UInt8.ofNat (IntKind.u8.wrap z).toNat
theorem YG(z:Int):0<=IntKind.u64.wrap z:=by show 0<=z%18446744073709551616;grind
theorem zk(z:Int):((wU z:Nat):Int)=IntKind.u64.wrap z:=Int.toNat_of_nonneg (YG z)
theorem C8(z:Int):some (G.lit (.int .u64 (IntKind.u64.wrap z)))=some (uG (wU z)):=by rw[zk]
theorem gV(a b:Int):lD .add (uG a) (uG b)=some (uG (wU (a+b))):=by rw[zk];rfl
theorem YH(a b:Int):lD .sub (uG a) (uG b)=some (uG (wU (a-b))):=by rw[zk];rfl
theorem na(a b:Int):lD .mul (uG a) (uG b)=some (uG (wU (a*b))):=by rw[zk];rfl
theorem iD(a b:Nat)(h:b≠0):lD .rem (uG a) (uG b)=some (uG ((a%b:Nat):Int)):=by show(if(b:Int)=0 then none else some (uG (Int.tmod a b)))=_;grind
theorem zm(a b:Nat)(h:b≠0):lD .quo (uG a) (uG b)=some (uG (wU (a/b:Nat))):=by show(if(b:Int)=0 then none else some (uG (IntKind.u64.wrap (Int.tdiv a b))))=_;grind [zk]
theorem Tt{b r:Int}(h:Gg a b=some r):lD .quo (iG a) (iG b)=some (iG r):=by unfold Gg at h;show(if b=0 then none else some (iG (IntKind.i64.wrap (a.tdiv b))))=_;grind
theorem KO{b r:Int}(h:u9 a b=some r):lD .rem (iG a) (iG b)=some (iG r):=by unfold u9 at h;show(if b=0 then none else some (iG (a.tmod b)))=_;grind
def CH(a b:Nat):Fq:=if b=0 then none else some (a%b)
theorem YI{a b r:Nat}(h:CH a b=some r):lD .rem (uG a) (uG b)=some (uG r):=by grind [CH,iD]
def Fv(a b:Int):Int:=if b>a then b else a
def iI(a b:Int):Int:=if b<a then b else a
abbrev sG(s:CY):G:= .lit (.string ⟨s.toArray⟩)
abbrev Iy:G:= .lit (.slice none 0 0)
theorem YJ(z:Int):((wY z).toNat:Int)=IntKind.u8.wrap z:=by
 have h1:0<=IntKind.u8.wrap z/\IntKind.u8.wrap z<256:=by show 0<=z%256/\z%256<256;grind
 grind [wY,UInt8.toNat_ofNat']
theorem YK(a b:UInt8):lD .add (gY a) (gY b)=some (gY (wY ((a.toNat:Int)+(b.toNat:Int)))):=by show some (G.lit (.int .u8 (IntKind.u8.wrap _)))=some (G.lit (.int .u8 ((wY _).toNat:Int)));rw[YJ]
def Gk(s:CY):Option CY:=if s.length<=9223372036854775807 then some s else none
theorem Iz(z:Int):some (G.lit (.int .u8 (IntKind.u8.wrap z)))=some (gY (wY z)):=by
 have h1:0<=IntKind.u8.wrap z/\IntKind.u8.wrap z<256:=by show 0<=z%256/\z%256<256;grind
 grind [wY,UInt8.toNat_ofNat']
theorem Hb{l:List α}{i:Int}{x:α}(h:aS l i=some x):0<=i/\l[i.toNat]?=some x:=by grind [aS]
section
variable {P:Bu} {ts te:Bj} {k:Nat} {α:Type} {f:α->Bk}
theorem AQ.ixZ(R:AQ P ts te k f){l:List α}{i:Int}{x:α}(h:aS l i=some x):fh P ts (aE f l) i=some (.ptr (l.flatMap f) (i.toNat*k)):=by obtain⟨h1,h2⟩:=Hb h;grind [ix]
theorem AQ.ptZ(R:AQ P ts te k f)(ha:fg P te=some true){l:List α}{i:Int}{x:α}(h:aS l i=some x):dN P te (l.flatMap f) (i.toNat*k)=some (.agg (f x)):=R.pt ha (Hb h).2
theorem AQ.p1Z(R:AQ P ts te 1 f)(ha:fg P te=some false){l:List α}{i:Int}{x:α}(h:aS l i=some x){g:G}(hg:f x=[g]:=by rfl):dN P te (l.flatMap f) (i.toNat*1)=some g:=R.pt1 ha (Hb h).2 hg
theorem AQ.fdZ(R:AQ P ts te k f){t:Bj}(ha:fg P t=some false){l:List α}{i:Int}{x:α}{g:G}(j:Nat)(h:aS l i=some x)(hg:(f x)[j]?=some g:=by rfl):dN P t (l.flatMap f) (i.toNat*k+j)=some g:=R.fd ha (Hb h).2 hg
theorem AQ.fs(R:AQ P ts te k f){t:Bj}{n:Nat}(ha:fg P t=some true)(hs:bw P t=some n){l:List α}{i j:Nat}{x:α}(h:l[i]?=some x)(hj:j+n<=k):dN P t (l.flatMap f) (i*k+j)=some (.agg (((f x).drop j).take n)):=by have hb:=l9 (k:=k) h;have e:=wQ (f:=f) (k:=k) R.ln h;grind [dN,len,List.drop_drop,List.drop_take]
theorem AQ.fsZ(R:AQ P ts te k f){t:Bj}{n:Nat}(ha:fg P t=some true)(hs:bw P t=some n)(j:Nat)(hj:j+n<=k){l:List α}{i:Int}{x:α}(h:aS l i=some x):dN P t (l.flatMap f) (i.toNat*k+j)=some (.agg (((f x).drop j).take n)):=R.fs ha hs (Hb h).2 hj
theorem AQ.ixrZ(R:AQ P ts te k f)(j:Nat){l:List α}{i:Int}{x:α}(h:aS l i=some x):fh P ts (.rsl j 0 l.length) i=some (.ref j (0+i.toNat*k)):=by obtain⟨h1,h2⟩:=Hb h;have:=R.ixr j (o:=0) h2;grind
theorem AQ.pt0Z(R:AQ P ts te k f)(ha:fg P te=some true){l:List α}{i:Int}{x:α}(h:aS l i=some x):dN P te (l.flatMap f) (0+i.toNat*k)=some (.agg (f x)):=by grind [ptZ]
theorem AQ.p10Z(R:AQ P ts te 1 f)(ha:fg P te=some false){l:List α}{i:Int}{x:α}(h:aS l i=some x){g:G}(hg:f x=[g]:=by rfl):dN P te (l.flatMap f) (0+i.toNat*1)=some g:=by grind [p1Z]
theorem AQ.fd0Z(R:AQ P ts te k f){t:Bj}(ha:fg P t=some false){l:List α}{i:Int}{x:α}{g:G}(j:Nat)(h:aS l i=some x)(hg:(f x)[j]?=some g:=by rfl):dN P t (l.flatMap f) (0+i.toNat*k+j)=some g:=by grind [fdZ]
theorem AQ.fs0Z(R:AQ P ts te k f){t:Bj}{n:Nat}(ha:fg P t=some true)(hs:bw P t=some n)(j:Nat)(hj:j+n<=k){l:List α}{i:Int}{x:α}(h:aS l i=some x):dN P t (l.flatMap f) (0+i.toNat*k+j)=some (.agg (((f x).drop j).take n)):=by grind [fsZ]
theorem sT{l l':List α}{i:Int}{x:α}(h:ji l i x=some l'):0<=i/\i.toNat<l.length/\l'=l.set i.toNat x:=by grind [ji]
theorem Tu{l l':List α}{i:Int}{x:α}(h:ji l i x=some l'):∃y,aS l i=some y:=by obtain⟨h1,h2,_⟩:=sT h;exact⟨l[i.toNat],by grind [aS]⟩
theorem AQ.ixsZ(R:AQ P ts te k f)(j:Nat){l l':List α}{i:Int}{x:α}(h:ji l i x=some l'):fh P ts (.rsl j 0 l.length) i=some (.ref j (0+i.toNat*k)):=by grind [AQ,Tu,ixrZ]
theorem wW(hk:∀x,(f x).length=k)(x:α):∀(l:List α) (i:Nat),i<l.length->(l.flatMap f).take (i*k)++f x++(l.flatMap f).drop (i*k+k)=(l.set i x).flatMap f
 |[],i,h=>by cases h
 |y::r,0,h=>by grind
 |y::r,i+1,h=>by
  have ih:=wW hk x r i (by grind);rw[List.set_cons_succ,List.flatMap_cons,List.flatMap_cons,<-ih];have e1:(f y++r.flatMap f).take ((i+1)*k)=f y++(r.flatMap f).take (i*k):=by grind [Nat.succ_mul]
  have e2:(f y++r.flatMap f).drop ((i+1)*k+k)=(r.flatMap f).drop (i*k+k):=by rw[List.drop_append,hk,List.drop_of_length_le (by grind),Px];grind
  grind
theorem AQ.putZ(R:AQ P ts te k f){l l':List α}{i:Int}{x:α}(h:ji l i x=some l'):(f x).length=k/\0+i.toNat*k+k<=(l.flatMap f).length/\(l.flatMap f).take (0+i.toNat*k)++f x++(l.flatMap f).drop (0+i.toNat*k+k)=l'.flatMap f:=by obtain⟨h1,h2,rfl⟩:=sT h;grind [AQ,len,wW]
theorem AQ.putF(R:AQ P ts te k f){l l':List α}{i:Int}{x x':α}(h:ji l i x'=some l')(hx:aS l i=some x)(a n:Nat){gs:Bk}(hg:gs.length=n)(d:a+n<=k)(hf:f x'=(f x).take a++gs++(f x).drop (a+n)):gs.length=n/\0+i.toNat*k+a+n<=(l.flatMap f).length/\(l.flatMap f).take (0+i.toNat*k+a)++gs++(l.flatMap f).drop (0+i.toNat*k+a+n)=l'.flatMap f:=by
 obtain⟨h1,h2,rfl⟩:=sT h;obtain⟨_,hx⟩:=Hb hx;have e0:l.set i.toNat x=l:=by apply List.ext_getElem?;grind
 have b:=l9 (k:=k) (EA h2);have c:=wW R.ln x l i.toNat h2;rw[e0] at c;have e:=wW R.ln x' l i.toNat h2;refine⟨hg,?_,?_⟩
 .rw[R.len];omega
 .rw[Nat.zero_add,<-e,hf];have la:((l.flatMap f).take (i.toNat*k)).length=i.toNat*k:=by grind [len]
  have lx:=R.ln x;generalize hA:(l.flatMap f).take (i.toNat*k)=A at*;generalize hB:(l.flatMap f).drop (i.toNat*k+k)=B at*;rw[<-c];have e1:(A++f x++B).take (i.toNat*k+a)=A++(f x).take a:=by rw[List.append_assoc,List.take_append,la,List.take_of_length_le aa,Nat.add_sub_cancel_left,List.take_append_of_le_length aa]
  have e2:(A++f x++B).drop (i.toNat*k+a+n)=(f x).drop (a+n)++B:=by rw[List.append_assoc,List.drop_append,la,List.drop_of_length_le aa,Px,show i.toNat*k+a+n-i.toNat*k=a+n by omega,List.drop_append_of_le_length aa]
  grind
theorem jx{b:Nat}{l r y:List α}(h:aT b l r=some y):(l.length+r.length)*b<=140737488355328/\y=l++r:=by grind [aT]
def bF:Br->Bk->Bk
 |[],l=>l
 |k::r,l=>bF r (l.set k Iy)
theorem el{α:Type}(l:List α):l.length=l.length:=rfl
theorem AQ.al(R:AQ P ts te k f)(l:List α){m:Nat}(e:m=l.length:=by rfl):(l.flatMap f).length=l.length*k/\(∀x∈l.flatMap f,bB x)/\m=l.length:=⟨R.len l,R.imm l,e⟩
theorem hZ{l l':List α}{i:Int}{x:α}(h:ji l i x=some l'):l.length=l'.length:=by obtain⟨_,_,rfl⟩:=sT h;simp
def dg(d:Nat)(R:AQ P ts te k f){b:Nat}{l r y:List α}(h:aT b l r=some y):HP:=ha d (y.flatMap f) y.length (p:=(l.flatMap f).length=l.length*k/\0+r.length*k<=(r.flatMap f).length/\(l.length+r.length)*b<=140737488355328/\l.flatMap f++((r.flatMap f).drop 0).take (r.length*k)=y.flatMap f/\l.length+r.length=y.length) (by obtain⟨h1,rfl⟩:=jx h;grind [AQ.len])
def eu(d:Nat)(R:AQ P ts te k f){b:Nat}{l r y:List α}(h:aT b l r=some y):HP:=ha d (y.flatMap f) y.length (p:=(l.flatMap f).length=l.length*k/\(r.flatMap f).length=r.length*k/\(l.length+r.length)*b<=140737488355328/\l.flatMap f++r.flatMap f=y.flatMap f/\l.length+r.length=y.length) (by obtain⟨h1,rfl⟩:=jx h;grind [AQ.len])
def YL(d:Nat)(R:AQ P ts te k f){b:Nat}{r y:List α}(h:aT b [] r=some y):HP:=ha d (y.flatMap f) y.length (p:=True/\0+r.length*k<=(r.flatMap f).length/\(0+r.length)*b<=140737488355328/\[]++((r.flatMap f).drop 0).take (r.length*k)=y.flatMap f/\0+r.length=y.length) (by obtain⟨h1,rfl⟩:=jx h;grind [AQ.len])
def wX(d:Nat)(R:AQ P ts te k f){b:Nat}{r y:List α}(h:aT b [] r=some y):HP:=ha d (y.flatMap f) y.length (p:=True/\(r.flatMap f).length=r.length*k/\(0+r.length)*b<=140737488355328/\[]++r.flatMap f=y.flatMap f/\0+r.length=y.length) (by obtain⟨h1,rfl⟩:=jx h;grind [AQ.len])
def Tv(d:Nat)(R:AQ P ts te k f){b:Nat}{l y:List α}{x:α}(h:aT b l [x]=some y)(c:Bk)(hc:c.length=k):HP:=ha d (l.flatMap f++c) y.length (p:=(l.flatMap f).length=l.length*k/\0+1*k<=c.length/\(l.length+1)*b<=140737488355328/\l.flatMap f++(c.drop 0).take (1*k)=l.flatMap f++c/\l.length+1=y.length) (by obtain⟨h1,rfl⟩:=jx h;grind [AQ.len])
theorem AQ.app(R:AQ P ts te k f){b:Nat}{l y:List α}{x:α}(h:aT b l [x]=some y):(∀g∈l.flatMap f,bB g)/\l.flatMap f++f x=y.flatMap f:=by obtain⟨h1,rfl⟩:=jx h;grind [imm]
def ZV(R:AQ P ts te k f){b:Nat}{l y:List α}{x:α}(h:aT b l [x]=some y)(c:Bk):HP:=hc (p:=l.flatMap f++c=l.flatMap f++c/\(∀g∈l.flatMap f,bB g)/\l.flatMap f++f x=y.flatMap f) (by grind [AQ.app])
theorem ym{l y:List α}{i:Int}(h:tq l i=some y):0<=i/\i.toNat<=l.length/\y=l.take i.toNat:=by grind [tq]
theorem yn{l y:List α}{i:Int}(h:mc l i=some y):0<=i/\i.toNat<=l.length/\y=l.drop i.toNat:=by grind [mc]
theorem AQ.preZI(R:AQ P ts te k f){l y:List α}{i:Int}(h:tq l i=some y):ig P ts (aE f l) none (some i)=some (aE f y):=by obtain⟨h1,h2,rfl⟩:=ym h;simp only[ig,R.el,R.sz,aL,aE];grind [AQ,yk]
theorem AQ.sufZI(R:AQ P ts te k f){l y:List α}{i:Int}(h:mc l i=some y):ig P ts (aE f l) (some i) none=some (aE f y):=by obtain⟨h1,h2,rfl⟩:=yn h;simp only[ig,R.el,R.sz,aL,aE];grind [AQ,len,sQ]
theorem AQ.preZ(R:AQ P ts te k f)(j:Nat){l y:List α}{i:Int}(h:tq l i=some y):ig P ts (.rsl j 0 l.length) none (some i)=some (.rsl j 0 i.toNat):=by grind [ym,pre,Int.toNat_of_nonneg]
theorem AQ.sufZ(R:AQ P ts te k f)(j:Nat){l y:List α}{i:Int}(h:mc l i=some y):ig P ts (.rsl j 0 l.length) (some i) none=some (.rsl j (0+i.toNat*k) (l.length-i.toNat)):=by grind [yn,suf,Int.toNat_of_nonneg]
theorem KP{b:Nat}{z:α}{n:Int}{l:List α}(h:rP b z n=some l):0<=n/\b*n.toNat<=281474976710656/\n<=9223372036854775807/\l=List.replicate n.toNat z:=by grind [rP]
theorem Wn(v:Value)(n:Nat):bN [v] n=List.replicate n v:=by unfold bN;apply List.ext_getElem;all_goals grind
theorem QT{x:α}(hg:f x=[g])(n:Nat):(List.replicate n x).flatMap f=List.replicate n g:=by induction n<;>grind
theorem mk1(R:AQ P ts te 1 f){v:Value}{b:Nat}{x:α}{n:Int}{l:List α}(h:rP b x n=some l)(hz:jj P te=some [v])(hb:(P.info? te).map (·.bytes)=some b)(hx:f x=[.lit v]):tI P ts (iG n) (iG n)=some (te,l.flatMap f,l.length):=by obtain⟨h1,h2,h3,rfl⟩:=KP h;grind [AQ,tI,Nat.beq_refl,Nk,Wn,List.map_replicate,QT]
def hmk(d:Nat)(R:AQ P ts te 1 f){v:Value}{b:Nat}{x:α}{n:Int}{l:List α}(h:rP b x n=some l)(hz:jj P te=some [v]:=by kernel_rfl)(hb:(P.info? te).map (·.bytes)=some b:=by kernel_rfl)(hx:f x=[.lit v]:=by rfl):HP:=hk d (l.flatMap f) l.length (mk1 R h hz hb hx)
def CI(i:Nat)(gs gs0:Bk):Prop:=∀(j:Nat) (g g':G),gs[j]?=some g->gs0[j]?=some g'->(∃o n,g= .rsl i o n/\g'= .rsl 0 o n)\/(g'=g/\bB g)
theorem wZ{i:Nat}:CI i [] []:=λj g a h=>by simp at h
theorem w5{i o n:Nat}(h:CI i gs gs0):CI i (.rsl i o n::gs) (.rsl 0 o n::gs0):=λj g a h1 h2=>by
 cases j with
 |zero=>grind
 |succ j=>exact h j g a (by grind) (by grind)
theorem CJ{i:Nat}{g0:G}(hg:bB g0)(h:CI i gs gs0):CI i (g0::gs) (g0::gs0):=λj g a h1 h2=>by
 cases j with
 |zero=>grind
 |succ j=>exact h j g a (by grind) (by grind)
theorem eB{gs:Bk}(h:gs.all (nF 20)=true):∀g∈gs,bB g:=by grind [aG]
theorem rn4{c a b d e:Nat}:Rn [(c,0),(c+1,1),(c+2,2),(c+3,3)] (.agg [.rsl 0 0 a,.rsl 1 0 b,.rsl 2 0 d,.rsl 3 0 e]) (.agg [.rsl c 0 a,.rsl (c+1) 0 b,.rsl (c+2) 0 d,.rsl (c+3) 0 e]):=VZ rfl λi g h h1 h2=>by
 match i with
 |0=>simp at h1 h2;subst h1;subst h2;exact BZ (m9 c (j:=0) BU)
 |1=>grind [BZ,m9]
 |2=>grind [BZ,m9]
 |3=>grind [BZ,m9]
 |n+4=>simp at h1
end
end Go.Proofs.YtjbfcillbjiajaaGreatDoor
