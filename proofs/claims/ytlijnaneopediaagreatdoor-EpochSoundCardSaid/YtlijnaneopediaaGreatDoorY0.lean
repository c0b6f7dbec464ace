/- Texts. -/
import Derived.Laws.Bits64b
import Derived.Test.YtlijnaneopediaaGreatDoorD9
namespace Go.Proofs.YtlijnaneopediaaGreatDoor
set_option linter.unusedSectionVars false
set_option linter.unusedVariables false
set_option linter.unusedSimpArgs false
open Go.RowKit Tryz
variable (gl:Cd)
variable {α:Type}{a b clock i j k n since:Nat}{t:Bn}{es:List (Value×G×Nat)}{st:St}{fid:FuncId}{R R':Ad}{o:Oper}{x y:Dq}{seen:Bq}{d m:Int}{g:G}{ops:Array Oper}{rest:IH}{P:Br}
section
variable {P:Br}
theorem ZH{st:St}{l:Bk}{vs:Bk}(ho:ag st.σ i=some ⟨t,l,some (.map es clock)⟩)(hl:vs.length=es.length)(hi:∀(j:Nat) (e:Value×G×Nat) (g:G),es[j]?=some e->vs[j]?=some g->ve P st e.2.1 g):ve P st (.mref i) (.mp (es.map (·.1)) vs (es.map (·.2.2)) clock):=λcx a w β r v hv=>by
 obtain⟨b,C,hb,rfl⟩:=hv.mref_form;rcases r.ob i _ ho with⟨_,_,h3⟩|⟨b',x,o,h1,h2,h3,h4,h5⟩|⟨b',C',cur,h1,_⟩
 .grind
 .cases h1;have c:=hb;rw[h3] at hb;cases hb;obtain⟨ents,rfl,e2,e3⟩:=h5;refine .mp _ _ _ _ _ ents (r.sep i _ _ _ ho c) (r.lt ho c) h4 aa ?_ ?_ λj g e hg he=>?_
  .apply List.ext_getElem?;grind
  .apply List.ext_getElem?;grind
  .have hlt:=(cr hg).1;obtain⟨⟨k,d,n⟩,hj⟩:∃q,es[j]?=some q:=⟨_,EH aa⟩;obtain⟨e',h6,h7,h8,h9⟩:=e3 j k d n hj;rw[he] at h6;cases h6;exact hi j _ g hj hg cx a w β r _ h9
 .cases h1
theorem OJ{K V:Type}{kv:K->Value}{vg vf:V->G}{m:FM K V}(ho:ag st.σ i=some ⟨t,[],some (.map (m.es.map λe=>(kv e.1,vg e.2.1,e.2.2)) m.clk)⟩)(h:∀e∈m.es,ve P st (vg e.2.1) (vf e.2.1)):ve P st (.mref i) (m.g kv vf):=by
 have:=ZH (P:=P) (vs:=m.es.map λe=>vf e.2.1) ho aC λj e g h1 h2=>by rw[LO,DG] at h1 h2;obtain⟨x,hx,rfl⟩:=h1;obtain⟨y,hy,rfl⟩:=h2;rw[hx] at hy;cases hy;exact h x (bO hx)
 rw[Iu,Iu] at this;exact this
theorem ON{gl:Cd}{gs gs':Bk}{σR:aQ}{g:G}{c:Nat}(hc:aK P fid=true)(hF:ba P gl fid gs' g)(hr:X8 g)(hl:gs'.length=gs.length)(hz:∀st:St,(∀i o,ag σR i=some o->ag st.σ i=some o)->∀(i:Nat) (x y:G),gs[i]?=some x->gs'[i]?=some y->ve P st x y):oJ P gl fid gs σR c g [] c:=λo st y xs ats fst cap ho hd hx hgs hgl b a=>by subst hgs;subst hgl;subst a;exact Ai ho hd hx hc hl (by grind [WG]) hF hr
end
abbrev tRl:Bn:=119
abbrev tMc:Bn:=116
abbrev ZI:Bn:=115
abbrev Xc:Bn:=117
abbrev tMv:Bn:=189
abbrev tMe:Bn:=188
abbrev tGu:Bn:=191
abbrev Acw:G:= .lit (.pointer none)
abbrev cdG(x:DP):G:= .agg (bv x)
def nM(k:Int):Nat:=4+k.toNat
abbrev Xd(f:Nat->Nat)(m:FM Int AA):List (Value×G×Nat):=m.es.map λe=>(JN e.1,.ref (f (nM e.1)) 0,e.2.2)
def gpG(f:Nat->Nat)(k:Nat)(x:AA):G:=match x.guard with
 |none=>Acw
 |some _=> .ref (f (7+k)) 0
def guC(f:Nat->Nat)(k:Nat)(x:CA):Bk:=[iG x.id.By,iG x.id.Seq,uG x.id.Sum,aE cZ x.guards,iG x.need,iG x.wait,.mref (f (10+k)),bG x.objected,iG x.last]
def roM(f:Nat->Nat)(R:Ad)(k:Nat):Option Ob:=(R.members.get (k:Int)).map λx=>⟨tMe,[iG x.role,gpG f k x],none⟩
def roG(f:Nat->Nat)(R:Ad)(k:Nat):Option Ob:=((R.members.get (k:Int)).bind (·.guard)).map λx=>⟨tGu,guC f k x,none⟩
def roV(R:Ad)(k:Nat):Option Ob:=((R.members.get (k:Int)).bind (·.guard)).map λx=>Ng tMv BX iG x.vouches
abbrev roR(f:Nat->Nat)(R:Ad):Ob:=⟨tRl,[.mref (f 1),.mref (f 2),.mref (f 3),.mref (f 4),iG R.back],none⟩
abbrev Si(f:Nat->Nat)(R:Ad):Ob:=⟨Xc,[],some (.map (Xd f R.members) R.members.clk)⟩
def Bv(f:Nat->Nat)(R:Ad):Nat->Option Ob
 |0=>some (roR f R)
 |1=>some (Ng tMc JN cdG R.cards)
 |2=>some (Ng ZI JN bG R.in_)
 |3=>some (Ng ZI JN bG R.was)
 |4=>some (Si f R)
 |5=>roM f R 1
 |6=>roM f R 2
 |7=>roM f R 3
 |8=>roG f R 1
 |9=>roG f R 2
 |10=>roG f R 3
 |11=>roV R 1
 |12=>roV R 2
 |13=>roV R 3
 |_=>none
abbrev BG(f:Nat->Nat)(R:Ad):aQ:=[(f 0,some (roR f R)),(f 1,some (Ng tMc JN cdG R.cards)),(f 2,some (Ng ZI JN bG R.in_)),(f 3,some (Ng ZI JN bG R.was)),(f 4,some (Si f R)),(f 5,roM f R 1),(f 6,roM f R 2),(f 7,roM f R 3),(f 8,roG f R 1),(f 9,roG f R 2),(f 10,roG f R 3),(f 11,roV R 1),(f 12,roV R 2),(f 13,roV R 3)]
structure Bi (R:Ad):Prop where
 ci:RY R.in_
 cw:RY R.was
 cm:RY R.members
 m3:∀e∈R.members.es,1<=e.1/\e.1<=3
 c3:∀d,0<=(DS (R.cards.get d)).Member/\(DS (R.cards.get d)).Member<=3
 cv:∀k x g,R.members.get k=some x->x.guard=some g->RY g.vouches
 gm:∀k x g,R.members.get k=some x->x.guard=some g->(DS (R.cards.get g.id.By)).Member=k
 gN:∀k x g,R.members.get k=some x->x.guard=some g->1<=g.need/\g.need<=1000000
 vb:∀k x g,R.members.get k=some x->x.guard=some g->∀e∈g.vouches.es,1<=e.1.by_/\e.1.by_<=6
 i6:∀e∈R.in_.es,1<=e.1/\e.1<=6
 c6:∀d,0<(DS (R.cards.get d)).Member->1<=d/\d<=6
 gn:∀k x g,R.members.get k=some x->x.guard=some g->g.guards.length<=1000000
theorem Bi.mem{R:Ad}(h:Bi R){e:Int×AA×Nat}(he:e∈R.members.es):R.members.get e.1=some e.2.1/\(e.1=1\/e.1=2\/e.1=3):=by grind [Bi,JI]
def Rls(f:Nat->Nat)(R:Ad)(σ:aQ):Prop:=∀k ob,Bv f R k=some ob->ag σ (f k)=some ob
theorem DY{f:Nat->Nat}{k:Nat}{ob:Ob}(h:Bv f R k=some ob):k<14:=by
 rcases It k 14 with h1|h1
 .exact h1
 .exact absurd h (by obtain⟨j,rfl⟩:∃j,k=j+14:=⟨k-14,aa⟩;intro e;cases e)
section
variable {P:Br}
theorem Nw:∀{l l':Bk},l'.length=l.length->(∀p∈l.zip l',ve P st p.1 p.2)->∀(j:Nat) (g g':G),l[j]?=some g->l'[j]?=some g'->ve P st g g':=λ{l l'} _ h j g g' h1 h2=>h (g,g') (bO (i:=j) (by grind))
theorem AfH{f:Nat->Nat}(hR:Bi R)(h:Rls f R st.σ):ve P st (.ref (f 0) 0) (.ptr (CB R) 0):=by
 have hv:∀k:Nat,k=1\/k=2\/k=3->∀x g,R.members.get (k:Int)=some x->x.guard=some g->ve P st (.ref (f (7+k)) 0) (.ptr (Px g) 0):=λk hk x g hx hg=>by
  have h1:ag st.σ (f (7+k))=some ⟨tGu,guC f k g,none⟩:=by refine h (7+k) _ ?_;rcases hk with rfl|rfl|rfl<;>(show(Option.bind _ _).map _=_;grind)
  have h2:ag st.σ (f (10+k))=some (Ng tMv BX iG g.vouches):=by refine h (10+k) _ ?_;rcases hk with rfl|rfl|rfl<;>(show(Option.bind _ _).map _=_;grind)
  refine Mb h1 (Dl _) (Nw rfl λp hp=>?_);simp only[guC,Px,List.zip_cons_cons,List.zip_nil_right,EZ,Lx,or_false] at hp;rcases hp with rfl|rfl|rfl|rfl|rfl|rfl|rfl|rfl|rfl
  .exact jB (mN _)
  .exact jB (mN _)
  .exact jB (mN _)
  .exact jB (FC _ _)
  .exact jB (mN _)
  .exact jB (mN _)
  .exact OJ h2 λe _=>jB (mN _)
  all_goals grind [jB,mN]
 refine Mb (h 0 _ rfl) (Dl _) (Nw rfl λp hp=>?_);simp only[CB,List.zip_cons_cons,List.zip_nil_right,EZ,Lx,or_false] at hp;rcases hp with rfl|rfl|rfl|rfl|rfl
 .exact OJ (h 1 _ rfl) λe _=>jB (L6 λg hg=>by simp only[bv,EZ,Lx,or_false] at hg;rcases hg with rfl|rfl|rfl|rfl|rfl<;>exact mN _)
 .exact OJ (h 2 _ rfl) λe _=>jB (mN _)
 .exact OJ (h 3 _ rfl) λe _=>jB (mN _)
 .have h4:=h 4 _ rfl;have:=ZH (P:=P) (st:=st) (vs:=R.members.es.map λe=> .ptr (FF e.2.1) 0) h4 aC λj e g h1 h2=>by
   rw[LO,DG] at h1 h2;obtain⟨x,hx,rfl⟩:=h1;obtain⟨y,hy,rfl⟩:=h2;rw[hx] at hy;cases hy;obtain⟨m1,m2⟩:=hR.mem (bO hx);obtain⟨k,hk,a⟩:∃k:Nat,x.1=(k:Int)/\(k=1\/k=2\/k=3):=by grind
   rw[hk] at m1;have hn:nM x.1=4+k:=by unfold nM;omega
   have h5:ag st.σ (f (4+k))=some ⟨tMe,[iG x.2.1.role,gpG f k x.2.1],none⟩:=by refine h (4+k) _ ?_;rcases a with rfl|rfl|rfl<;>(show Option.map _ _=_;rw[m1];rfl)
   show ve P st (.ref (f (nM x.1)) 0) _;rw[hn];refine Mb h5 (Dl _) (Nw rfl λp hp=>?_);grind [FF,List.zip_cons_cons,List.zip_nil_right,jB,mN,gpG,npG]
  unfold FM.g;rw[Iu,Iu] at this;exact this
 .exact jB (mN _)
theorem PN{κ:Nat->Fu}{f f':Nat->Nat}(hκ:∀k,(∃ob,Bv f R k=some ob)->κ (f k)=some (f' k))(hR:Bi R)(k:Nat):Yi κ (Bv f R k) (Bv f' R k):=λa h=>by
 have hk:=DY h;have hr:∀k,(∃ob,Bv f R k=some ob)->qg κ 20 (.ref (f k) 0)= .ref (f' k) 0:=λk hk=>by simp only[qg,hκ k hk]
 have hm:∀k,(∃ob,Bv f R k=some ob)->qg κ 20 (.mref (f k))= .mref (f' k):=λk hk=>by simp only[qg,hκ k hk]
 have pm:∀(k:Nat) x,k=1\/k=2\/k=3->R.members.get (k:Int)=some x->∃ob,Bv f R (4+k)=some ob:=λk x hk hx=>by rcases hk with rfl|rfl|rfl<;>exact⟨_,(by show Option.map _ _=_;rw[hx];rfl)⟩
 have pg:∀(k:Nat) x,k=1\/k=2\/k=3->(R.members.get (k:Int)).bind (·.guard)=some x->(∃ob,Bv f R (7+k)=some ob)/\∃ob,Bv f R (10+k)=some ob:=λk x hk hx=>by rcases hk with rfl|rfl|rfl<;>exact⟨⟨_,(by show Option.map _ _=_;rw[hx];rfl)⟩,⟨_,(by show Option.map _ _=_;rw[hx];rfl)⟩⟩
 have hmem:∀k,k=1\/k=2\/k=3->Yi κ (roM f R k) (roM f' R k):=λk hk a h=>by
  unfold roM at h⊢;rw[DG] at h;obtain⟨x,hx,rfl⟩:=h;rw[hx];refine⟨_,rfl,rfl,.inl ?_⟩;show[iG x.role,gpG f' k x]=[iG x.role,qg κ 20 (gpG f k x)];unfold gpG;cases hg:x.guard with
  |none=>rfl
  |some g=>grind
 have hgu:∀k,k=1\/k=2\/k=3->Yi κ (roG f R k) (roG f' R k):=λk hk a h=>by unfold roG at h⊢;rw[DG] at h;obtain⟨x,hx,rfl⟩:=h;rw[hx];refine⟨_,rfl,rfl,.inl ?_⟩;show guC f' k x=(guC f k x).map (qg κ 20);unfold guC;simp only[Fi,List.map_nil,hm (10+k) (pg k x hk hx).2];rfl
 have hvo:∀k,Yi κ (roV R k) (roV R k):=λk a h=>by refine⟨a,h,rfl,?_⟩;unfold roV at h;rw[DG] at h;obtain⟨x,hx,rfl⟩:=h;exact⟨rfl,rfl,rfl,.inr ⟨rfl,Q5 λv=>mN _⟩⟩
 match k,hk with
 |0,_=>cases h;refine⟨_,rfl,rfl,.inl ?_⟩;simp only[Fi,List.map_nil,hm 1 ⟨_,rfl⟩,hm 2 ⟨_,rfl⟩,hm 3 ⟨_,rfl⟩,hm 4 ⟨_,rfl⟩];rfl
 |1,_=>cases h;exact⟨_,rfl,rfl,rfl,rfl,rfl,.inr (by grind [L6,bv,mN])⟩
 |2,_=>cases h;exact⟨_,rfl,rfl,rfl,rfl,rfl,.inr ⟨rfl,Q5 λv=>mN _⟩⟩
 |3,_=>cases h;exact⟨_,rfl,rfl,rfl,rfl,rfl,.inr ⟨rfl,Q5 λv=>mN _⟩⟩
 |4,_=>cases h;refine⟨_,rfl,rfl,rfl,rfl,rfl,.inl ?_⟩;rw[Iu];refine List.map_congr_left λe he=>?_;obtain⟨h1,h2⟩:=hR.mem he;show _=(_,qg κ 20 (.ref (f (nM e.1)) 0),_);rw[hr (nM e.1) (by rcases h2 with h2|h2|h2<;>rw[h2] at h1⊢<;>exact pm _ _ aC h1)]
 |5,_=>exact hmem 1 aa a h
 |6,_=>exact hmem 2 aa a h
 |7,_=>exact hmem 3 aa a h
 |8,_=>exact hgu 1 aa a h
 |9,_=>exact hgu 2 aa a h
 |10,_=>exact hgu 3 aa a h
 |11,_=>exact hvo 1 a h
 |12,_=>exact hvo 2 a h
 |13,_=>exact hvo 3 a h
theorem LE{f:Nat->Nat}{g:Nat->Option Ob}:∀{l:Bq} {k:Nat},(∀a∈l,∀b∈l,f a=f b->a=b)->k∈l->ag (l.map λk=>(f k,g k)) (f k)=g k
 |[],k,_,h=>by cases h
 |x::r,k,hi,h=>by
  rw[Fi,Bc];split
  .grind
  .rename_i hne;rcases EZ.1 h with rfl|h
   .exact absurd rfl hne
   .exact LE (by grind) h
theorem LF{f:Nat->Nat}{g:Nat->Option Ob}{i:Nat}{o:Ob}:∀{l:Bq},ag (l.map λk=>(f k,g k)) i=some o->∃k∈l,f k=i/\g k=some o
 |[],h=>by cases h
 |x::r,h=>by
  rw[Fi,Bc] at h;split at h
  .grind
  .obtain⟨k,h1,h2⟩:=LF h;grind
abbrev L0:Bq:=[0,1,2,3,4,5,6,7,8,9,10,11,12,13]
abbrev XW(f:Nat->Nat):Bq:=L0.map f
abbrev f0:Nat->Nat:=λk=>k
theorem Hw(f:Nat->Nat)(R:Ad):BG f R=(List.range 14).map λk=>(f k,Bv f R k):=rfl
theorem Ke{o:Ob}:ag (BG f0 R) k=some o↔Bv f0 R k=some o:=by
 constructor
 .intro h;rw[Hw] at h;obtain⟨k',_,e,h⟩:=LF h;grind
 .intro h;rw[Hw];have:=LE (f:=f0) (g:=Bv f0 R) (l:=List.range 14) (k:=k) (λa _ b _ e=>e) (List.mem_range.2 (DY h));exact this.trans h
theorem Abs{f:Nat->Nat}(h:k<14):(XW f)[k]?=some (f k):=by
 rw[LO,show L0[k]?=some k from by have:=List.getElem?_range (n:=14) h;exact this];rfl
theorem Acx{f:Nat->Nat}(hd:(XW f).Nodup)(ha:a<14)(hb:b<14)(e:f a=f b):a=b:=(List.getElem?_inj ha hd).1 (by grind [Abs])
theorem AjK{L:Bq}(hd:L.Nodup){k i:Nat}(h:L[k]?=some i):vi L i=some k:=by unfold vi;rw[List.findIdx?_eq_some_iff_getElem];obtain⟨hk,e⟩:=cr h;refine⟨hk,by rw[e];exact Nat.beq_refl i,λj hj hb=>?_⟩;have a:=(List.getElem?_inj aa hd).1 ((EH (l:=L) (i:=j) aa).trans ((congrArg some (bc hb)).trans h.symm));omega
theorem AiK{f:Nat->Nat}(hd:(XW f).Nodup)(hR:Bi R):InP (vi (XW f)) (XW f) (BG f R) (BG f0 R):=λk o0 h=>by rw[Ke] at h;have hk:=DY h;obtain⟨o,h1,h2⟩:=PN (κ:=vi (XW f)) (f:=f) (f':=f0) (by grind [AjK,Abs,DY]) hR k o0 h;refine⟨_,o,Abs hk,?_,h2⟩;rw[Hw,LE (by grind [Acx]) (List.mem_range.2 hk)];exact h1
theorem AjL{f:Nat->Nat}(hR:Bi R)(c:Nat):Abg (kO (BG f0 R) (XW f) 14 0 c) (BG f0 R) (BG f R):=λi o h0=>by
 rw[Hw] at h0;obtain⟨k,hk,e,h⟩:=LF h0;subst e;have hκ:∀k,(∃ob,Bv f0 R k=some ob)->kO (BG f0 R) (XW f) 14 0 c (f0 k)=some (f k):=by grind [AiB,DY,Ke,Abs]
 obtain⟨a,h1,h2⟩:=PN hκ hR k o h;grind [Ke]
def fW(f:Nat->Nat)(c k:Nat):Nat:=bif Nat.blt k 5 then f k else c+(k-5)
theorem AhC{f:Nat->Nat}(hR:Bi R')(c:Nat):Abg (kO (BG f0 R) (XW f) 5 9 c) (BG f0 R') (BG (fW f c) R'):=λi o h0=>by
 rw[Hw] at h0;obtain⟨k,hk,e,h⟩:=LF h0;subst e;have hκ:∀k,(∃ob,Bv f0 R' k=some ob)->kO (BG f0 R) (XW f) 5 9 c (f0 k)=some (fW f c k):=λk ⟨ob,h⟩=>by
  have hk:=DY h;unfold fW;rcases It k 5 with h5|h5
  .rw[show Nat.blt k 5=true from RT h5,ax];have:∃ob,Bv f0 R k=some ob:=by
    match k,h5 with
    |0,_=>exact⟨_,rfl⟩
    |1,_=>exact⟨_,rfl⟩
    |2,_=>exact⟨_,rfl⟩
    |3,_=>exact⟨_,rfl⟩
    |4,_=>exact⟨_,rfl⟩
   grind [AiB,Ke,Abs]
  .have e:Nat.blt k 5=false:=by
    cases hb:Nat.blt k 5 with
    |false=>rfl
    |true=>exact absurd (Fe hb) aa
   rw[e,A7];unfold kO;rw[show Nat.blt (f0 k) 5=false from e,show Nat.blt (f0 k) (5+9)=true from RT hk];rfl
 obtain⟨a,h1,h2⟩:=PN hκ hR k o h;grind [Ke]
def hrr(d:Nat)(f:Nat->Nat)(c:Nat)(args:Bk){gl:Cd}{fid:FuncId}{args0:Bk}{R:Ad}{r:G}(hR:Bi R)(hM:SH P gl fid (.ref 0 0::args0) (BG f0 R) 14 14 r (BG f0 R))(hc:aK P fid=true:=by kernel_rfl)(hlt:(XW f).all (λi=>Nat.blt i c)=true:=by kernel_rfl)(hnd:decide (XW f).Nodup=true:=by kernel_rfl)(hgs:(G.ref (f 0) 0::args).map (qg (vi (XW f)) 20)= .ref 0 0::args0:=by kernel_rfl):HP:=
 hfm d (XW f) 14 0 c (BG f R) (.ref (f 0) 0::args) (BG f R) hM (AiK (DD hnd) hR) (AjL hR c) hc hlt hnd hgs
def hrw(d:Nat)(f:Nat->Nat)(c:Nat)(args:Bk){gl:Cd}{fid:FuncId}{args0:Bk}{R R':Ad}{r:G}(hR:Bi R)(a:Bi R')(hM:SH P gl fid (.ref 0 0::args0) (BG f0 R) 14 5 r (BG f0 R'))(hc:aK P fid=true:=by kernel_rfl)(hlt:(XW f).all (λi=>Nat.blt i c)=true:=by kernel_rfl)(hnd:decide (XW f).Nodup=true:=by kernel_rfl)(hgs:(G.ref (f 0) 0::args).map (qg (vi (XW f)) 20)= .ref 0 0::args0:=by kernel_rfl):HP:=
 hfm d (XW f) 5 9 c (BG f R) (.ref (f 0) 0::args) (BG (fW f c) R') hM (AiK (DD hnd) hR) (AhC a c) hc hlt hnd hgs
def hrl(d:Nat)(f:Nat->Nat)(c:Nat){args:Bk}{gl:Cd}{fid:FuncId}{R:Ad}{g:G}(hR:Bi R)(hF:ba P gl fid (.ptr (CB R) 0::args) g)(ha:∀x∈args,bB x)(hg:X8 g)(hnd:decide (XW f).Nodup=true:=by kernel_rfl)(hc:aK P fid=true:=by kernel_rfl):HP:=
 hz d (XW f) (P:=P) (gl:=gl) (f:=fid) (gs:= .ref (f 0) 0::args) (σR:=BG f R) (c:=c) (g:=g) (U:=[]) (c':=c) (ON hc hF hg rfl λst h i x y h1 h2=>by
  have hs:Rls f R st.σ:=λk ob ho=>h _ _ (by rw[Hw,LE (by grind [Acx]) (List.mem_range.2 (DY ho))];exact ho)
  cases i<;>grind [AfH,jB])
end
section
variable {P:Br} {l:IH} {cx:Cx} {Q:Exit->Act->World->Prop}
theorem AeB{L:Array Bool}(hi:i<L.size):(L.setIfInBounds i true).getD j false=if i=j then true else L.getD j false:=by simp only[Array.getD_eq_getD_getElem?,Array.getElem?_setIfInBounds];grind
abbrev Dn:=Nat->Bool
def dn(L:Array Bool):Dn:=λi=>L.getD i false
def Dn.add(D:Dn)(j:Nat):Dn:=λi=>if j=i then true else D i
theorem PS{I:Dn->St->Prop}(hg:∀(j:Nat) (o:Oper),l[j]?=some o->o.guard=none)
  (c:∀(j:Nat) (o:Oper),l[j]?=some o->∀e∈o.after,Region.binds .any e=true->e.on<j)
  (hs:∀(D:Dn) (s:St) (j:Nat) (o:Oper),I D s->l[j]?=some o->D j=false->(∀e∈o.after,Region.binds .any e=true->D e.on=true)->th P o s (λs'=>I (D.add j) s'))
  (hq:∀D s a w,I D s->(∀j,j<l.length->D j=true)->mh P cx s a w->Q .normal a w):
  ∀(fuel:Nat) (L:Array Bool) (a:Act) (w:World) (s:St),L.toList.count false<=fuel->L.size=l.length->I (dn L) s->mh P cx s a w->wpAnyIn cx.F cx.nn P .any l.toArray Q fuel L a w:=by
 have empty:∀(L:Array Bool),L.size=l.length->Region.ready .any l.toArray L=[]->∀j,j<l.length->L.getD j false=true:=by
  intro L hsz hr j;induction j using Nat.strongRecOn with
  |_ j ih=>
   intro hj;cases h:L.getD j false with
   |true=>rfl
   |false=>
    have:j∈Region.ready .any l.toArray L:=by rw[mem_ready];have ho:l[j]?=some (l[j]'hj):=EH hj;grind
    grind
 intro fuel
 induction fuel with
 |zero=>
  intro L a w s hc hsz hI R
  have hall:∀j,j<l.length->L.getD j false=true:=by
   intro j hj;have hs:j<L.size:=by grind
   have h0:L.toList.count false=0:=aa;rw[List.count_eq_zero] at h0;cases h:L.getD j false with
   |true=>rfl
   |false=>simp[hs] at h;grind
  refine⟨?_,hq _ s a w hI hall R⟩
  cases hr:Region.ready .any l.toArray L with
  |nil=>rfl
  |cons x xs=>
   have hx:x∈Region.ready .any l.toArray L:=by rw[hr];simp
   grind [mem_ready]
 |succ fuel ih=>
  intro L a w s hc hsz hI R
  refine⟨λhr=>hq _ s a w hI (empty L hsz hr) R,λj hj=>?_⟩
  obtain⟨h1,o,ho',hr⟩:=mem_ready.1 hj
  have ho:l[j]?=some o:=by grind
  have hjl:=(cr ho).1
  have hs':j<L.size:=by grind
  have hL:L.getD j false=false:=by grind
  have hcnt:(L.setIfInBounds j true).toList.count false<=fuel:=by have:=Zb L.toList j (by simp_all);grind
  have hD:dn (L.setIfInBounds j true)=(dn L).add j:=by funext i;exact AeB hs'
  unfold wpOpIn
  simp only[ho']
  obtain⟨β,rb⟩:=R
  have hw:ce s l.toArray o=some true:=by grind [ce]
  rw[Bz (cT rb hw)]
  refine hs (dn L) s j o hI ho hL hr cx a w _ Q ⟨β,rb⟩ λs' b a' w' r'=>?_
  exact ih _ a' w' s' hcnt (by simp[hsz]) (by rw[hD];exact b) r'
theorem X7{id:Nat}{Q:Exit->St->Prop}(hm:P.follows .mixedOrders=true)(I:Dn->St->Prop)(hg:∀(j:Nat) (o:Oper),l[j]?=some o->o.guard=none)
  (b:∀(j:Nat) (o:Oper),l[j]?=some o->∀e∈o.after,Region.binds .any e=true->e.on<j) (h0:I (λ_=>false) st)
  (hs:∀(D:Dn) (s:St) (j:Nat) (o:Oper),I D s->l[j]?=some o->D j=false->(∀e∈o.after,Region.binds .any e=true->D e.on=true)->th P o s (λs'=>I (D.add j) s'))
  (hq:∀D s,I D s->(∀j,j<l.length->D j=true)->Q .normal s):Tr P (.region id l.toArray true) st Q:=λcx a w R ⟨β,r⟩ k=>by
 refine wpIn_region_any hm ?_
 have hr:Bx P cx st a {w with drawn:=w.drawn+1} β:=by grind [Bx.world,Ba]
 have hno:dn (Array.replicate l.toArray.size false)=λ_=>false:=by funext i;show(Array.replicate l.toArray.size false).getD i false=false;rw[Array.getD_eq_getD_getElem?];grind
 refine PS (cx:=cx) (I:=I) hg b hs (by grind) _ _ _ _ st ?_ aC (by grind) ⟨β,hr⟩
 simp
end
section
variable {P:Br}
def rk(o:Oper)(t:Tmp):Bool:=match o.dst with
 |some d=>Nat.beq d t
 |none=>false
theorem xJ{t:Tmp}:rk o t=true↔o.dst=some t:=by grind [rk,bc,Nat.beq_refl]
def PT(l:IH)(i:Nat)(t:Tmp):Bool:=match l[i]? with
 |some o=>rk o t
 |none=>false
theorem JY{l:IH}{t:Tmp}(h:PT l i t=true):bX l i=some t:=by grind [PT,bX,xJ]
def rl(o:Oper):Option Value:=match o.op with
 | .insert _ _ (.const k) _=>some k
 |_=>none
def Fx(d:TypeDesc)(a b:Value):Bool:=match Instr.sameNow d a b with
 |some false=>true
 |_=>false
theorem yN{d:TypeDesc}{a b:Value}(h:Fx d a b=true):Instr.sameNow d a b=some false:=by grind [Fx]
def LY(d:TypeDesc)(o a:Oper):Bool:=match rl o,rl a with
 |some k,some k'=>Fx d k k'&&Fx d k' k
 |_,_=>true
def rn(d:TypeDesc):IH->Bool
 |[]=>true
 |o::r=>r.all (LY d o)&&rn d r
theorem tD{d:TypeDesc}:∀{l:IH},rn d l=true->∀(i j:Nat) (o a:Oper) (k k':Value),i≠j->l[i]?=some o->l[j]?=some a->rl o=some k->rl a=some k'->Instr.sameNow d k k'=some false
 |[],_,i,j,o,a,k,k',_,h,_,_,_=>by cases h
 |x::r,h,i,j,o,a,k,k',hne,hi,hj,hk,hk'=>by
  simp only[rn,bA] at h;have key:∀(i:Nat) (a:Oper) (k k':Value),r[i]?=some a->rl x=some k->rl a=some k'->Instr.sameNow d k k'=some false/\Instr.sameNow d k' k=some false:=by intro i a k k' hi hk hk';have:=Gu.1 h.1 a (bO hi);grind [LY,yN]
  cases i with
  |zero=>grind
  |succ i=>
   cases j with
   |zero=>grind
   |succ j=>exact tD h.2 i j o a k k' aa (by grind) (by grind) hk hk'
def BD:IH->Bool
 |[]=>true
 |o::r=>(match o.dst with
  |some d=>r.all λa=> !rk a d
  |none=>true)&&BD r
def PU(l:IH)(o:Oper):Dq->Bool
 | .tmp t=>(o.after.toList.any λe=>Region.binds .any e&&PT l e.on t)||l.all λa=> !rk a t
 |_=>true
theorem fJ(h:Ab7 o i=true):∃e∈o.after,Region.binds .any e=true/\e.on=i:=by obtain⟨e,he,hb⟩:=List.any_eq_true.1 h;simp only[bA] at hb;exact⟨e,by simpa using he,hb.1,bc hb.2⟩
def wh(o:Oper):Nat->Bool
 |0=>true
 |n+1=>Ab7 o n&&wh o n
theorem R1{o:Oper}:∀{n:Nat},wh o n=true->∀i,i<n->Ab7 o i=true
 |n+1,h,i,hi=>by
  simp only[wh,bA] at h;rcases It i n with h1|h1
  .exact R1 h.2 i h1
  grind
def VD(P:Br)(n:Nat)(T kt:Bn)(l:IH)(N1:Nat)(j:Nat)(o:Oper):Bool:=
 o.guard.isNone&&(o.after.toList.all λe=> !Region.binds .any e||Nat.blt e.on j)&&pj n o.dst&&(o.op.operands.toList.all (PU l o))&&(match o.op with
 | .makeMap t none=>Nat.beq j 0&&Nat.beq t T&&o.dst.isSome
 | .insert t _ (.const k) _=>Nat.beq t T&&o.dst.isNone&&Ab7 o 0&&rB P false kt k&&(match k with
  | .int .. =>true
  |_=>false)
 | .range t _=>Nat.beq j N1&&Nat.beq t T&&o.dst.isSome&&Ab7 o (N1-1)
 | .makeMap .. | .insert .. =>false
 |_=>o.dst.isSome)
def LZ(P:Br)(n:Nat)(T kt:Bn)(l:IH)(N1:Nat):Nat->IH->Bool
 |_,[]=>true
 |j,o::r=>VD P n T kt l N1 j o&&LZ P n T kt l N1 (j+1) r
theorem BE{n:Nat}{T kt:Bn}{l:IH}{N1:Nat}:∀{m:IH} {j:Nat},LZ P n T kt l N1 j m=true->∀(i:Nat) (o:Oper),m[i]?=some o->VD P n T kt l N1 (j+i) o=true
 |[],j,_,i,o,h=>by cases h
 |x::r,j,h,i,o,hi=>by
  simp only[LZ,bA] at h;cases i with
  |zero=>grind
  |succ i=>have:=BE h.2 i o (by grind);grind
def wi(o:Oper):Bool:=match o.op with
 | .makeMap _ none=>true
 |_=>false
def HF(o:Oper):Bool:=match o.op with
 | .range .. =>true
 |_=>false
def JZ(P:Br)(n:Nat)(T kt et:Bn)(l:IH)(N1:Nat):Bool:=
 (match pB P T with
 |some (k,e)=>Nat.beq k kt&&Nat.beq e et
 |none=>false)&&(match P.underlying kt with
 |some d=>rn d l
 |none=>false)&&BD l&&LZ P n T kt l N1 0 l&&Nat.beq l.length (N1+1)&&Nat.blt 0 N1&&(match l[0]?,l[N1]? with
 |some o,some o'=>wi o&&HF o'
 |_,_=>false)&&(match l[N1-1]? with
 |some o=>wh o (N1-1)
 |none=>false)
def VE(P:Br)(a:St)(mi:Nat)(o:Oper):Prop:=∃d,o.dst=some d/\∀s:St,s.n=a.n->s.gl=a.gl->s.pr=a.pr->(∀x∈o.op.operands,aB s x=aB a x)->(∀i,i≠mi->i≠mi+1->ag s.σ i=ag a.σ i)->GS P o s (s.put (some d) (aD a.fr d))
def lN(P:Br)(a:St)(mi:Nat)(o:Oper):Prop:=match o.op with
 | .makeMap .. =>(match o.dst with
  |some d=>iF 16 (aD a.fr d) (.mref mi)
  |none=>false)=true
 | .insert _ x _ _=>iF 16 (aB a x) (.mref mi)=true
 | .range _ x=>(iF 16 (aB a x) (.mref mi)&&(match o.dst with
  |some d=>iF 16 (aD a.fr d) (.ref (mi+1) 0)
  |none=>false))=true
 |_=>VE P a mi o
def mM(a:St)(o:Oper):Option (Value×G):=match o.op with
 | .insert _ _ (.const k) y=>some (k,aB a y)
 |_=>none
structure Y5 (ents:List (Value×G)) (es:List (Value×G×Nat)) (clock:Nat):Prop where
 sub:∀e∈es,(e.1,e.2.1)∈ents
 sup:∀q∈ents,∃n,(q.1,q.2,n)∈es
 lt:∀e∈es,e.2.2<clock
 nd:(es.map (·.2.2)).Nodup
section lit
variable {l:IH} {st:St} {T kt et:Bn} {N1:Nat} {vals:Fr}
abbrev iH(st:St)(vals:Fr):St:={st with fr:=vals++st.fr}
structure SA (st:St) (T:Bn) (l:IH) (N1:Nat) (vals:Fr) (D:Dn) (s:St):Prop where
 n:s.n=st.n
 gl:s.gl=st.gl
 pr:s.pr=st.pr
 f1:∀j t,D j=true->bX l j=some t->aD s.fr t=aD (iH st vals).fr t
 f2:∀t,(∀j,D j=true->bX l j≠some t)->aD s.fr t=aD st.fr t
 σ:∀i,i≠st.c->i≠st.c+1->ag s.σ i=ag st.σ i
 c:s.c=if D N1 then st.c+2 else if D 0 then st.c+1 else st.c
 ins:∀j o q,D j=true->l[j]?=some o->mM (iH st vals) o=some q->D 0=true
 last:D N1=true->∀j,j<N1->D j=true
 pen:D (N1-1)=true->∀j,j<N1-1->D j=true
 m:D 0=true->∃es clock,ag s.σ st.c=some ⟨T,[],some (.map es clock)⟩/\(∀e∈es,∃j o,D j=true/\l[j]?=some o/\mM (iH st vals) o=some (e.1,e.2.1))/\(∀j o q,D j=true->l[j]?=some o->mM (iH st vals) o=some q->∃n,(q.1,q.2,n)∈es)/\(∀e∈es,e.2.2<clock)/\(es.map (·.2.2)).Nodup/\
  (D N1=true->ag s.σ (st.c+1)=some ⟨T,[],some (.iter (some st.c) clock [] clock)⟩)
theorem BF(s:St)(d:Option Tmp)(g:G):(s.put d g).σ=s.σ/\(s.put d g).c=s.c/\(s.put d g).n=s.n/\(s.put d g).gl=s.gl/\(s.put d g).pr=s.pr:=by cases d<;>exact⟨rfl,rfl,rfl,rfl,rfl⟩
theorem HG(s:St)(d:Option Tmp)(g:G)(t:Tmp):aD (s.put d g).fr t=if d=some t then g else aD s.fr t:=by cases d<;>grind [St.put]
theorem L1{d:TypeDesc}{k:Value}:∀{ks:List Value} {n:Nat},(∀u∈ks,Instr.sameNow d k u=some false)->B6 d k ks n=some none
 |[],n,h=>rfl
 |u::r,n,h=>by unfold B6;rw[h u aC];exact L1 (by grind)
theorem tF{D:Dn}(h:D i=true):D.add j i=true:=by grind [Dn.add]
theorem HH{D:Dn}:D.add j j=true:=by simp[Dn.add]
theorem L2{D:Dn}(h:D.add j i=true):i=j\/D i=true:=by grind [Dn.add]
theorem ro{D:Dn}(h:i≠j):D.add j i=D i:=by grind [Dn.add]
theorem SA.frames{D:Dn}{s:St}(h:SA st T l N1 vals D s)(hp:BD l=true){j:Nat}{o:Oper}(ho:l[j]?=some o){g:G}(hg:∀t,o.dst=some t->g=aD (iH st vals).fr t)(s':St)(hs:s'.fr=s.fr):
  (∀i t,D.add j i=true->bX l i=some t->aD (s'.put o.dst g).fr t=aD (iH st vals).fr t)/\∀t,(∀i,D.add j i=true->bX l i≠some t)->aD (s'.put o.dst g).fr t=aD st.fr t:=by
 refine⟨λi t hi ht=>?_,λt ht=>?_⟩
 .grind [HG,L2,bX,f1]
 .rw[HG,hs,BW (λe=>ht j HH (by simp[bX,ho,e]))]
  grind [f2,tF]
theorem SR{D:Dn}{s:St}(h:SA st T l N1 vals D s)(hv:∀q∈vals,∃o∈l,rk o q.1=true)(hr:∀e∈o.after,Region.binds .any e=true->D e.on=true)(hx:PU l o x=true):aB s x=aB (iH st vals) x:=by
 cases x with
 |const v=>rfl
 |global g=>simp only[aB,h.gl]
 |func f=>rfl
 |tmp t=>
  show aD s.fr t=aD (vals++st.fr) t;simp only[PU,Bool.or_eq_true,List.any_eq_true,bA,Gu,Bool.not_eq_true'] at hx;rcases hx with⟨e,he,hb,hd⟩|hx
  .exact h.f1 e.on t (by grind) (JY hd)
  .have hn:∀j,bX l j≠some t:=λj hj=>by have hj:(l[j]?).bind (·.dst)=some t:=hj;rw[GJ] at hj;obtain⟨a,ho',hd'⟩:=hj;have:=hx a (bO ho');grind [xJ]
   rw[h.f2 t (by grind)];have:∀(V:Fr),(∀q∈V,∃o∈l,rk o q.1=true)->aD (V++st.fr) t=aD st.fr t:=by
    intro V;induction V with
    |nil=>intro _;rfl
    |cons q r ih=>
     intro hV;rw[List.cons_append,aO,BW (λe=>by obtain⟨a,ho',hd'⟩:=hV q aC;grind)]
     grind
   grind
theorem PV{t:Tmp}(hv:∀q∈vals,∃o∈l,rk o q.1=true)(hn:∀j,bX l j≠some t):aD (vals++st.fr) t=aD st.fr t:=by
 have:∀(V:Fr),(∀q∈V,∃o∈l,rk o q.1=true)->aD (V++st.fr) t=aD st.fr t:=by
  intro V;induction V with
  |nil=>intro _;rfl
  |cons q r ih=>
   intro hV;rw[List.cons_append,aO,BW (λe=>by obtain⟨a,ho',hd'⟩:=hV q aC;rw[e] at hd';obtain⟨j,hj⟩:=List.mem_iff_getElem?.1 ho';exact hn j (by grind [bX,xJ]))]
   grind
 grind
theorem L3{σ:aQ}{T:Bn}(h:ag σ i=some ⟨T,[],some (.map es clock)⟩):Lv σ (.mref i)=some (i,T,es,clock):=by grind [Lv]
theorem NA{sA:St}{q:Value×G}(h:mM sA o=some q):rl o=some q.1:=by grind [mM,rl]
theorem J0(hm:P.follows .mixedOrders=true){id:Nat}(hs:JZ P st.n T kt et l N1=true)(hv0:(vals.all λq=>l.any λo=>rk o q.1)=true)(hd:∀o∈l,lN P (iH st vals) st.c o){Q:Exit->St->Prop}
  (hQ:∀es clock,Y5 (l.filterMap (mM (iH st vals))) es clock->Q .normal {st with fr:=vals++st.fr,σ:=(st.c+1,some ⟨T,[],some (.iter (some st.c) clock [] clock)⟩)::(st.c,some ⟨T,[],some (.map es clock)⟩)::st.σ,c:=st.c+2}):Tr P (.region id l.toArray true) st Q:=by
 unfold JZ at hs
 simp only[bA] at hs
 obtain⟨⟨⟨⟨⟨⟨⟨h1,h2⟩,h3⟩,h4⟩,h5⟩,h6⟩,h7⟩,h8⟩:=hs
 have hN0:=bc h5
 have hNp:0<N1:=Fe h6
 have hT:pB P T=some (kt,et):=by grind [bc]
 obtain⟨d,S,hkp⟩:∃d,P.underlying kt=some d/\rn d l=true:=by grind
 obtain⟨o0,oN,U,V,hk0,W⟩:∃o0 oN,l[0]?=some o0/\l[N1]?=some oN/\wi o0=true/\HF oN=true:=by grind
 have C:=λj o (ho:l[j]?=some o)=>by have:=BE h4 j o ho;rw[Nat.zero_add] at this;unfold VD at this;simp only[bA] at this;exact this
 have hv:=hv0
 simp only[Gu,List.any_eq_true] at hv
 have hval:∀j o,l[j]?=some o->lN P (iH st vals) st.c o:=λj o ho=>hd o (bO ho)
 refine Tr.eqv (X7 hm (SA st T l N1 vals) (λj o ho=>?_) (λj o ho e he hb=>?_) ?_ (λD s j o I ho hD hre=>?_) (λD s I hall=>?_))
 .have:=(C j o ho).1.1.1.1
  simp_all
 .have:=Gu.1 (C j o ho).1.1.1.2 e (by simpa using he)
  simp_all
 .constructor<;>try grind [SA.m]
 .obtain⟨⟨⟨⟨-,-⟩,X⟩,L⟩,f⟩:=C j o ho
  have hdk':∀d,o.dst=some d->d<s.n:=by rw[I.n];exact eN X
  have hx:∀x∈o.op.operands,aB s x=aB (iH st vals) x:=λx hx=>SR I hv hre (Gu.1 L x (by simpa using hx))
  have hjl:j<N1+1:=by grind
  have v:=hval j o ho
  have h0:wi o=false->j≠0:=λh e=>by subst e;rw[U] at ho;cases ho;rw[hk0] at h;cases h
  have hN:HF o=false->j≠N1:=λh e=>by subst e;rw[V] at ho;cases ho;rw[W] at h;cases h
  have hDN:D N1=false:=by grind [SA]
  have hpen:D.add j (N1-1)=true->∀i,i<N1-1->D.add j i=true:=λh i hi=>by
   rcases L2 h with e|h
   .rw[e,ho] at h8;obtain⟨e',he,hb,z⟩:=fJ (R1 h8 i aa);grind [tF]
   grind [tF,SA.pen]
  obtain⟨w,op,ty,pos,K,gd⟩:=o
  have entj:∀{i:Nat} {p:Oper} {q:Value×G},mM (iH st vals) ⟨w,op,ty,pos,K,gd⟩=none->l[i]?=some p->mM (iH st vals) p=some q->D.add j i=true->D i=true:=λhno ho' hq hi=>by
   rcases L2 hi with rfl|hi
   .rw[ho] at ho';cases ho';rw[hno] at hq;cases hq
   .exact hi
  have value:wi ⟨w,op,ty,pos,K,gd⟩=false->HF ⟨w,op,ty,pos,K,gd⟩=false->mM (iH st vals) ⟨w,op,ty,pos,K,gd⟩=none->VE P (iH st vals) st.c ⟨w,op,ty,pos,K,gd⟩->th P ⟨w,op,ty,pos,K,gd⟩ s (λs'=>SA st T l N1 vals (D.add j) s'):=by
   intro hk hg hno hvv;obtain⟨d,Y,M⟩:=hvv;obtain rfl:w=some d:=Y;focus
    generalize hgd:aD (iH st vals).fr d=g at M
    refine(M s I.n I.gl I.pr hx I.σ).gsn.eqv λs' hs'=>⟨s',?_,XV.refl _⟩
    subst hs'
    obtain⟨f1,f2⟩:=I.frames h3 ho (g:=g) (λt e=>by cases e;exact hgd.symm) s rfl
    have E:=h0 hk
    have A:=hN hg
    obtain⟨F,Z,N,O,R⟩:=BF s (some d) g
    refine{n:=N.trans I.n,gl:=O.trans I.gl,pr:=R.trans I.pr,f1:=f1,f2:=f2,σ:=λi h1 h2=>by rw[F];exact I.σ i h1 h2,c:=by grind [ro,SA.c],ins:=λi p q hi ho' hq=>tF (I.ins i p q (entj hno ho' hq hi) ho' hq),last:=(λh=>by rw[ro (Ne.symm A),hDN] at h;cases h),pen:=hpen,m:=λh=>?_}
    rw[ro (Ne.symm E)] at h
    obtain⟨es,clock,m1,m2,m3,B,H,m6⟩:=I.m h
    refine⟨es,clock,by grind,λe he=>?_,λi p q hi ho' hq=>m3 i p q (entj hno ho' hq hi) ho' hq,B,H,(λh=>by rw[ro (Ne.symm A),hDN] at h;cases h)⟩
    obtain⟨i,p,hi,ho',hq⟩:=m2 e he
    grind [tF]
  dsimp only at f
  split at f
  ·
   rename_i t
   simp only[bA] at f
   obtain rfl:=bc f.1.1
   obtain rfl:=bc f.1.2
   obtain⟨d,rfl⟩:=VB.1 f.2
   have hsc:s.c=st.c:=by grind [SA.c]
   refine(B8 (t:=t) (r:=none) rfl hdk' rfl).gsn.eqv λs' hs'=>⟨s',?_,XV.refl _⟩
   subst hs'
   rw[hsc]
   obtain⟨f1,f2⟩:=I.frames h3 ho (g:= .mref st.c) (λt e=>by cases e;unfold lN at v;exact(GK 16 _ _ v).symm) {s with σ:=(st.c,some ⟨t,[],some (.map [] 0)⟩)::s.σ,c:=st.c+1} rfl
   obtain⟨F,Z,N,O,R⟩:=BF {s with σ:=(st.c,some ⟨t,[],some (.map [] 0)⟩)::s.σ,c:=st.c+1} (some d) (.mref st.c)
   have hadd:D.add 0 N1=false:=by grind [ro]
   refine{n:=N.trans I.n,gl:=O.trans I.gl,pr:=R.trans I.pr,f1:=f1,f2:=f2,σ:=λi h1 h2=>?_,c:=by grind [HH],ins:=λi p q hi ho' hq=>HH,last:=(λh=>by rw[hadd] at h;cases h),pen:=hpen,m:=λ_=>?_}
   .grind [SA.σ]
   .refine⟨[],0,by rw[F,Bc,Bz rfl],(λe he=>by cases he),λi p q hi ho' hq=>?_,(λe he=>by cases he),aC,(λh=>by rw[hadd] at h;cases h)⟩
    have:=I.ins i p q (entj rfl ho' hq hi) ho' hq
    grind
  ·
   rename_i t x k y
   simp only[bA] at f
   obtain⟨⟨⟨⟨k1,k2⟩,k3⟩,k4⟩,k5⟩:=f
   obtain rfl:=bc k1
   obtain rfl:w=none:=by simp_all
   have E:=h0 rfl
   have A:=hN rfl
   have hD0:D 0=true:=by obtain⟨e,he,hb,z⟩:=fJ k3;rw[<-z];exact hre e he hb
   obtain⟨es,clock,m1,m2,m3,B,H,m6⟩:=I.m hD0
   have hxm:aB s x= .mref st.c:=(hx x fK).trans (GK 16 _ _ v)
   have hy:aB s y=aB (iH st vals) y:=hx y fK
   have hgk:cD (aB s (.const k))=some k:=by
    split at k5
    .rfl
    .cases k5
   have hent:mM (iH st vals) ⟨none,.insert t x (.const k) y,ty,pos,K,gd⟩=some (k,aB (iH st vals) y):=rfl
   have hkey:B7 P kt k (es.map (·.1))=some none:=by unfold B7;rw[S];simp only;rw[L1 λu hu=>?_];obtain⟨e,he,rfl⟩:=Fo.1 hu;obtain⟨i,p,hi,ho',hq⟩:=m2 e he;exact tD hkp j i _ p k e.1 (λe=>by subst e;rw[hD] at hi;cases hi) ho ho' rfl (NA hq)
   have hput:dZ P s.σ t (aB s x) (aB s (.const k)) (aB s y)=some (st.c,⟨t,[],some (.map (es++[(k,aB (iH st vals) y,clock)]) (clock+1))⟩):=by unfold dZ;rw[hT,hgk,hxm,L3 m1];simp only[k4,ax,hkey,hy]
   refine(iW (.inr rfl) hdk' hput).gsn.eqv λs' hs'=>⟨s',?_,XV.refl _⟩
   subst hs'
   obtain⟨f1,f2⟩:=I.frames h3 ho (g:= .lit undef) (λt e=>by cases e) {s with σ:=(st.c,some ⟨t,[],some (.map (es++[(k,aB (iH st vals) y,clock)]) (clock+1))⟩)::s.σ} rfl
   have hadd:D.add j N1=false:=by rw[ro (Ne.symm A)];exact hDN
   refine{n:=I.n,gl:=I.gl,pr:=I.pr,f1:=f1,f2:=f2,σ:=λi h1 h2=>?_,c:=(by show s.c=_;rw[hadd,ro (Ne.symm E)];have:=I.c;rw[hDN] at this;exact this),ins:=λi p q hi ho' hq=>tF hD0,last:=(λh=>by rw[hadd] at h;cases h),pen:=hpen,m:=λ_=>?_}
   .show ag ((st.c,_)::s.σ) i=_
    rw[Bc,BW (λe=>h1 e.symm)]
    exact I.σ i h1 h2
   .refine⟨es++[(k,aB (iH st vals) y,clock)],clock+1,?_,λe he=>?_,λi p q hi ho' hq=>?_,λe he=>?_,?_,(λh=>by rw[hadd] at h;cases h)⟩
    .show ag ((st.c,_)::s.σ) st.c=_
     rw[Bc,Bz rfl]
    .rcases I6.1 he with he|he
     .obtain⟨i,p,hi,ho',hq⟩:=m2 e he
      exact⟨i,p,tF hi,ho',hq⟩
     .obtain rfl:=List.mem_singleton.1 he
      exact⟨j,_,HH,ho,hent⟩
    .rcases L2 hi with rfl|hi
     .rw[ho] at ho'
      cases ho'
      rw[hent] at hq
      cases hq
      exact⟨clock,aC⟩
     .obtain⟨n,hn⟩:=m3 i p q hi ho' hq
      exact⟨n,List.mem_append_left _ hn⟩
    .rcases I6.1 he with he|he
     .have:=B e he;omega
     .obtain rfl:=List.mem_singleton.1 he
      exact Nat.lt_succ_self _
    .rw[List.map_append,List.nodup_append]
     refine⟨H,aC,λa ha b hb e=>?_⟩
     simp only[Fi,List.map_nil,List.mem_singleton] at hb
     obtain⟨e',he',rfl⟩:=Fo.1 ha
     have:=B e' he'
     omega
  ·
   rename_i t x
   simp only[bA] at f
   obtain⟨⟨⟨k1,k2⟩,k3⟩,k4⟩:=f
   obtain rfl:=bc k1
   obtain rfl:=bc k2
   obtain⟨d,rfl⟩:=VB.1 k3
   have hp1:D (j-1)=true:=by obtain⟨e,he,hb,z⟩:=fJ k4;rw[<-z];exact hre e he hb
   have hall:∀i,i<j->D i=true:=λi hi=>by
    rcases It i (j-1) with h|h
    .exact I.pen hp1 i h
    .obtain rfl:i=j-1:=aa;exact hp1
   have hD0:=hall 0 hNp
   obtain⟨es,clock,m1,m2,m3,B,H,m6⟩:=I.m hD0
   have hva':iF 16 (aB (iH st vals) x) (.mref st.c)=true/\iF 16 (aD (iH st vals).fr d) (.ref (st.c+1) 0)=true:=by unfold lN at v;simpa only[bA] using v
   have hxm:aB s x= .mref st.c:=(hx x fK).trans (GK 16 _ _ hva'.1)
   have hsc:s.c=st.c+1:=by rw[I.c,hDN,hD0];rfl
   have hrg:B9 P s.σ t (aB s x)=some (.iter (some st.c) clock [] clock):=by unfold B9;rw[hT,hxm];simp only[L3 m1]
   refine(H2 rfl hdk' hrg).gsn.eqv λs' hs'=>⟨s',?_,XV.refl _⟩
   subst hs'
   rw[hsc]
   obtain⟨f1,f2⟩:=I.frames h3 ho (g:= .ref (st.c+1) 0) (λt e=>by cases e;exact(GK 16 _ _ hva'.2).symm) {s with σ:=(st.c+1,some ⟨t,[],some (.iter (some st.c) clock [] clock)⟩)::s.σ,c:=st.c+1+1} rfl
   obtain⟨F,Z,N,O,R⟩:=BF {s with σ:=(st.c+1,some ⟨t,[],some (.iter (some st.c) clock [] clock)⟩)::s.σ,c:=st.c+1+1} (some d) (.ref (st.c+1) 0)
   refine{n:=N.trans I.n,gl:=O.trans I.gl,pr:=R.trans I.pr,f1:=f1,f2:=f2,σ:=λi h1 h2=>?_,c:=by rw[Z,HH];rfl,ins:=λi p q hi ho' hq=>tF hD0,last:=λ_ i hi=>tF (hall i hi),pen:=hpen,m:=λ_=>?_}
   .rw[F,Bc,BW (λe=>h2 e.symm)]
    exact I.σ i h1 h2
   .refine⟨es,clock,?_,λe he=>?_,λi p q hi ho' hq=>m3 i p q (entj rfl ho' hq hi) ho' hq,B,H,λ_=>?_⟩
    .rw[F,Bc,BW aa];exact m1
    .obtain⟨i,p,hi,ho',hq⟩:=m2 e he
     exact⟨i,p,tF hi,ho',hq⟩
    .rw[F,Bc,Bz rfl]
  .cases f
  .cases f
  .rename_i c1 c2 c3 c4 c5
   refine value ?_ ?_ ?_ ?_
   .unfold wi
    dsimp only
    split
    .rename_i a;exact absurd rfl (c1 a)
    .rfl
   .unfold HF
    dsimp only
    split
    .rename_i a b;exact absurd rfl (c3 a b)
    .rfl
   .unfold mM
    dsimp only
    split
    .rename_i a b c d;exact absurd rfl (c2 a b c d)
    .rfl
   .unfold lN at v
    dsimp only at v
    split at v
    .rename_i a b;exact absurd rfl (c4 a b)
    .rename_i a b c d;exact absurd rfl (c5 a b c d)
    .rename_i a b;exact absurd rfl (c3 a b)
    .exact v
 .have hD0:D 0=true:=hall 0 aa
  have hDN:D N1=true:=hall N1 aa
  obtain⟨es,clock,m1,m2,m3,B,H,m6⟩:=I.m hD0
  refine⟨_,?_,hQ es clock {sub:=λe he=>?_,sup:=λq hq=>?_,lt:=B,nd:=H}⟩
  .have J:=I.pr
   simp only[St.pr,Fw] at J
   refine⟨I.n.symm,I.gl.symm,λi=>?_,λi=>?_,?_,J.1.symm,J.2.symm⟩
   .by_cases hx:∃j,bX l j=some i
    .grind [bX,SA.f1]
    .rw[I.f2 i λj _ hj=>hx ⟨j,hj⟩]
     exact PV hv λj hj=>hx ⟨j,hj⟩
   all_goals grind [SA.σ,SA.c]
  .grind
  .obtain⟨p,ho',hq'⟩:=List.mem_filterMap.1 hq
   grind [List.mem_iff_getElem?]
end lit
end
abbrev oE:=List (Value×G×Nat)
def Wa(k:Value):Nat:=match k with
 | .int _ (.ofNat n)=>n
 |_=>0
def Yq(g:G):Bool:=match g with
 | .lit (.bool true)=>true
 |_=>false
def If(k:Value)(g:G):Nat:=bif Yq g then Wa k else 0
def iC(seen:Bq):oE->Nat
 |[]=>0
 |e::r=>(bif seen.contains e.2.2 then If e.1 e.2.1 else 0)|||iC seen r
def Ck:oE->Nat
 |[]=>0
 |e::r=>If e.1 e.2.1|||Ck r
theorem jd{m:Nat}:(seen++[n]).contains m=(seen.contains m||(m==n)):=by rw[Bool.eq_iff_iff];simp
theorem Eu{seen:Bq}{n:Nat}:∀{es:oE},n∉es.map (·.2.2)->iC (seen++[n]) es=iC seen es
 |[],_=>rfl
 |e::r,h=>by
  simp only[Fi,EZ,not_or] at h;unfold iC;rw[Eu h.2,jd];have:(e.2.2==n)=false:=by rw[beq_eq_false_iff_ne];exact λx=>h.1 x.symm
  rw[this,Bool.or_false]
theorem Ev{seen:Bq}{k:Value}{g:G}{n:Nat}(hn:n∉seen):∀{es:oE},(k,g,n)∈es->(es.map (·.2.2)).Nodup->iC (seen++[n]) es=iC seen es|||If k g
 |e::r,h,hd=>by
  simp only[Fi,Mi] at hd;unfold iC;have hs:seen.contains n=false:=by
   cases hc:seen.contains n with
   |false=>rfl
   |true=>exact absurd (by simpa using hc) hn
  rcases EZ.1 h with rfl|h
  .rw[Eu hd.1,jd];simp only[hs,Bool.false_or,BEq.rfl,ax,A7,Nat.zero_or];rw[Nat.or_comm]
  .have hne:e.2.2≠n:=λx=>hd.1 (by rw[x];exact Fo.2 ⟨_,h,rfl⟩);rw[Ev hn h hd.2,jd];have:(e.2.2==n)=false:=by rw[beq_eq_false_iff_ne];exact hne
   rw[this,Bool.or_false,Nat.or_assoc]
theorem Ew{seen:Bq}:∀{es:oE},(∀e∈es,e.2.2∈seen)->iC seen es=Ck es
 |[],_=>rfl
 |e::r,h=>by
  unfold iC Ck;rw[Ew λe he=>h e (by simp[he])];have:seen.contains e.2.2=true:=by simpa using h e aC
  rw[this];rfl
theorem Ex:∀{es:oE},iC [] es=0
 |[]=>rfl
 |e::r=>by unfold iC;rw[Ex];simp
theorem Ig{seen:Bq}{b:Nat}:∀{es:oE},(∀e∈es,Wa e.1<2^b)->iC seen es<2^b
 |[],_=>Nat.two_pow_pos b
 |e::r,h=>by
  unfold iC;refine Nat.or_lt_two_pow ?_ (Ig λe he=>h e (by simp[he]));have:=h e aC;cases seen.contains e.2.2 with
  |false=>exact Nat.two_pow_pos b
  |true=>
   show If e.1 e.2.1<2^b;unfold If;cases Yq e.2.1 with
   |false=>exact Nat.two_pow_pos b
   |true=>exact this
theorem Ih{es:oE}(hb:∀e∈es,e.2.2<since)(h:none∈rD es since seen):∀e∈es,e.2.2∈seen:=by
 intro e he;unfold rD at h;simp only[I6,Fo] at h;rcases h with h|⟨x,_,hx⟩
 .split at h
  .rename_i hemp;rw[List.isEmpty_iff,List.filter_eq_nil_iff] at hemp;by_cases hs:e.2.2∈seen
   .exact hs
   .exfalso;refine hemp e (Hq.2 ⟨he,by simpa using hs⟩) (by simpa using hb e he)
  .cases h
 .cases hx
theorem Ii{es:oE}{k:Value}(h:some (k,g,n)∈rD es since seen):(k,g,n)∈es/\n∉seen:=by
 unfold rD at h;simp only[I6,Fo] at h;rcases h with h|⟨x,hx,a⟩
 .split at h
  .simp at h
  .cases h
 .cases a;have hm:(k,g,n)∈es.filter λe=> !seen.contains e.2.2:=by
   rcases hx with hx|hx
   .exact(Hq.1 hx).1
   .exact(Hq.1 hx).1
  obtain⟨h1,h2⟩:=Hq.1 hm;refine⟨h1,λhs=>?_⟩;simp[hs] at h2
section
variable {P:Br}
theorem NB{es:oE}{k:Value}(h:(k,g,n)∈es)(hn:n∉seen):(es.filter λe=> !(seen++[n]).contains e.2.2).length<(es.filter λe=> !seen.contains e.2.2).length:=by
 induction es with
 |nil=>cases h
 |cons e r ih=>
  have mono:∀(r:oE),(r.filter λe=> !(seen++[n]).contains e.2.2).length<=(r.filter λe=> !seen.contains e.2.2).length:=by intro r;induction r<;>grind
  grind
theorem J1{it a b iti mi clock since id b0:Nat}{T ty ty1 ty2:Bn}{pos1 pos2:String}{af1 af2:Array Edge}{bd:Code}{es:oE}{S:Bq->St}{Q:Exit->St->Prop}(I:Bq->Prop)(hI:I [])
  (hlt:∀e∈es,e.2.2<clock) (d:since=clock) (h0:Le P st (S [])) (f:∀seen,gR (S seen).σ (aB (S seen) (.tmp it))=some (iti,T,some mi,since,seen,clock)) (hmap:∀seen,Lv (S seen).σ (.mref mi)=some (mi,ty,es,clock))
  (hn:∀seen,a<(S seen).n/\b<(S seen).n)
  (body:∀seen k g n,I seen->(k,g,n)∈es->n∉seen->Tr P bd {S seen with fr:=(b,.lit (.bool true))::(a,.tup [.lit (.bool true),db k,g])::(S seen).fr,σ:=(iti,some ⟨T,[],some (.iter (some mi) since (seen++[n]) clock)⟩)::(S seen).σ} (uE (λs=>I (seen++[n])/\Le P s (S (seen++[n]))) (pu b0 Q)))
  (fin:∀seen,I seen->(∀e∈es,e.2.2∈seen)->Q .normal {S seen with fr:=(b,.lit (.bool false))::(a,.tup [.lit (.bool false)])::(S seen).fr}):
  Tr P (.block b0 (.loop (.seq (.region id #[⟨some a,.next (.tmp it) false,ty1,pos1,af1,none⟩,⟨some b,.extract (.tmp a) 0,ty2,pos2,af2,none⟩] false) (.seq (.cond (.tmp b) .skip (.exit b0)) bd)))) st Q:=by
 refine BI (L4 (λq:{seen:Bq//I seen}=>S q.1) (λq=>(es.filter λe=> !q.1.contains e.2.2).length) ⟨[],hI⟩ h0 λ⟨seen,c⟩=>?_)
 dsimp only
 have hok:pD es seen clock=true:=by unfold pD;cases es<;>grind
 refine BH (lG (l:=[⟨some a,.next (.tmp it) false,ty1,pos1,af1,none⟩,⟨some b,.extract (.tmp a) 0,ty2,pos2,af2,none⟩]) (.inl ⟨rfl,?_⟩))
 refine(Mf rfl (by grind) (f seen) (hmap seen) hok).eqv λs hs=>⟨s,?_,XV.refl _⟩
 have ext:∀(g:G) (r:Bk) (s1:St),s1.n=(S seen).n->aD s1.fr a= .tup (g::r)->∀{K:St->Prop},K (s1.put (some b) g)->vU P #[⟨some a,.next (.tmp it) false,ty1,pos1,af1,none⟩,⟨some b,.extract (.tmp a) 0,ty2,pos2,af2,none⟩] K [⟨some b,.extract (.tmp a) 0,ty2,pos2,af2,none⟩] s1:=by intro g r s1 h1 h2 K j;refine .inl ⟨rfl,((fM (g:=g) (by grind) ?_).gsn).eqv λs2 i=>⟨s2,by rw[i];exact j,XV.refl _⟩⟩;rw[J9];show HS 0 (aD s1.fr a)=some g;rw[h2];rfl
 rcases hs with⟨hc,rfl⟩|⟨k,g,n,hc,rfl⟩
 .refine ext (.lit (.bool false)) [] _ ?_ ?_ ?_
  .rfl
  .show aD ((a,_)::_) a=_
   grind
  refine wm (BH (wk (t:=false) ?_ (Fz ?_)))
  .show aD ((b,_)::_) b=_
   grind
  refine DU aC (DU aC ?_)
  simp only[pu,Bz]
  exact fin seen c (Ih (by grind) hc)
 .obtain⟨h1,h2⟩:=Ii hc
  refine ext (.lit (.bool true)) [db k,g] _ ?_ ?_ ?_
  .rfl
  .show aD ((a,_)::_) a=_
   grind
  refine wm (BH (wk (t:=true) ?_ (Fy ?_)))
  .show aD ((b,_)::_) b=_
   grind
  exact wm (Tr.mono (body seen k g n c h1 h2) λe s hs=>Hu (λs h=>⟨⟨seen++[n],h.1⟩,h.2,NB h1 h2⟩) (by grind) hs)
end
section
variable {P:Br} {sA:St} {mi:Nat} {hs:List Hn}
def YT(d:Nat){σ:aQ}{x g:G}(h:jr σ x=some g):HP:=⟨some (.m d g),jr (UI σ (Aa5 σ x)) x=some g,by rw[(VG λi hi=>(Hl i hi).symm).1];exact h⟩
theorem EK{n:Nat}{k:Value}{g:G}:∀{es:oE},(es.map (·.2.2)).Nodup->(k,g,n)∈es->es.find? (λe=>Nat.beq e.2.2 n)=some (k,g,n)
 |[],_,h=>by cases h
 |e::r,hd,h=>by
  rw[Fi,Mi] at hd;rcases EZ.1 h with rfl|h
  .simp
  .have hne:e.2.2≠n:=λe2=>hd.1 (by rw[e2];exact Fo.2 ⟨_,h,rfl⟩);have hb:Nat.beq e.2.2 n=false:=by
    cases hb:Nat.beq e.2.2 n with
    |true=>exact absurd (bc hb) hne
    |false=>rfl
   rw[List.find?_cons,hb];exact EK hd.2 h
theorem yo{σ:aQ}{iti mi since clock n:Nat}{T ty:Bn}{seen:Bq}{es:oE}{k:Value}{v:G}(hi:gR σ g=some (iti,T,some mi,since,seen++[n],clock))(hm:Lv σ (.mref mi)=some (mi,ty,es,clock))(hd:(es.map (·.2.2)).Nodup)(h:(k,v,n)∈es):jr σ g=some (.tup [db k,v]):=by unfold jr;rw[hi];simp only[hm,List.getLast?_append,List.getLast?_singleton,Option.some_or,Nat.beq_refl,ax,EK hd h]
def ZY(P:Br)(hs:List Hn)(sA:St)(o:Oper):Option (Lq×G):=match syO P o sA hs 0 with
 |some (C,g,[],[],none)=>some (C.toList,g)
 |_=>none
theorem Wr{C:Lq}{d:Nat}(h:ZY P hs sA o=some (C,g))(hC:∀p∈C,p)(hd:o.dst=some d)(hn:d<sA.n)(hg:aD sA.fr d=g):VE P sA mi o:=by
 refine⟨d,hd,λs e1 e2 e3 e4 e5=>?_⟩;unfold ZY at h;split at h
 .rename_i C' a hx;cases h;have:=(Acl (X:=True) (λx hx=>by rw[hd] at hx;cases hx;exact hn) hx (by cases C' with|none=>trivial|some p=>exact⟨hC p aC,trivial⟩)).1 s ⟨e1,e2,e3,λh=>(by cases h),λi hi=>(by cases hi),e4⟩;rw[hg,<-hd];exact this
 .cases h
def IC(P:Br)(hs:List Hn)(mi:Nat):IH->St->Fr->Option Fr
 |[],s,V=>some V
 |o::r,s,V=>match o.op with
  | .makeMap .. =>(match o.dst with
   |some d=>IC P hs mi r {s with fr:=(d,.mref mi)::s.fr} ((d,.mref mi)::V)
   |none=>none)
  | .insert .. =>IC P hs mi r s V
  | .range .. =>(match o.dst with
   |some d=>IC P hs mi r {s with fr:=(d,.ref (mi+1) 0)::s.fr} ((d,.ref (mi+1) 0)::V)
   |none=>none)
  |_=>(match o.dst,ZY P hs s o with
   |some d,some (_,g)=>IC P hs mi r {s with fr:=(d,g)::s.fr} ((d,g)::V)
   |_,_=>none)
def U3(P:Br)(hs:List Hn)(st:St)(l:IH):Fr:=(IC P hs st.c l st []).getD []
def EL(P:Br)(hs:List Hn)(sA:St)(mi:Nat):IH->Option (Lq×Bk×Bk)
 |[]=>some ([],[],[])
 |o::r=>match EL P hs sA mi r with
  |none=>none
  |some (C,a,b)=>match o.op with
   | .makeMap .. =>bif(match o.dst with
    |some d=>iF 16 (aD sA.fr d) (.mref mi)
    |none=>false)then some (C,a,b)else none
   | .insert _ x _ _=>bif iF 16 (aB sA x) (.mref mi)then some (C,a,b)else none
   | .range _ x=>bif(iF 16 (aB sA x) (.mref mi)&&(match o.dst with
    |some d=>iF 16 (aD sA.fr d) (.ref (mi+1) 0)
    |none=>false))then some (C,a,b)else none
   |_=>match o.dst with
    |some d=>bif Nat.blt d sA.n then(match ZY P hs sA o with
     |some (D,g)=>some (D++C,g::a,aD sA.fr d::b)
     |none=>none)else none
    |none=>none
theorem KR{c:Bool}{a r:α}(h:(bif c then some a else none)=some r):c=true/\a=r:=by
 cases c
 .cases h
 .cases h;exact⟨rfl,rfl⟩
theorem IE:∀(l:IH) (C:Lq) (a b:Bk),EL P hs sA mi l=some (C,a,b)->(∀p∈C,p)->a=b->∀o∈l,lN P sA mi o
 |[],C,a,b,h,_,_,o,ho=>by cases ho
 |x::r,C,a,b,h,hC,c,o,ho=>by
  unfold EL at h;split at h
  .cases h
  rename_i f a1 b1 h1;have rest:(∀p∈f,p)->a1=b1->o∈r->lN P sA mi o:=λhc he hm=>IE r f a1 b1 h1 hc he o hm;split at h
  .rename_i e;obtain⟨hb,hq⟩:=KR h;cases hq;rcases EZ.1 ho with rfl|ho
   .unfold lN;rw[e];exact hb
   .exact rest hC c ho
  .rename_i e;obtain⟨hb,hq⟩:=KR h;cases hq;rcases EZ.1 ho with rfl|ho
   .unfold lN;rw[e];exact hb
   .exact rest hC c ho
  .rename_i e;obtain⟨hb,hq⟩:=KR h;cases hq;rcases EZ.1 ho with rfl|ho
   .unfold lN;rw[e];exact hb
   .exact rest hC c ho
  .rename_i c1 c2 c3;split at h
   .rename_i d hd;cases hk:Nat.blt d sA.n with
    |false=>rw[hk] at h;cases h
    |true=>
     rw[hk] at h;simp only[ax] at h;split at h
     .rename_i D g hv;cases h;simp only[List.cons.injEq] at c;rcases EZ.1 ho with rfl|ho
      .unfold lN;split
       .rename_i e;exact absurd e (c1 _ _)
       .rename_i e;exact absurd e (c2 _ _ _ _)
       .rename_i e;exact absurd e (c3 _ _)
       .exact Wr hv (λp hp=>hC p (List.mem_append_left _ hp)) hd (Fe hk) c.1.symm
      .exact rest (λp hp=>hC p (List.mem_append_right _ hp)) c.2 ho
     .cases h
   .cases h
end
section
variable {P:Br} [M:Mix P] {st:St} {Q:Exit->St->Prop} {fn:Func} {Bs:List (St->Prop)} {m:Bool} {p:Bq}
def Ws(x:Option (Lq×Bk×Bk)):Bk:=match x with|some (_,a,_)=>a|none=>[]
def IF:Code->IH
 | .region _ ops true=>ops.toList
 |_=>[]
def aaG:Code->Bool
 | .region _ _ true=>true
 |_=>false
theorem dMl(T kt et:Bn)(a:Nat)(A:List HP)
  (hQ:∀es clock,Y5 ((IF (bq p (ai fn))).filterMap (mM (iH st (U3 P (bK A) st (IF (bq p (ai fn))))))) es clock->Gp P fn Q Bs true p {st with fr:=U3 P (bK A) st (IF (bq p (ai fn)))++st.fr,σ:=(st.c+1,some ⟨T,[],some (.iter (some st.c) clock [] clock)⟩)::(st.c,some ⟨T,[],some (.map es clock)⟩)::st.σ,c:=st.c+2})
  (hc:EL P (bK A) (iH st (U3 P (bK A) st (IF (bq p (ai fn))))) st.c (IF (bq p (ai fn)))=some (pR A,Ws (EL P (bK A) (iH st (U3 P (bK A) st (IF (bq p (ai fn))))) st.c (IF (bq p (ai fn)))),Ws (EL P (bK A) (iH st (U3 P (bK A) st (IF (bq p (ai fn))))) st.c (IF (bq p (ai fn))))):=by kernel_rfl)
  (hs:JZ P st.n T kt et (IF (bq p (ai fn))) a=true:=by kernel_rfl) (hv:((U3 P (bK A) st (IF (bq p (ai fn)))).all λq=>(IF (bq p (ai fn))).any λo=>rk o q.1)=true:=by kernel_rfl) (hi:aaG (bq p (ai fn))=true:=by kernel_rfl):Gp P fn Q Bs false p st:=by
 show Tr P (bq p (ai fn)) st (dz P (bE p (ai fn) Bs []) Q)
 generalize hcd:bq p (ai fn)=c at hQ hc hs hv hi⊢
 generalize Ws _=gs at hc
 cases c with
 |region id ops d=>
  cases d with
  |false=>cases hi
  |true=>
   have:=J0 (id:=id) M.mx hs hv (IE _ _ _ _ hc (wR A) rfl) (Q:=dz P (bE p (ai fn) Bs []) Q) hQ
   rw[show ops=(IF (.region id ops true)).toArray from Array.toArray_toList.symm]
   exact this
 |_=>cases hi
theorem dRe(J:St)(O:List HP)(kk:Gp P fn Q Bs false p J)(vs:List Bn:=[])(ρ:DE:=[])(kd:List (Nat×Rk):=[])(e:Iw P vs ρ kd J st=some (pR O,J):=by kernel_rfl):Gp P fn Q Bs false p st:=Tr.le kk (sR e (wR O))
def U4(c a b:Nat):IH->Bool
 |[⟨some a1,.next (.tmp it1) false,_,_,_,none⟩,⟨some b1,.extract (.tmp a2) 0,_,_,_,none⟩]=>Nat.beq a1 a&&Nat.beq it1 c&&Nat.beq b1 b&&Nat.beq a2 a
 |_=>false
def Wt(c a b b0:Nat):Code->Bool
 | .block b1 (.loop (.seq (.region _ ops false) (.seq (.cond (.tmp b') .skip (.exit b2)) _)))=>Nat.beq b1 b0&&Nat.beq b2 b0&&Nat.beq b' b&&U4 c a b ops.toList
 |_=>false
def YU:Code->Code
 | .block _ (.loop (.seq _ (.seq _ bd)))=>bd
 |_=> .skip
theorem Ty{it b0:Nat}{c:Code}(h:Wt it a b b0 c=true):∃id i j f g af1 k,c= .block b0 (.loop (.seq (.region id #[⟨some a,.next (.tmp it) false,i,f,af1,none⟩,⟨some b,.extract (.tmp a) 0,j,g,k,none⟩] false) (.seq (.cond (.tmp b) .skip (.exit b0)) (YU c)))):=by
 unfold Wt at h;split at h
 .rename_i b1 id ops b' b2 bd;simp only[bA] at h;obtain⟨⟨⟨h1,h2⟩,h3⟩,h4⟩:=h;obtain rfl:=bc h1;obtain rfl:=bc h2;obtain rfl:=bc h3;unfold U4 at h4;split at h4
  .rename_i a1 s l n f1 o a2 t2 q f2 d;simp only[bA] at h4;obtain⟨⟨⟨k1,k2⟩,k3⟩,r⟩:=h4;obtain rfl:=bc k1;obtain rfl:=bc k2;obtain rfl:=bc k3;obtain rfl:=bc r;have e:=congrArg List.toArray d;rw[Array.toArray_toList] at e;refine⟨id,l,t2,n,q,f1,f2,?_⟩;rw[e];rfl
  .cases h4
 .cases h
theorem dMw(j a b b0:Nat){iti mi clock since:Nat}{T ty:Bn}{es:oE}(S:Bq->St)(I:Bq->Prop)(hI:I [])
  (hlt:∀e∈es,e.2.2<clock) (c:since=clock) (h0:Le P st (S [])) (f:∀seen,gR (S seen).σ (aB (S seen) (.tmp j))=some (iti,T,some mi,since,seen,clock)) (hmap:∀seen,Lv (S seen).σ (.mref mi)=some (mi,ty,es,clock))
  (hn:∀seen,a<(S seen).n/\b<(S seen).n)
  (body:∀(B:St->Prop) seen k g n,I seen->(k,g,n)∈es->n∉seen->(I (seen++[n])->B (S (seen++[n])))->Gp P fn Q (Bs++[B]) false (p++[2,2,1,1]) {S seen with fr:=(b,.lit (.bool true))::(a,.tup [.lit (.bool true),db k,g])::(S seen).fr,σ:=(iti,some ⟨T,[],some (.iter (some mi) since (seen++[n]) clock)⟩)::(S seen).σ})
  (fin:∀seen,I seen->(∀e∈es,e.2.2∈seen)->Gp P fn Q Bs true p {S seen with fr:=(b,.lit (.bool false))::(a,.tup [.lit (.bool false)])::(S seen).fr})
  (d:Wt j a b b0 (bq p (ai fn))=true:=by kernel_rfl) (i:YU (bq p (ai fn))=bq (p++[2,2,1,1]) (ai fn):=by kernel_rfl)
  (q:∀B,bE (p++[2,2,1,1]) (ai fn) (Bs++[B]) []= .lp B:: .blk b0::bE p (ai fn) Bs []:=by intro B;kernel_rfl):Gp P fn Q Bs false p st:=by
 show Tr P (bq p (ai fn)) st (dz P (bE p (ai fn) Bs []) Q)
 obtain⟨id,r,s,l,o,af1,v,hcd⟩:=Ty d
 rw[hcd,i]
 refine J1 (iti:=iti) (mi:=mi) (clock:=clock) (since:=since) (T:=T) (ty:=ty) (es:=es) (S:=S) I hI hlt c h0 f hmap hn (λseen k g n hi hm hns=>?_) λseen hi hs=>fin seen hi hs
 have:=body (λt=>t=S (seen++[n])/\I (seen++[n])) seen k g n hi hm hns λh=>⟨rfl,h⟩
 unfold Gp at this
 rw[q] at this
 refine Tr.mono this λe t ht=>?_
 unfold dz at ht
 cases e with
 |normal=>
  unfold uE at ht⊢
  obtain⟨u,hu,rfl,hx⟩:=ht
  exact⟨hx,hu⟩
 |_=>unfold uE at ht⊢;exact ht
end
section
variable {P:Br}
def U5(P:Br)(gl:Cd)(fid:FuncId)(gs:Bk)(σR:aQ)(c:Nat){ι:Type}(g:ι->G)(U:ι->aQ)(c':ι->Nat):Prop:=∀(o:Oper) (st:St) (y:Dq) (xs:Array Dq) (ats:Array Bn) (fst cap:Bk),o.op= .call {callee:= .value y,args:=xs,argTypes:=ats}->(∀d,o.dst=some d->d<st.n)->aB st y= .clo (.func fid) fst cap->fst++xs.toList.map (aB st)++cap=gs->st.gl=gl->(∀q∈σR,ag st.σ q.1=q.2)->st.c=c->th P o st (λs=>∃x,s={st with σ:=U x++st.σ,c:=c' x}.put o.dst (g x))
theorem U6{gl:Cd}{gs0 gs:Bk}{ι:Type}{σ0 σR:aQ}{σ1:ι->aQ}{r g:ι->G}{c:Nat}{c1 c':ι->Nat}(L:Bq)(U:ι->aQ)(hM:Xx P gl fid gs0 σ0 L.length r σ1 c1)
  (hin:w6 (vi L) σR σ0 0 L) (d:∀x,oI (GR L c) (σ1 x) (U x)) (hlt:L.all (λi=>Nat.blt i c)=true:=by kernel_rfl) (hnd:decide L.Nodup=true:=by kernel_rfl) (hgs:gs.map (qg (vi L) 20)=gs0:=by kernel_rfl)
  (hk0:σ0.all (λq=>Nat.blt q.1 L.length)=true:=by kernel_rfl) (hcov:∀x,(List.range L.length).all (λk=>(U x).any λq=>Nat.beq q.1 k)=true) (hg:∀x,qg (GR L c) 20 (r x)=g x) (hc:∀x,c+(c1 x-L.length)=c' x) (hR:σR.all (λq=>q.2.isSome)=true:=by kernel_rfl):U5 P gl fid gs σR c g (λx=>zO L c (U x)) c':=by
 intro o st y xs ats fst cap ho hd hf a hgl hq hsc
 have j:=hin.get
 have hgetR:∀i o,ag σR i=some o->ag st.σ i=some o:=λi o hh=>by
  have:∀l:aQ,(∀q∈l,q∈σR)->ag l i=some o->ag st.σ i=some o:=by
   intro l;induction l with
   |nil=>intro _ h;cases h
   |cons q t ih=>grind
  grind
 have key:=MC (o:=o) (st:=st) (f:=y) (xs:=xs) (ats:=ats) (fid:=fid) (fst:=fst) (cap:=cap) L (gs0:=gs0) (σ0:=σ0) (r:=r) (σ1:=σ1) (c1:=c1) ho hd hf (by rw[hgl];exact hM) (λk i hk=>by
   have:=Gu.1 hlt i (bO hk);simp_all) (DD hnd) (by rw[a,hgs]) (by grind) (λk o hkk=>by
   have:∀l:aQ,(∀q∈l,q∈σ0)->ag l k=some o->k<L.length:=by
    intro l;induction l with
    |nil=>intro _ h;cases h
    |cons q t ih=>
     intro hs h;rw[show(q::t:aQ)=(q.1,q.2)::t from rfl,Bc] at h;split at h
     .rename_i e;subst e;exact Fe (Gu.1 hk0 q (by grind))
     grind
   grind) (λx=>zO L c (U x)++st.σ) (λx i o hh=>by
   have:∀l:aQ,(∀q∈l,q∈U x)->ag (zO L c l++st.σ) i=some o->(∃k,(k,some o)∈U x/\GR L c k=some i)\/(ag st.σ i=some o/\∀q∈l,GR L c q.1≠some i):=by intro l;induction l<;>grind [zO,GR]
   rcases this (U x) (λ_ h=>h) hh with⟨k,b,h1⟩|⟨h1,h2⟩
   .grind [oI.get]
   .refine .inr ⟨h1,λhi=>?_⟩;obtain⟨k,hk⟩:=G9 hi;have hkl:=(cr hk).1;obtain⟨q,b,he⟩:=List.any_eq_true.1 (Gu.1 (hcov x) k (List.mem_range.2 hkl));refine h2 q b ?_;rw[bc he];unfold GR;rw[hk])
 grind
end
section
variable {P:Br} [M:Mix P] {st:St} {Q:Exit->St->Prop} {fn:Func} {Bs:List (St->Prop)} {m:Bool} {p:Bq} {ι:Type}
def YV(a b d:Nat):Code->Bool
 | .region _ ops false=>match ops.toList with
  |[⟨some a',.move _,_,_,_,none⟩,⟨some b',.call {callee:= .value _,args:=_,argTypes:=_},_,_,_,none⟩,⟨some d',.assign (.tmp b2),_,_,_,none⟩]=>Nat.beq a' a&&Nat.beq b' b&&Nat.beq d' d&&Nat.beq b2 b
  |_=>false
 |_=>false
def Z0:Code->Dq
 | .region _ ops _=>match ops.toList with
  |[⟨_,.move x,_,_,_,_⟩,_,_]=>x
  |_=> .tmp 0
 |_=> .tmp 0
def c3Y:Code->Dq
 | .region _ ops _=>match ops.toList with
  |[_,⟨_,.call {callee:= .value y,args:=_,argTypes:=_},_,_,_,_⟩,_]=>y
  |_=> .tmp 0
 |_=> .tmp 0
def c3A:Code->List Dq
 | .region _ ops _=>match ops.toList with
  |[_,⟨_,.call {callee:= .value _,args:=xs,argTypes:=_},_,_,_,_⟩,_]=>xs.toList
  |_=>[]
 |_=>[]
theorem U7{K:St->Prop}{st st1:St}(hg:o.guard=none)(hs:GS P o st st1)(h:vU P ops K rest st1):vU P ops K (o::rest) st:= .inl ⟨by simp[ce,hg],hs.gsn.eqv (by grind [XV.refl])⟩
theorem YW{K:St->Prop}{st:St}{S:St->Prop}(hg:o.guard=none)(hs:th P o st S)(h:∀s,S s->vU P ops K rest s):vU P ops K (o::rest) st:= .inl (by grind [ce,th.eqv,XV.refl])
theorem dCl(a b d:Nat){gs:Bk}{σR:aQ}{g:ι->G}{U:ι->aQ}{c':ι->Nat}{fst cap:Bk}(hF:U5 P st.gl fid gs σR st.c g U c')
  (h:∀x,Gp P fn Q Bs true p {st with fr:=(d,g x)::(b,g x)::(a,aB st (Z0 (bq p (ai fn))))::st.fr,σ:=U x++st.σ,c:=c' x})
  (hi:YV a b d (bq p (ai fn))=true:=by kernel_rfl) (hy:aB {st with fr:=(a,aB st (Z0 (bq p (ai fn))))::st.fr} (c3Y (bq p (ai fn)))= .clo (.func fid) fst cap:=by kernel_rfl)
  (hx:fst++(c3A (bq p (ai fn))).map (aB {st with fr:=(a,aB st (Z0 (bq p (ai fn))))::st.fr})++cap=gs:=by kernel_rfl)
  (hR:σR.map (λq=>ag st.σ q.1)=σR.map (·.2):=by kernel_rfl) (hn:(Nat.blt a st.n&&Nat.blt b st.n&&Nat.blt d st.n)=true:=by kernel_rfl):Gp P fn Q Bs false p st:=by
 show Tr P (bq p (ai fn)) st (dz P (bE p (ai fn) Bs []) Q)
 replace h:∀x,dz P (bE p (ai fn) Bs []) Q .normal _:=h
 revert hi hy hx h
 generalize bq p (ai fn)=c
 intro hi hy hx h
 unfold YV at hi
 split at hi
 .rename_i id ops
  split at hi
  .rename_i a' x k o f1 b' y xs ats t2 r f2 A b2 t u v f
   simp only[bA] at hi hn
   obtain⟨⟨⟨k1,k2⟩,k3⟩,i⟩:=hi
   obtain⟨⟨n1,n2⟩,j⟩:=hn
   obtain rfl:=bc k1
   obtain rfl:=bc k2
   obtain rfl:=bc k3
   obtain rfl:=bc i
   have e:=congrArg List.toArray f
   rw[Array.toArray_toList] at e
   subst e
   simp only[Z0,c3Y,c3A] at h hy hx
   refine lG (U7 rfl (fM (g:=aB st x) (λz hz=>by cases hz;exact Fe n1) rfl) (YW rfl (hF _ _ y xs ats fst cap rfl (λz hz=>by cases hz;exact Fe n2) hy hx rfl (λq hq=>?_) rfl) ?_))
   .have:∀l:aQ,l.map (λq=>ag st.σ q.1)=l.map (·.2)->∀q∈l,ag st.σ q.1=q.2:=by simp_all
    exact this σR hR q hq
   .rintro s ⟨z,rfl⟩
    refine U7 rfl (fM (g:=g z) (λw hw=>by cases hw;exact Fe j) ?_) (h z)
    exact congrArg some ((aO ..).trans (Bz rfl))
  .cases hi
 .cases hi
def YX(P:Br)(fn:Func)(gl:Cd){ι:Type}(r:ι->G)(σ1:ι->aQ)(c1:ι->Nat)(e:Exit)(s:St):Prop:=(e= .normal\/e= .ret)/\s.gl=gl/\∃x,(∀k o,ag (σ1 x) k=some o->ag s.σ k=some o)/\s.c=c1 x/\∃a,fn.results.toList.mapM (jV P s)=some a/\r x=iU a
theorem YY{gl:Cd}{r:ι->G}{σ1:ι->aQ}{c1:ι->Nat}{ex:Exit}{S0:St}(x:ι)(h:Ok P fn gl (r x) (σ1 x) (c1 x) ex S0):YX P fn gl r σ1 c1 ex S0:=by obtain⟨h1,h2,h3,h4,h5⟩:=h;exact⟨h1,h2,x,h3,h4,h5⟩
theorem dMF{gl:Cd}{f:FuncId}{gs:Bk}{σ0:aQ}{c0:Nat}{r:ι->G}{σ1:ι->aQ}{c1:ι->Nat}(hf:P.funcs[f]?=some fn)(h:Gp P fn (YX P fn gl r σ1 c1) [] false [] ⟨fn.ntmps,gl,bQ 0 gs,σ0,c0,c0,false⟩)(hc:aK P f=true:=by kernel_rfl)(hb:fn.body.isSome=true:=by kernel_rfl)(hn:Nat.ble gs.length fn.ntmps=true:=by kernel_rfl):Xx P gl f gs σ0 c0 r σ1 c1:=by
 obtain⟨body,hb'⟩:=VB.1 hb;refine⟨hc,fn,body,hf,hb',Fe hn,?_⟩;have e:ai fn=body:=by grind [ai]
 rw[<-e];exact Tr.leQ h
end
section
attribute [local irreducible] Tr dz Gp
section
variable {P:Br}
theorem AfI{st:St}{ρ:DE}:∀{l:aQ},(∀q∈l,∃j,dq ρ q.1=some j/\Yi (IX ρ) (ag st.σ j) q.2)->Dp P st ρ l
 |[],_=>BT
 |(i,o)::r,h=>by obtain⟨j,h1,h2⟩:=h (i,o) aC;exact Abf h1 h2 (AfI (by grind))
def GE(f:Nat->Nat):DE:=L0.map λk=>(k,f k)
def okF(f:Nat->Nat):Bool:=L0.all λk=>(match IX (GE f) (f k) with|some j=>Nat.beq j k|none=>false)&&(match dq (GE f) k with|some j=>Nat.beq j (f k)|none=>false)
theorem AfJ{f:Nat->Nat}(h:okF f=true)(hk:k<14):IX (GE f) (f k)=some k/\dq (GE f) k=some (f k):=by have:=Gu.1 h k (by have:k∈List.range 14:=List.mem_range.2 hk;exact this);grind [bc]
def rlD(P:Br)(hs:List Hn)(m:Code⊕Exit)(K:List Kf)(fn:Func)(f:Nat->Nat)(R':Ad)(r:G)(st:St):Option (Prop×Bq×Lq):=match sy P hs 1000000 1000 m K st with
 |some (C,u,.fin e s)=>match tc e,vR P s fn.results.toList with
  |true,some gs=>bif ER (GE f) s.p then some (C,u,(iU gs=r/\bB r)::L0.map λk=>∀ob,Bv f R' k=some ob->ag s.σ (f k)=some ob)else none
  |_,_=>none
 |_=>none
section
variable [M:Mix P] {fn:Func} {r:G} {Bs:List (St->Prop)} {m:Bool} {p:Bq} {st:St}
theorem Hm(f:Nat->Nat)(R':Ad)(hR:Bi R')(A O:List HP)(hf:okF f=true:=by kernel_rfl)(hk:Uf A (rlD P (bK A) (Ly m p (ai fn)) (bE p (ai fn) Bs []) fn f R' r st) (pR O):=by exact⟨aH,aH⟩):Gp P fn (zE P fn r (BG f0 R')) Bs m p st:=by
 obtain⟨C,u,hC,e⟩:=hk.out;unfold Gp;unfold rlD at e;split at e
 .rename_i b c x s h1;split at e
  .rename_i gs hx hg;cases hb:ER (GE f) s.p with
   |false=>rw[hb] at e;cases e
   |true=>
    rw[hb] at e;simp only[ax,Fm,Fw] at e;obtain⟨rfl,rfl,hL⟩:=e;have hp:∀q∈(iU gs=r/\bB r)::L0.map λk=>∀ob,Bv f R' k=some ob->ag s.σ (f k)=some ob,q:=by rw[hL];exact wR O
    obtain⟨rfl,hi⟩:=hp _ (List.mem_cons_self ..);simp only[ER,bA] at hb;obtain⟨⟨k1,k2⟩,k3⟩:=hb;refine oK M.mx (out:= .fin x s) ⟨s,Le.refl _,eO hx,gs,GE f,gh hg,λi hi=>?_,λi d j h1 h2=>?_,ry hi,AfI λq hq=>?_⟩ 1000 _ _ _ _ _ h1 hC
    .grind [bc]
    .have:=Gu.1 (Gu.1 k2 _ (Gt h1)) _ (Gt h2);grind [Nat.beq_refl,bc]
    .rw[Hw] at hq;obtain⟨k,hk,rfl⟩:=Fo.1 hq;have hk':=List.mem_range.1 hk;obtain⟨g1,g2⟩:=AfJ hf hk';refine⟨f k,g2,λa h=>?_⟩;obtain⟨ob,h2,h3⟩:=PN (λk ⟨ob,h⟩=>(AfJ hf (DY h)).1) hR k a h;exact⟨ob,hp (∀ob,Bv f R' k=some ob->ag s.σ (f k)=some ob) (List.mem_cons_of_mem _ (Fo.2 ⟨k,hk,rfl⟩)) ob h2,h3⟩
  .cases e
 .cases e
def hme(d:Nat)(R:Bq)(c:Nat){σ:aQ}{t:Bn}{gm gk g:G}{i:Nat}{ob:Ob}(h:ov P σ t gm gk=some (i,ob,g)):HP:=⟨some (.e d g i ob),ov P (UI σ (fR gm)) t gm gk=some (i,ob,g),(Aff Hl).symm.trans h⟩
def hms(d:Nat)(R:Bq)(c:Nat){σ:aQ}{gm gs g:G}{i:Nat}{ob:Ob}(h:jX σ gm gs g=some (i,ob)):HP:=⟨some (.e (2000000+d) (.lit undef) i ob),jX (UI σ (fR gm)) gm gs g=some (i,ob),(AiC Hl).symm.trans h⟩
def KY(d:Nat){σ:aQ}{t:Bn}{ok:Bool}{i:Nat}{gk g:G}(h:bL P σ t ok (.mref i) gk=some g):HP:=⟨some (.m d g),bL P σ t ok (.mref i) gk=some g,h⟩
def hmp(c:Nat){σ:aQ}{t:Bn}{gm gk g:G}{i:Nat}{ob:Ob}(h:dZ P σ t gm gk g=some (i,ob)):HP:=⟨some (.e 999999998 (.lit undef) i ob),dZ P (UI σ (fR gm)) t gm gk g=some (i,ob),(aal Hl).symm.trans h⟩
def hmd(c:Nat){σ:aQ}{t:Bn}{gm gk:G}{i:Nat}{ob:Ob}(h:FN P σ t gm gk=some (i,ob)):HP:=⟨some (.e 999999998 (.tup []) i ob),FN P (UI σ (fR gm)) t gm gk=some (i,ob),(Afg Hl).symm.trans h⟩
end
end
def Dx(R:Ad)(d:Int):Int:=(DS (R.cards.get d)).Member
def D4(R:Ad)(d:Int):Bool:=decide (0<Dx R d)&& !(Hj (R.was.get d))
def PO(R:Ad)(d:Int):Bool:=Hj (R.in_.get d)
def MI(R:Ad)(m:Int):Int:=match R.members.get m with
 |none=>0
 |some x=>x.role
theorem Adt(k:Int):Instr.sameBits 10000 (JN k) (JN k)=true:=by simp[JN,Instr.sameBits]
def JP(m:FM Int AA):FM Int JK:=⟨m.es.map λe=>(e.1,some e.1,e.2.2),m.clk⟩
def vgM(f:Nat->Nat):JK->G
 |none=>Acw
 |some k=> .ref (f (nM k)) 0
theorem ZJ(m:FM Int AA)(k:Int):(JP m).get k=(m.get k).map λ_=>some k:=by unfold FM.get JP;dsimp only;induction m.es<;>grind
theorem Q2(f:Nat->Nat)(R:Ad):Si f R=Ng Xc JN (vgM f) (JP R.members):=by show(⟨_,_,some (.map _ _)⟩:Ob)=⟨_,_,some (.map _ _)⟩;unfold JP X3 Xd;dsimp only;rw[Iu];rfl
theorem Aec(m:FM Int AA)(k:Int):Sq (JP m) k=JP (Sq m k):=by
 unfold Sq;have:(JP m).es.map (·.1)=m.es.map (·.1):=by unfold JP;rw[Iu];rfl
 grind [JP,Aaq]
def ptM(R:Ad)(m:Int):G:=if(R.members.get m).isSome then .ref (nM m) 0 else Acw
theorem AfK(R:Ad)(m:Int){σ:aQ}(h:ag σ 4=some (Si f0 R)):bL prog σ Xc false (.mref 4) (iG m)=some (ptM R m):=by rw[Q2] at h;rw[Te (P:=prog) (t:=Xc) (kt:=3) (et:=183) PE aH (k:=m) rfl h,FM.look1 (et:=183) PE (v0:=none) aH aH (JP R.members) m rfl,ZJ];unfold ptM;cases R.members.get m<;>rfl
theorem AjM(R:Ad)(m:Int):bL prog [(4,some (Si f0 R))] Xc false (.mref 4) (iG m)=some (ptM R m):=AfK R m rfl
theorem Sm{R:Ad}{x:AA}(hm:R.members.get m=some x):bL prog [(4,some (Si f0 R))] Xc false (.mref 4) (iG m)=some (.ref (nM m) 0):=(AfK R m rfl).trans (by unfold ptM;rw[hm];rfl)
theorem Xe{R:Ad}{m:Int}(hm:R.members.get m=none):bL prog [(4,some (Si f0 R))] Xc false (.mref 4) (iG m)=some Acw:=(AfK R m rfl).trans (by unfold ptM;rw[hm];rfl)
abbrev inR(R:Ad)(d:Int):Ad:={R with in_:=C6 R.in_ d true,was:=C6 R.was d true}
def Jb(R:Ad)(d role:Int):Ad:=bif D4 R d then{R with in_:=C6 R.in_ d true,was:=C6 R.was d true,members:=bif(R.members.get (Dx R d)).isSome then R.members else C6 R.members (Dx R d) ⟨role,none⟩} else R
theorem Abt(R:Ad)(d:Int):ba prog gl 135 [.ptr (CB R) 0,iG d] (iG (Dx R d)):=PA gl rfl
theorem Abu(R:Ad)(d:Int):ba prog gl 136 [.ptr (CB R) 0,iG d] (bG (D4 R d)):=SE gl (by unfold PB D4 Dx;show Option.bind (bif 0<(DS (R.cards.get d)).Member then _ else _) _=_;grind)
theorem AhD{a:Int}:∀x∈[iG a],bB x:=by grind [mN]
abbrev hof(d:Nat){R:Ad}(hR:Bi R)(x:Int)(c:Nat:=14):HP:=hrl d f0 c hR (Abt gl R x) AhD (lR _)
abbrev AfL(d:Nat){R:Ad}(hR:Bi R){x y:Int}(h:Dx R x=y)(c:Nat:=14):HP:=hrl d f0 c hR (h▸Abt gl R x) AhD (lR _)
abbrev hfr(d:Nat){R:Ad}(hR:Bi R){x:Int}{b:Bool}(h:D4 R x=b)(c:Nat:=14):HP:=hrl d f0 c hR (h▸Abu gl R x) AhD (lR _)
abbrev N3:List (Nat×Rk):=L0.map λk=>(k,.any)
def okR(ρ:DE)(f:Nat->Nat):Bool:=L0.all λk=>match IX ρ (f k) with|some j=>Nat.beq j k|none=>false
theorem Aah{ρ:DE}{f:Nat->Nat}(h:okR ρ f=true)(hk:k<14):IX ρ (f k)=some k:=by have:=Gu.1 h k (by have:k∈List.range 14:=List.mem_range.2 hk;exact this);grind [bc]
abbrev rlB(ρ:DE)(f:Nat->Nat){R:Ad}(hR:Bi R)(h:okR ρ f=true:=by kernel_rfl):List HP:=L0.map λk=>hc (PN (κ:=IX ρ) (f:=f) (f':=f0) (λk ⟨ob,hk⟩=>Aah h (DY hk)) hR k)
abbrev rlA{R:Ad}(hR:Bi R):List HP:=rlB (GE f0) f0 hR
abbrev rlK(R:Ad):List HP:=hc (⟨rfl,L7 aC⟩:iU []=iU []/\bB (iU []))::L0.map λk=>hc (λob h=>h:∀ob,Bv f0 R k=some ob->Bv f0 R k=some ob)
theorem AhE(hR:Bi R){x:AA}(h:R.members.get m=some x):m=1\/m=2\/m=3:=by grind [Bi,Hd]
theorem AfM(h:D4 R d=true):0<Dx R d:=by grind [D4]
theorem AfN(hR:Bi R)(hf:D4 R d=true):Bi (inR R d):=⟨OO hR.ci true,OO hR.cw true,hR.cm,hR.m3,hR.c3,hR.cv,hR.gm,hR.gN,hR.vb,λe he=>by have hk:e.1∈(C6 R.in_ d true).es.map (·.1):=Fo.2 ⟨e,he,rfl⟩;rw[Q6] at hk;have hd:=hR.c6 d (AfM hf);grind [Bi],hR.c6,hR.gn⟩
theorem AjN(hR:Bi R)(hm:1<=m/\m<=3)(role:Int):Bi {R with members:=C6 R.members m ⟨role,none⟩}:=⟨hR.ci,hR.cw,OO hR.cm _,(by grind [Bi,C6]),hR.c3,(by grind [BA,Bi.cv]),(by grind [BA,Bi.gm]),(by grind [Bi,BA]),(by grind [Bi,BA]),hR.i6,hR.c6,(by grind [BA,Bi.gn])⟩
theorem I3{R:Ad}(hR:Bi R)(d role:Int):Bi (Jb R d role):=by
 unfold Jb;cases hf:D4 R d with
 |false=>exact hR
 |true=>
  cases(R.members.get (Dx R d)).isSome with
  |true=>exact AfN hR hf
  |false=>refine AjN (AfN hR hf) ?_ role;grind [Bi,D4,Dx]
def fN(a b k:Nat):Nat:=bif Nat.beq k a then b else k
theorem AhF{R:Ad}(hR:Bi R){m:Nat}(hm:R.members.get (m:Int)=none)(h3:m=1\/m=2\/m=3)(x:AA){σ:aQ}(h:ag σ 4=some (Si f0 R)):dZ prog σ Xc (.mref 4) (iG (m:Int)) (.ref 14 0)=some (4,Si (fN (4+m) 14) {R with members:=C6 R.members (m:Int) x}):=by
 rw[Q2] at h;have hk:bu (m:Int) ((JP R.members).es.map (·.1))=none:=by
  cases hk:bu (m:Int) ((JP R.members).es.map (·.1)) with
  |none=>rfl
  |some j=>obtain⟨e,_,_,h2⟩:=MJ hk;rw[ZJ,hm] at h2;cases h2
 have hk':bu (m:Int) (R.members.es.map (·.1))=none:=by rw[show R.members.es.map (·.1)=(JP R.members).es.map (·.1) by unfold JP;rw[Iu];rfl];exact hk
 unfold dZ;rw[show pB prog Xc=some (3,183) from by kernel_rfl,show cD (iG (m:Int))=some (JN (m:Int)) from rfl,Q4 h];dsimp only;rw[PE.chk,ax,P2,PE.key,hk];unfold Si Xd C6;rw[hk'];dsimp only;rw[List.map_append];congr 5;show X3 JN (vgM f0) (JP R.members)++_=_;unfold X3 JP;rw[Iu];congr 1
 .refine List.map_congr_left λe he=>?_;obtain⟨h1,h2⟩:=hR.mem he;have hne:Nat.beq (nM e.1) (4+m)=false:=by grind [nM,bc]
  show(JN e.1,G.ref (nM e.1) 0,e.2.2)=(JN e.1,G.ref (fN (4+m) 14 (nM e.1)) 0,e.2.2);unfold fN;rw[hne];rfl
 grind [fN,nM,Nat.beq_refl]
abbrev S9(R:Ad)(m:Nat)(role:Int):Ad:={R with members:=C6 R.members (m:Int) ⟨role,none⟩}
theorem Xf{R:Ad}{m:Nat}{role:Int}(k:Int):(S9 R m role).members.get k=if k=(m:Int)then some ⟨role,none⟩else R.members.get k:=BA _ _
theorem AlH{R:Ad}{m:Nat}(hm:R.members.get (m:Int)=none)(h3:m=1\/m=2\/m=3)(role:Int)(k:Nat)(hk:k≠4)(hk':k≠4+m):Bv f0 R k=Bv (fN (4+m) 14) (S9 R m role) k:=by
 have hM:∀j,j=1\/j=2\/j=3->j≠m->roM f0 R j=roM (fN (4+m) 14) (S9 R m role) j:=λj hj hne=>by unfold roM;rw[Xf,BW aa];rcases h3 with rfl|rfl|rfl<;>rcases hj with rfl|rfl|rfl<;>rfl
 have hB:∀j:Nat,(S9 R m role).members.get (j:Int)=none\/True->((S9 R m role).members.get (j:Int)).bind (·.guard)=(R.members.get (j:Int)).bind (·.guard):=by grind [Xf]
 have hG:∀j,j=1\/j=2\/j=3->roG f0 R j=roG (fN (4+m) 14) (S9 R m role) j:=λj hj=>by unfold roG;rw[hB j (.inr trivial)];rcases h3 with rfl|rfl|rfl<;>rcases hj with rfl|rfl|rfl<;>rfl
 have hV:∀j,roV R j=roV (S9 R m role) j:=by grind [roV]
 rcases It k 14 with hlt|hge
 .match k,hlt with
  |0,_=>rcases h3 with rfl|rfl|rfl<;>rfl
  |1,_=>rfl
  |2,_=>rfl
  |3,_=>rfl
  |4,_=>exact absurd rfl hk
  |5,_=>exact hM 1 aa aa
  |6,_=>exact hM 2 aa aa
  |7,_=>exact hM 3 aa aa
  |8,_=>exact hG 1 aa
  |9,_=>exact hG 2 aa
  |10,_=>exact hG 3 aa
  |11,_=>exact hV 1
  |12,_=>exact hV 2
  |13,_=>exact hV 3
 .obtain⟨j,rfl⟩:∃j,k=j+14:=⟨k-14,aa⟩;rfl
theorem AjO{R:Ad}{m:Nat}(h3:m=1\/m=2\/m=3)(role:Int):some ⟨tMe,[iG role,Acw],none⟩=Bv (fN (4+m) 14) (S9 R m role) (4+m):=by have h:=Xf (R:=R) (m:=m) (role:=role) m;rw[Bz rfl] at h;rcases h3 with rfl|rfl|rfl<;>exact(by show _=Option.map _ _;rw[h];rfl)
abbrev rlN{R:Ad}{m:Nat}(hm:R.members.get (m:Int)=none)(h3:m=1\/m=2\/m=3)(role:Int):List HP:=hc (⟨rfl,L7 aC⟩:iU []=iU []/\bB (iU []))::L0.map λk=>if h:k=4 then hc (λob h=>h:∀ob,Bv (fN (4+m) 14) (S9 R m role) 4=some ob->some (Si (fN (4+m) 14) (S9 R m role))=some ob)else if h':k=4+m then hc (λob h=>(AjO (R:=R) h3 role).trans h:∀ob,Bv (fN (4+m) 14) (S9 R m role) (4+m)=some ob->some ⟨tMe,[iG role,Acw],none⟩=some ob)else hc (λob h2=>(AlH hm h3 role k h h').trans h2:∀ob,Bv (fN (4+m) 14) (S9 R m role) k=some ob->Bv f0 R k=some ob)
theorem R9{i:Nat}{o:Option Ob}:ag [(i,o)] i=o:=by simp[Bc]
abbrev hst(a b i:Nat){m:FM Int Bool}(k:Int)(h:FxOk m):HP:=hme a [i] 14 (AjV (P:=prog) (σ:=[(i,some (Ng ZI JN bG m))]) (t:=ZI) (t':=ZI) (et:=4) (v0:=false) PE Adt aH aH (k:=k) (gk:=iG k) rfl R9)
abbrev AlI(b a i:Nat){m:FM Int Bool}(k:Int)(h:FxOk m):HP:=hms a [i] 14 (AjW (σ:=[(i,some (Ng ZI JN bG (C6 m k ((m.get k).getD false))))]) (i:=i) (t':=ZI) (kv:=JN) (vg:=bG) (m:=m) (k:=k) (v0:=(m.get k).getD false) h R9 true)
theorem Xg{R:Ad}(hR:Bi R)(d role:Int):SH prog gl 137 [.ref 0 0,iG d,iG role] (BG f0 R) 14 5 (iU []) (BG f0 (Jb R d role)):=by
 have hok:=I3 hR d role;refine dFP func137 ?_;unfold Jb at hok⊢;cases hb:D4 R d with
 |false=>exact Hm f0 R hR [hfr gl 9 hR hb] (rlK R)
 |true=>
  rw[hb] at hok;rw[ax] at hok⊢;have h1:=AfN hR hb;have h3:1<=Dx R d/\Dx R d<=3:=by unfold D4 at hb;simp only[bA,decide_eq_true_eq] at hb;exact⟨aa,(hR.c3 d).2⟩
  refine pO 1110 (s0 43 gl [(0,.ref 0 0),(1,iG d),(2,iG role)] (BG f0 (inR R d)) 14 5) [hfr gl 9 hR hb,hst 21 22 2 d hR.ci.1,AlI 21 22 2 d hR.ci.1,hst 23 24 3 d hR.cw.1,AlI 23 24 3 d hR.cw.1] (rlA h1) ?_ (ρ:=GE f0) (kd:=N3);cases hm:R.members.get (Dx R d) with
  |some x=>exact Hm f0 _ h1 [hof gl 27 h1 d,KY 33 (Sm (R:=inR R d) hm)] (rlK (inR R d))
  |none=>
   rw[hm] at hok;obtain⟨m,hd,a⟩:∃m:Nat,Dx R d=(m:Int)/\(m=1\/m=2\/m=3):=⟨(Dx R d).toNat,aa,aa⟩;rw[hd] at hm hok⊢;have h2:Bi (S9 (inR R d) m role):=hok;have hg:=AhF h1 (m:=m) hm a ⟨role,none⟩ (σ:=(14,some ⟨tMe,[iG role,Acw],none⟩)::BG f0 (inR R d)) rfl;have fin:∀(_:okF (fN (4+m) 14)=true) (e1),Gp prog Tryz.f137 (zE prog Tryz.f137 (iU []) (BG f0 (S9 (inR R d) m role))) [] false [1,1,0] (s0 43 gl [(0,.ref 0 0),(1,iG d),(2,iG role)] (BG f0 (inR R d)) 14 5):=λh e1=>Hm (fN (4+m) 14) _ h2 [AfL gl 27 h1 hd,KY 33 (Xe (R:=inR R d) hm),hmp 15 hg] (rlN (R:=inR R d) hm a role) h e1;rcases a with rfl|rfl|rfl
   all_goals exact fin aH ⟨aH,aH⟩
abbrev I4(R:Ad)(d:Int):Ad:={R with in_:=Sq R.in_ d}
abbrev Sp(R:Ad)(m:Int):Ad:={R with members:=Sq R.members m}
def LW(R:Ad)(m:Int):Bool:=R.in_.es.any λe=>decide (Dx R e.1=m)
def G4(R:Ad)(d:Int):Ad:=bif PO R d then(bif LW (I4 R d) (Dx R d)then I4 R d else Sp (I4 R d) (Dx R d))else R
theorem Aai(hR:Bi R)(d:Int):Bi (I4 R d):=⟨Vo hR.ci,hR.cw,hR.cm,hR.m3,hR.c3,hR.cv,hR.gm,hR.gN,hR.vb,λe he=>hR.i6 e (AbB he),hR.c6,hR.gn⟩
theorem Ny(hR:Bi R)(k:Int):(Sp R m).members.get k=if k=m then none else R.members.get k:=NP hR.cm _
theorem AfO(hR:Bi R)(m:Int):Bi (Sp R m):=⟨hR.ci,hR.cw,Vo hR.cm,λe he=>hR.m3 e (AbB he),hR.c3,(by grind [Ny,Bi.cv]),(by grind [Ny,Bi.gm]),(by grind [Bi,Ny]),(by grind [Bi,Ny]),hR.i6,hR.c6,(by grind [Ny,Bi.gn])⟩
theorem KM{R:Ad}(hR:Bi R)(d:Int):Bi (G4 R d):=by
 unfold G4;cases PO R d with
 |false=>exact hR
 |true=>
  rw[ax];cases LW (I4 R d) (Dx R d) with
  |true=>exact Aai hR d
  |false=>exact AfO (Aai hR d) _
theorem AlJ(hR:Bi R){m:Int}(k:Nat)(hk:k≠4):∀ob,Bv f0 (Sp R m) k=some ob->Bv f0 R k=some ob:=λob h=>by
 have hg:∀j x,(Sp R m).members.get j=some x->R.members.get j=some x:=by grind [Ny]
 have hM:∀j ob,roM f0 (Sp R m) j=some ob->roM f0 R j=some ob:=by grind [roM,DG]
 have hB:∀j x,((Sp R m).members.get j).bind (·.guard)=some x->(R.members.get j).bind (·.guard)=some x:=by grind [GJ]
 have hG:∀j ob,roG f0 (Sp R m) j=some ob->roG f0 R j=some ob:=by grind [roG,DG]
 have hV:∀j ob,roV (Sp R m) j=some ob->roV R j=some ob:=by grind [roV,DG]
 match k,DY h with
 |0,_=>exact h
 |1,_=>exact h
 |2,_=>exact h
 |3,_=>exact h
 |4,_=>exact absurd rfl hk
 |5,_=>exact hM _ _ h
 |6,_=>exact hM _ _ h
 |7,_=>exact hM _ _ h
 |8,_=>exact hG _ _ h
 |9,_=>exact hG _ _ h
 |10,_=>exact hG _ _ h
 |11,_=>exact hV _ _ h
 |12,_=>exact hV _ _ h
 |13,_=>exact hV _ _ h
abbrev Anq{R:Ad}(hR:Bi R)(m:Int):List HP:=hc (⟨rfl,L7 aC⟩:iU []=iU []/\bB (iU []))::L0.map λk=>if h:k=4 then hc (λob h=>h:∀ob,Bv f0 (Sp R m) 4=some ob->some (Si f0 (Sp R m))=some ob)else hc (AlJ hR (m:=m) k h)
theorem Nz{α β:Type}{f:α->β}:∀{l:List α},(l.map f).Nodup->∀{x y:α},x∈l->y∈l->f x=f y->x=y
 |[],_,x,_,h,_,_=>by cases h
 |a::r,hd,x,y,hx,hy,e=>by
  rw[Fi,Mi] at hd;rcases EZ.1 hx with h1|h1<;>rcases EZ.1 hy with h2|h2
  .rw[h1,h2]
  .grind
  .grind
  .exact Nz hd.2 h1 h2 e
theorem AhG(R:Ad)(d:Int):bL prog [(2,some (Ng ZI JN bG R.in_))] ZI false (.mref 2) (iG d)=some (bG (PO R d)):=(Te (et:=4) PE aH (k:=d) rfl rfl).trans (SC R.in_ d _)
abbrev Aaj(t:Bn)(i clk:Nat)(seen:Bq):Option Ob:=some ⟨t,[],some (.iter (some i) clk seen clk)⟩
abbrev stW(R:Ad)(seen:Bq):aQ:=BG f0 R++[(14,Aaj ZI 2 R.in_.clk seen)]
theorem Aak{R:Ad}(hR:Bi R)(d:Int):SH prog gl 138 [.ref 0 0,iG d] (BG f0 R) 14 5 (iU []) (BG f0 (G4 R d)):=by
 refine dFP func138 ?_;have lk:=AhG R d;unfold G4;cases hb:PO R d with
 |false=>rw[hb] at lk;exact Hm f0 R hR [KY 11 lk] (rlK R)
 |true=>
  rw[hb] at lk;rw[ax];have h1:=Aai hR d;have hd:=AlS (P:=prog) (σ:=BG f0 R) (i:=2) (t:=ZI) (t':=ZI) (vg:=bG) (et:=4) PE aH (k:=d) (gk:=iG d) rfl (m:=R.in_) rfl;refine pO 111100 (s0 40 gl [(0,.ref 0 0),(1,iG d),(4,iG (Dx R d))] (BG f0 (I4 R d)) 14 5) [KY 11 lk,hmd 14 hd,hof gl 20 h1 d] (rlA h1) ?_ (ρ:=GE f0) (kd:=N3);refine yl (Bs':=[]) [1,1,1,0,0] (J:=(s0 40 gl [(0,.ref 0 0),(1,iG d),(4,iG (Dx R d)),(25,.ref 14 0)] (stW (I4 R d) []) 15 5)) [] (rlB (GE f0++[(14,14)]) f0 h1) ?_ (ρ:=GE f0++[(14,14)]) (kd:=N3);refine dNx 111101 ?_;generalize hm:Dx R d=m;have hmm:∀e,Dx (I4 R d) e=Dx R e:=λe=>rfl;refine dMw 25 26 27 0 (iti:=14) (mi:=2) (clock:=(I4 R d).in_.clk) (since:=(I4 R d).in_.clk) (T:=ZI) (ty:=ZI) (es:=X3 JN bG (I4 R d).in_) (λseen=>(s0 40 gl [(0,.ref 0 0),(1,iG d),(4,iG m),(25,.ref 14 0)] (stW (I4 R d) seen) 15 5)) (λseen=>∀e∈(I4 R d).in_.es,e.2.2∈seen->Dx R e.1≠m) (λe _ h=>by cases h) (λe he=>by obtain⟨x,hx,rfl⟩:=Fo.1 he;exact h1.ci.lt x hx) rfl (Le.refl _) (λseen=>aH) (λseen=>aH) (by grind) (λB seen k g n hI hme hns b=>?_) (λseen hI hs=>?_)
  .obtain⟨e,he,a⟩:=Fo.1 hme;simp only[Fw] at a;obtain⟨rfl,rfl,rfl⟩:=a;have hge:jr ((14,Aaj ZI 2 (I4 R d).in_.clk (seen++[e.2.2]))::stW (I4 R d) seen) (.ref 14 0)=some (.tup [db (JN e.1),bG e.2.1]):=yo (iti:=14) (mi:=2) (since:=(I4 R d).in_.clk) (clock:=(I4 R d).in_.clk) (T:=ZI) (ty:=ZI) (seen:=seen) aH aH (by rw[Iu];exact h1.ci.nd) hme;by_cases hk:Dx R e.1=m
   .rw[show LW (I4 R d) m=true from List.any_eq_true.2 ⟨e,he,CO hk⟩,ax];exact Hm f0 _ h1 [YT 28 hge,hof gl 32 h1 e.1 15,hr 34 (show decide (Dx R e.1=m)=true from CO hk)] (rlK (I4 R d))
   .refine jw [YT 28 hge,hof gl 32 h1 e.1 15,hr 34 (show decide (Dx R e.1=m)=false from C5 hk)] (rlB (GE f0++[(14,14)]) f0 h1) (b λx hx h=>?_) (ρ:=GE f0++[(14,14)]) (kd:=N3);rcases I6.1 h with h|h
    .exact hI x hx h
    .rw[List.mem_singleton] at h;have:x=e:=Nz h1.ci.nd hx he h;rw[this];exact hk
  .have hst:LW (I4 R d) m=false:=by
    cases hst:LW (I4 R d) m with
    |false=>rfl
    |true=>obtain⟨e,he,h⟩:=List.any_eq_true.1 hst;exact absurd (DD h) (hI e he (hs (JN e.1,bG e.2.1,e.2.2) (Fo.2 ⟨e,he,rfl⟩)))
   rw[hst,A7];have h4:=AlS (P:=prog) (σ:=stW (I4 R d) seen) (i:=4) (t:=Xc) (t':=Xc) (vg:=vgM f0) (et:=183) PE aH (k:=m) (gk:=iG m) rfl (m:=JP R.members) (by rw[<-Q2];kernel_rfl);rw[Aec,show Ng Xc JN (vgM f0) (JP (Sq R.members m))=Si f0 (Sp (I4 R d) m) from(Q2 f0 (Sp (I4 R d) m)).symm] at h4;exact Hm f0 _ (AfO h1 m) [hmd 15 h4] (Anq h1 m)
abbrev oOp(o:Bj):Option Ob:=some ⟨63,aJ o,none⟩
abbrev XX(i:Ab):Option Ob:=some ⟨36,aj i,none⟩
abbrev AfP(R:Ad)(o:Bj)(i:Ab):aQ:=BG f0 R++[(14,oOp o),(15,XX i)]
abbrev UO(R:Ad)(o:Bj)(i:Ab)(R':Ad):Prop:=SH prog gl 69 [.ref 0 0,.agg (aJ o),.agg (aj i)] (BG f0 R) 14 5 (iU []) (BG f0 R')
theorem PP{R:Ad}(hR:Bi R){o:Bj}{i:Ab}(h:Gp prog Tryz.f69 (zE prog Tryz.f69 (iU []) (BG f0 R')) [] false [1,1,0] (s0 259 gl [(0,.ref 0 0),(4,.ref 14 0),(5,.ref 15 0)] (AfP R o i) 16 5)):UO gl R o i R':=by refine dFP func69 ?_;exact pO 1110 (s0 259 gl [(0,.ref 0 0),(4,.ref 14 0),(5,.ref 15 0)] (AfP R o i) 16 5) [hof gl 24 hR o.By 16,KY 25 (AjM R (Dx R o.By))] (rlB (GE f0++[(14,14),(15,15)]) f0 hR) h (ρ:=GE f0++[(14,14),(15,15)]) (kd:=N3)
abbrev f16:Nat->Nat:=fW f0 16
abbrev rlX{f:Nat->Nat}{R:Ad}:List HP:=hc (⟨rfl,L7 aC⟩:iU []=iU []/\bB (iU []))::L0.map λk=>hc (λob h=>h:∀ob,Bv f R k=some ob->Bv f R k=some ob)
theorem AjP{R:Ad}(hR:Bi R){o:Bj}{i:Ab}(hk:o.Kind=2):UO gl R o i (Jb R o.Device o.Role):=by refine PP gl hR ?_;exact Hm f16 _ (I3 hR _ _) [hr 29 (show decide (o.Kind=1)=false by rw[hk];rfl),hr 52 (show decide (o.Kind=2)=true by rw[hk];rfl),hrw 58 f0 16 [iG o.Device,iG o.Role] hR (I3 hR _ _) (Xg gl hR o.Device o.Role)] (rlX (f:=f16) (R:=Jb R o.Device o.Role))
theorem Aed{R:Ad}(hR:Bi R){o:Bj}{i:Ab}(hk:o.Kind=3)(hd:o.Device≠0):UO gl R o i (G4 R o.Device):=by refine PP gl hR ?_;exact Hm f16 _ (KM hR _) [hr 29 (show decide (o.Kind=1)=false by rw[hk];rfl),hr 52 (show decide (o.Kind=2)=false by rw[hk];rfl),hr 60 (show decide (o.Kind=3)=true by rw[hk];rfl),hr 63 (show decide (o.Device≠0)=true from CO hd),hrw 67 f0 16 [iG o.Device] hR (KM hR _) (Aak gl hR o.Device)] (rlX (f:=f16) (R:=G4 R o.Device))
theorem AhH{R:Ad}(hR:Bi R){o:Bj}{i:Ab}(h1:o.Kind≠1)(h2:o.Kind≠2)(h3:o.Kind≠3)(h5:o.Kind≠5)(h9:o.Kind≠9)(h11:o.Kind≠11)(h12:o.Kind≠12)(h13:o.Kind≠13):UO gl R o i R:=by refine PP gl hR ?_;exact Hm f0 _ hR [hr 29 (C5 h1),hr 52 (C5 h2),hr 60 (C5 h3),hr 86 (C5 h5),hr 102 (C5 h9),hr 120 (C5 h11),hr 168 (C5 h12),hr 213 (C5 h13)] (rlX (f:=f0) (R:=R))
abbrev AlK(t:Nat->Option Ob):aQ:=L0.map λk=>(k,t k)
abbrev frJ(a b:Nat){R:Ad}{k:Int}{x:AA}(_:R.members.get k=some x):Fr:=[(a,iG k),(b,.ref (nM k) 0)]
def tg(R:Ad)(l:List (Nat×Ob))(k:Nat):Option Ob:=match l.find? λq=>Nat.beq q.1 k with
 |some q=>some q.2
 |none=>Bv f0 R k
theorem ZK{l:List (Nat×Ob)}(h:∀q∈l,Bv f0 R q.1=some q.2)(k:Nat):tg R l k=Bv f0 R k:=by grind [tg,bc]
abbrev stT{R:Ad}{l:List (Nat×Ob)}(_:∀q∈l,Bv f0 R q.1=some q.2):aQ:=AlK (tg R l)
abbrev rlT(ρ:DE)(f:Nat->Nat){R:Ad}(hR:Bi R){l:List (Nat×Ob)}(hl:∀q∈l,Bv f0 R q.1=some q.2)(h:okR ρ f=true:=by kernel_rfl):List HP:=L0.map λk=>hc (show Yi (IX ρ) (Bv f R k) (tg R l k) from(ZK hl k).symm▸PN (κ:=IX ρ) (f:=f) (f':=f0) (λk ⟨ob,hk⟩=>Aah h (DY hk)) hR k)
abbrev AlL(ρ:DE){R:Ad}(hR:Bi R){l:List (Nat×Ob)}(hl:∀q∈l,Bv f0 R q.1=some q.2)(h:okR ρ f0=true:=by kernel_rfl):List HP:=L0.map λk=>hc (show Yi (IX ρ) (tg R l k) (Bv f0 R k) from(ZK hl k).symm▸PN (κ:=IX ρ) (f:=f0) (f':=f0) (λk ⟨ob,hk⟩=>Aah h (DY hk)) hR k)
abbrev HC(R:Ad){r:G}(hr:bB r):List HP:=hc (⟨rfl,hr⟩:r=r/\bB r)::L0.map λk=>hc (λob h=>h:∀ob,Bv f0 R k=some ob->Bv f0 R k=some ob)
abbrev Xh{R:Ad}{l:List (Nat×Ob)}(hl:∀q∈l,Bv f0 R q.1=some q.2){r:G}(hr:bB r):List HP:=hc (⟨rfl,hr⟩:r=r/\bB r)::L0.map λk=>hc (λob h=>(ZK hl k).trans h:∀ob,Bv f0 R k=some ob->tg R l k=some ob)
abbrev eM(k:Nat)(x:AA):Nat×Ob:=(4+k,⟨tMe,[iG x.role,gpG f0 k x],none⟩)
abbrev eG(k:Nat)(g:CA):Nat×Ob:=(7+k,⟨tGu,guC f0 k g,none⟩)
abbrev eV(k:Nat)(g:CA):Nat×Ob:=(10+k,Ng tMv BX iG g.vouches)
theorem Adu{x:AA}(h3:k=1\/k=2\/k=3)(h:R.members.get (k:Int)=some x):Bv f0 R (eM k x).1=some (eM k x).2:=by rcases h3 with rfl|rfl|rfl<;>exact(by show Option.map _ _=_;rw[h];rfl)
theorem AfQ{x:AA}{g:CA}(h3:k=1\/k=2\/k=3)(h:R.members.get (k:Int)=some x)(hg:x.guard=some g):Bv f0 R (eG k g).1=some (eG k g).2:=by rcases h3 with rfl|rfl|rfl<;>exact(by show(Option.bind _ _).map _=_;grind)
theorem AlM{x:AA}{g:CA}(h3:k=1\/k=2\/k=3)(h:R.members.get (k:Int)=some x)(hg:x.guard=some g):Bv f0 R (eV k g).1=some (eV k g).2:=by rcases h3 with rfl|rfl|rfl<;>exact(by show(Option.bind _ _).map _=_;grind)
def Lo(x:AA)(i:Ab):Bool:=match x.guard with
 |none=>false
 |some g=>decide (g.id=i)
def Hx(R:Ad)(i:Ab):Int:=match R.members.es.find? λe=>Lo e.2.1 i with
 |some e=>e.1
 |none=>0
theorem Bi.uni{R:Ad}(hR:Bi R){k k':Int}{x x':AA}{i:Ab}(h:R.members.get k=some x)(h':R.members.get k'=some x')(g:Lo x i=true)(a:Lo x' i=true):k=k':=by grind [Bi,Lo]
theorem AfR(hR:Bi R){e:Int×AA×Nat}(he:e∈R.members.es){i:Ab}(h:Lo e.2.1 i=true):Hx R i=e.1:=by
 unfold Hx;split
 .rename_i q hq;exact hR.uni (hR.mem (List.mem_of_find?_eq_some hq)).1 (hR.mem he).1 (by have:=List.find?_some hq;exact this) h
 grind
theorem Aee{i:Ab}(h:∀e∈R.members.es,Lo e.2.1 i=false):Hx R i=0:=by grind [Hx]
abbrev stU(R:Ad)(i:Ab)(seen:Bq):aQ:=BG f0 R++[(14,XX i),(15,Aaj Xc 4 R.members.clk seen)]
abbrev frU:Fr:=[(0,.ref 0 0),(3,.ref 14 0),(11,.ref 15 0)]
abbrev ρ15:DE:=GE f0++[(14,14),(15,15)]
theorem Abx(hR:Bi R)(i:Ab):SH prog gl 141 [.ref 0 0,.agg (aj i)] (BG f0 R) 14 14 (iG (Hx R i)) (BG f0 R):=by
 refine dFP func141 ?_;refine pO 1100 (s0 34 gl [(0,.ref 0 0),(3,.ref 14 0)] (BG f0 R++[(14,XX i)]) 15 14) [] (rlB (GE f0++[(14,14)]) f0 hR) ?_ (ρ:=GE f0++[(14,14)]) (kd:=N3);refine yl (Bs':=[]) [1,0,0] (J:=(s0 34 gl frU (stU R i []) 16 14)) [] (rlB ρ15 f0 hR) ?_ (kd:=N3);refine dNx 1101 ?_;refine dMw 11 12 13 0 (iti:=15) (mi:=4) (clock:=R.members.clk) (since:=R.members.clk) (T:=Xc) (ty:=Xc) (es:=Xd f0 R.members) (λseen=>(s0 34 gl frU (stU R i seen) 16 14)) (λseen=>∀e∈R.members.es,e.2.2∈seen->Lo e.2.1 i=false) (λe _ h=>by cases h) (λe he=>by obtain⟨x,hx,rfl⟩:=Fo.1 he;exact hR.cm.lt x hx) rfl (Le.refl _) (λseen=>aH) (λseen=>aH) (λseen=>⟨show 12<34 by decide,show 13<34 by decide⟩) (λB seen k g n hI hme hns a=>?_) (λseen hI hs=>?_)
 .obtain⟨e,he,c⟩:=Fo.1 hme;simp only[Fw] at c;obtain⟨rfl,rfl,rfl⟩:=c;have hge:jr ((15,Aaj Xc 4 R.members.clk (seen++[e.2.2]))::stU R i seen) (.ref 15 0)=some (.tup [db (JN e.1),.ref (nM e.1) 0]):=yo (iti:=15) (mi:=4) (since:=R.members.clk) (clock:=R.members.clk) (T:=Xc) (ty:=Xc) (seen:=seen) aH aH (by rw[Iu];exact hR.cm.nd) hme;obtain⟨hm,h3⟩:=hR.mem he;have hI':Lo e.2.1 i=false->∀x∈R.members.es,x.2.2∈seen++[e.2.2]->Lo x.2.1 i=false:=λhk x hx h=>by
   rcases I6.1 h with h|h
   .exact hI x hx h
   .rw[List.mem_singleton] at h;rw[Nz hR.cm.nd hx he h];exact hk
  have hw:=AfR hR he (i:=i);obtain⟨k,x,n⟩:=e;dsimp only at hge hm h3 hI' hw a;obtain⟨j,rfl,b⟩:∃j:Nat,k=(j:Int)/\(j=1\/j=2\/j=3):=⟨k.toNat,aa,aa⟩;obtain⟨role,gd⟩:=x;have e1:=Adu b hm;cases gd with
  |none=>
   have a:=a (hI' rfl);have hl:∀q∈[eM j ⟨role,none⟩],Bv f0 R q.1=some q.2:=λq hq=>by rw[List.mem_singleton.1 hq];exact e1
   rcases b with rfl|rfl|rfl
   all_goals
    refine pO 11012211210 (s0 34 gl (frJ 5 6 hm++frU) (stT hl++[(14,XX i),(15,Aaj Xc 4 R.members.clk (seen++[n]))]) 16 14) [YT 14 hge] (rlT ρ15 f0 hR hl) ?_ (ρ:=ρ15) (kd:=N3)
    exact jw [] (AlL ρ15 hR hl) a (kd:=N3)
  |some g=>
   have e2:=AfQ b hm rfl;have hl:∀q∈[eM j ⟨role,some g⟩,eG j g],Bv f0 R q.1=some q.2:=λq hq=>by
    rcases EZ.1 hq with rfl|hq
    .exact e1
    .rw[List.mem_singleton.1 hq];exact e2
   cases hd:decide (g.id=i) with
   |false=>
    have a:=a (hI' hd);rcases b with rfl|rfl|rfl
    all_goals
     refine pO 11012211210 (s0 34 gl (frJ 5 6 hm++frU) (stT hl++[(14,XX i),(15,Aaj Xc 4 R.members.clk (seen++[n]))]) 16 14) [YT 14 hge] (rlT ρ15 f0 hR hl) ?_ (ρ:=ρ15) (kd:=N3)
     exact jw [hV 31 (dU g.id i hd)] (AlL ρ15 hR hl) a (kd:=N3)
   |true=>
    rw[show Hx R i=(j:Int) from hw hd];have hr:bB (iG (j:Int)):=mN _;rcases b with rfl|rfl|rfl
    all_goals
     refine pO 11012211210 (s0 34 gl (frJ 5 6 hm++frU) (stT hl++[(14,XX i),(15,Aaj Xc 4 R.members.clk (seen++[n]))]) 16 14) [YT 14 hge] (rlT ρ15 f0 hR hl) ?_ (ρ:=ρ15) (kd:=N3)
     exact Hm f0 _ hR [hV 31 (dU g.id i hd)] (Xh hl hr)
 .rw[Aee λe he=>hI e he (hs (JN e.1,.ref (nM e.1) 0,e.2.2) (Fo.2 ⟨e,he,rfl⟩))];exact Hm f0 _ hR [] (HC R (mN (.int .i64 0)))
end
def T{α:Type}(x:Option α)(Q:α->Prop):Prop:=∃v,x=some v/\Q v
section
variable {α β γ σ ρ:Type}
theorem T.mono{x:Option α}{Q R:α->Prop}(h:T x Q)(k:∀v,Q v->R v):T x R:=by obtain⟨v,e,q⟩:=h;exact⟨v,e,k v q⟩
theorem T.some{v:α}{Q:α->Prop}(h:Q v):T (some v) Q:=⟨v,rfl,h⟩
theorem T.bind{x:Option α}{f:α->Option β}{Q:β->Prop}(h:T x λv=>T (f v) Q):T (x.bind f) Q:=by obtain⟨v,e,w,e2,q⟩:=h;exact⟨w,by grind,q⟩
theorem T.eqb{x:Option α}{f:α->Option β}{Q:β->Prop}{v:α}(e:x= .some v)(h:T (f v) Q):T (x.bind f) Q:=by grind
theorem T.ite{c:Bool}{a b:Option α}{Q:α->Prop}(h1:c=true->T a Q)(h2:c=false->T b Q):T (bif c then a else b) Q:=by grind
theorem T.dec{p:Prop}[Decidable p]{a b:Option α}{Q:α->Prop}(h1:p->T a Q)(h2:¬p->T b Q):T (bif decide p then a else b) Q:=by grind
theorem T.eq{x:Option α}{v:α}(h:T x λw=>w=v):x= .some v:=by obtain⟨w,e,rfl⟩:=h;exact e
theorem T.of{x:Option α}{v:α}{Q:α->Prop}(h:x= .some v)(q:Q v):T x Q:=⟨v,h,q⟩
theorem T.ix{l:List α}{i:Int}{Q:α->Prop}{x:α}(h0:0<=i)(hx:l[i.toNat]?= .some x)(h:Q x):T (aS l i) Q:=⟨x,by grind [aS],h⟩
theorem T.ixl{l:List α}{i:Int}{Q:α->Prop}(h0:0<=i)(h1:i<l.length)(h:∀x,l[i.toNat]?= .some x->x∈l->Q x):T (aS l i) Q:=by have hx:l[i.toNat]?= .some (l[i.toNat]'aa):=EH _;grind [ix]
theorem T.app{b:Nat}{l r:List α}{Q:List α->Prop}(h:(l.length+r.length)*b<=140737488355328)(q:Q (l++r)):T (aT b l r) Q:=⟨_,by grind [aT],q⟩
theorem T.rem{a b:Int}{Q:Int->Prop}(h:b≠0)(q:Q (a.tmod b)):T (u9 a b) Q:=⟨_,by grind [u9],q⟩
theorem T.quo{a b:Int}{Q:Int->Prop}(h:b≠0)(q:Q (IntKind.i64.wrap (a.tdiv b))):T (Gg a b) Q:=⟨_,by grind [Gg],q⟩
theorem T.set{l:List α}{i:Int}{x:α}{Q:List α->Prop}(h0:0<=i)(h1:i<l.length)(q:Q (l.set i.toNat x)):T (ji l i x) Q:=⟨_,by grind [ji],q⟩
theorem T.pre{l:List α}{i:Int}{Q:List α->Prop}(h0:0<=i)(h1:i<=l.length)(q:Q (l.take i.toNat)):T (tq l i) Q:=⟨_,by grind [tq],q⟩
theorem T.suf{l:List α}{i:Int}{Q:List α->Prop}(h0:0<=i)(h1:i<=l.length)(q:Q (l.drop i.toNat)):T (mc l i) Q:=⟨_,by grind [mc],q⟩
theorem T.make{b:Nat}{z:α}{n:Int}{Q:List α->Prop}(h0:0<=n)(h1:b*n.toNat<=281474976710656)(h2:n<=9223372036854775807)(q:Q (List.replicate n.toNat z)):T (rP b z n) Q:=⟨_,by grind [rP],q⟩
def Rd(N:σ->Prop)(Q:ρ->Prop):σ⊕ρ->Prop
 | .inl s=>N s
 | .inr r=>Q r
theorem T.lpN{step:σ->Option (σ⊕ρ)}{Q:ρ->Prop}(I:σ->Prop)(μ:σ->Nat)(h:∀s,I s->T (step s) (Rd (λs'=>I s'/\μ s'<μ s) Q)):∀(n:Nat) (s:σ),μ s<n->I s->T (KN step n s) Q
 |0,s,hn,_=>(by grind)
 |n+1,s,hn,hi=>by
  obtain⟨r,e,q⟩:=h s hi;unfold KN;rw[e];cases r with
  |inl s'=>exact T.lpN I μ h n s' (by have:=q.2;omega) q.1
  |inr r=>exact⟨r,rfl,q⟩
theorem T.loop{step:σ->Option (σ⊕ρ)}{Q:ρ->Prop}{s:σ}(I:σ->Prop)(μ:σ->Nat)(hi:I s)(hm:μ s<4611686018427387904)(h:∀s,I s->T (step s) (Rd (λs'=>I s'/\μ s'<μ s) Q)):T (AB step s) Q:=T.lpN I μ h _ s hm hi
theorem T.forA{step:σ×Int->Option ((σ×Int)⊕ρ)}{Q:ρ->Prop}{a:σ}(n:Nat)(J:Nat->σ->Prop)(hn:n<2305843009213693952)(h0:J 0 a)(h:∀k acc,k<n->J k acc->T (step (acc,(k:Int))) (Rd (λs'=>s'.2=((k+1:Nat):Int)/\J (k+1) s'.1) Q))(he:∀acc,J n acc->T (step (acc,(n:Int))) (Rd (λ_=>False) Q)):T (AB step (a,0)) Q:=by
 refine T.loop (λs=>∃k:Nat,k<=n/\s.2=(k:Int)/\J k s.1) (λs=>n-s.2.toNat) (by grind) cq ?_;rintro⟨acc,i⟩ ⟨k,hk,hik,hj⟩;simp only at hik hj;subst hik;rcases It k n with hlt|hge
 .refine(h k acc hlt hj).mono λr hr=>?_;cases r with
  |inl s'=>refine⟨⟨k+1,aa,hr.1,hr.2⟩,?_⟩;rw[hr.1];simp;omega
  |inr r=>exact hr
 grind
theorem T.forI{step:Int->Option (Int⊕ρ)}{Q:ρ->Prop}(n:Nat)(J:Fv)(hn:n<2305843009213693952)(h0:J 0)(h:∀k,k<n->J k->T (step (k:Int)) (Rd (λs'=>s'=((k+1:Nat):Int)/\J (k+1)) Q))(he:J n->T (step (n:Int)) (Rd (λ_=>False) Q)):T (AB step 0) Q:=by
 refine T.loop (λs=>∃k:Nat,k<=n/\s=(k:Int)/\J k) (λs=>n-s.toNat) (by grind) cq ?_;rintro i ⟨k,hk,hik,hj⟩;subst hik;rcases It k n with hlt|hge
 .refine(h k hlt hj).mono λr hr=>?_;cases r with
  |inl s'=>refine⟨⟨k+1,aa,hr.1,hr.2⟩,?_⟩;rw[hr.1];simp;omega
  |inr r=>exact hr
 grind
theorem bM{z:Int}(h1: -9223372036854775808<=z)(h2:z<=9223372036854775807):wI z=z:=by grind [wI,IntKind.wrap_i64]
theorem aq(h:k<2305843009213693952):wI ((k:Int)+1)=((k+1:Nat):Int):=by grind [bM]
theorem rM(h:n<18446744073709551616):wU (n:Int)=n:=by grind [wU,IntKind.wrap_u64]
theorem au{l:List α}{k:Nat}:aS l (k:Int)=l[k]? :=by grind [aS]
theorem eA{l:List α}{k:Nat}(h:k<l.length):decide ((k:Int)<ah l)=true:=by grind [ah]
theorem eF{l:List α}:decide ((l.length:Int)<ah l)=false:=by grind [ah]
theorem T.forE{step:List β×Int->Option ((List β×Int)⊕List β)}(l:List α)(a:List β)(enc:α->List β)(c:Nat)(hn:l.length<2305843009213693952)(hc:∀x∈l,(enc x).length<=c)(h:∀(k:Nat) (acc:List β) (x:α),l[k]?= .some x->x∈l->k<l.length->acc.length<=a.length+k*c->T (step (acc,(k:Int))) (Rd (λs'=>s'.2=((k+1:Nat):Int)/\s'.1=acc++enc x) (λ_=>False)))(he:∀acc,step (acc,(l.length:Int))= .some (.inr acc)):T (AB step (a,0)) (λr=>r=a++l.flatMap enc):=by
 refine T.forA l.length (λk acc=>acc=a++(l.take k).flatMap enc/\acc.length<=a.length+k*c) hn aC (λk acc hk hj=>?_) λacc hj=>?_
 .have hx:l[k]?= .some (l[k]'hk):=EH hk;refine(h k acc _ hx (by simp_all) hk hj.2).mono λr hr=>?_;cases r with
  |inr r=>exact hr.elim
  |inl s'=>obtain⟨h1,h2⟩:=hr;constructor<;>grind [Hp]
 .rw[he];refine .some ?_;show acc=_;grind
theorem d8{l:List α}{enc:α->List β}{c:Nat}(hc:∀x∈l,(enc x).length<=c):(l.flatMap enc).length<=l.length*c:=by induction l<;>grind [Nat.succ_mul]
theorem T.appL{l r:List α}{n m:Nat}{Q:List α->Prop}(h1:l.length<=n)(h2:r.length<=m)(hnm:n+m<=140737488355328)(q:(l++r).length<=n+m->Q (l++r)):T (aT 1 l r) Q:=by grind [app]
theorem T.then{x:Option α}{f:α->Option β}{v:α}{Q:β->Prop}(h:T x λw=>w=v)(q:T (f v) Q):T (x.bind f) Q:=by grind [bind,mono]
end
section
attribute [local irreducible] Tr D8 GS Le Wk ve ba bB X8 J6 Dp
section
variable {P:Br} {t:Bn} {x y:Dq}
theorem SS(ha:a<2^63)(hb:b<2^63):b8 P .or t x y (.lit (.int .i64 (a:Int))) (.lit (.int .i64 (b:Int)))=some (.lit (.int .i64 ((a|||b:Nat):Int))):=by
 have h:b8 P .or t x y (.lit (.int .i64 (a:Int))) (.lit (.int .i64 (b:Int)))=some (.lit (.int .i64 (IntKind.i64.wrap ((BitVec.ofInt IntKind.i64.bits (a:Int)|||BitVec.ofInt IntKind.i64.bits (b:Int)).toNat:Nat)))):=by simp[b8,cD,eqGuard,binOp,Op.intBits,bz,db]
 have h1:(BitVec.ofInt IntKind.i64.bits (a:Int)|||BitVec.ofInt IntKind.i64.bits (b:Int)).toNat=a|||b:=by show(BitVec.ofInt 64 (a:Int)|||BitVec.ofInt 64 (b:Int)).toNat=a|||b;rw[BitVec.ofInt_natCast,BitVec.ofInt_natCast,BitVec.toNat_or,BitVec.toNat_ofNat,BitVec.toNat_ofNat,MY aa,MY aa]
 have h2:a|||b<2^63:=Nat.or_lt_two_pow ha hb;rw[h,h1,w64 aa]
end
section
variable {P:Br} {ops:Array Oper} {K:St->Prop} {rest:IH} {n:Nat} {gl:Cd} {fr:Fr} {σ:aQ} {c p:Nat} {rr:Bool} {d:Tmp} {ty:Bn} {pos:String} {af:Array Edge}
end
end
section
variable {P:Br} {x y:Dq} {t:Bn}
end
theorem im1{a:G}(ha:bB a):∀g∈[a],bB g:=λg hg=>by simp only[EZ,Lx,or_false] at hg;subst hg;exact ha
theorem im2{a b:G}(ha:bB a)(hb:bB b):∀g∈[a,b],bB g:=λg hg=>by
 simp only[EZ,Lx,or_false] at hg;rcases hg with rfl|rfl
 .exact ha
 .exact hb
abbrev gU'(n:Nat):G:= .lit (.int .u64 (n:Int))
def nb(k:Nat):CY:=if h:k<128 then[UInt8.ofNat k]else UInt8.ofNat (k%128+128)::nb (k/128)
 termination_by k
 decreasing_by omega
theorem H6(h:k<128):nb k=[UInt8.ofNat k]:=by rw[nb,dif_pos h]
theorem Er(h:¬k<128):nb k=UInt8.ofNat (k%128+128)::nb (k/128):=by rw[nb,dif_neg h]
theorem Qu:∀(f k:Nat),k<128^(f+1)->(nb k).length<=f+1
 |0,k,h=>by grind [H6]
 |f+1,k,h=>by
  by_cases h1:k<128
  .rw[H6 h1];simp
  .rw[Er h1];have:=Qu f (k/128) (by grind);simp;omega
theorem ow(h:k<18446744073709551616):(nb k).length<=10:=Qu 9 k (by grind)
theorem Yj(k:Nat):nb k≠[]:=by grind [H6,Er]
theorem Yk(h:n<256):gY (UInt8.ofNat n)= .lit (.int .u8 (n:Int)):=by
 have:(UInt8.ofNat n).toNat=n:=by simp;omega
 grind
set_option maxRecDepth 100000 in
theorem V4:∀a:Fin 256,a.1|||128=a.1%128+128:=B5
theorem Yl{k:IntKind}{a b:Int}:b8 P .or t x y (.lit (.int k a)) (.lit (.int k b))=some (.lit (.int k (k.wrap ((BitVec.ofInt k.bits a|||BitVec.ofInt k.bits b).toNat:Nat)))):=by simp[b8,cD,eqGuard,binOp,Op.intBits,bz,db]
theorem V5{k:IntKind}{a b:Int}:b8 P .xor t x y (.lit (.int k a)) (.lit (.int k b))=some (.lit (.int k (k.wrap ((BitVec.ofInt k.bits a^^^BitVec.ofInt k.bits b).toNat:Nat)))):=by simp[b8,cD,eqGuard,binOp,Op.intBits,bz,db]
theorem V6:b8 P .or t x y (.lit (.int .u8 (n:Int))) (.lit (.int .u8 128))=some (.lit (.int .u8 ((n%128+128:Nat):Int))):=by
 rw[Yl];have h:(BitVec.ofInt IntKind.u8.bits (n:Int)|||BitVec.ofInt IntKind.u8.bits 128).toNat=n%128+128:=by show(BitVec.ofInt 8 (n:Int)|||BitVec.ofInt 8 ((128:Nat):Int)).toNat=_;rw[BitVec.ofInt_natCast,BitVec.ofInt_natCast,BitVec.toNat_or,BitVec.toNat_ofNat,BitVec.toNat_ofNat];have:=V4 ⟨n%256,aa⟩;grind
 grind [wu8]
def Mk(n:Int):Nat:=if n<0 then(-(n+1)).toNat*2+1 else n.toNat*2
theorem FQ{n:Int}(h: -9223372036854775808<=n/\n<=9223372036854775807):Mk n<18446744073709551616:=by grind [Mk]
theorem Ym{n:Int}(h: -9223372036854775808<=n/\n<=9223372036854775807):b8 P .xor t x y (.lit (.int .u64 (IntKind.u64.wrap (IntKind.u64.wrap n*2^1)))) (.lit (.int .u64 (IntKind.u64.wrap (n.fdiv (2^63)))))=some (gU' (Mk n)):=by
 rw[V5];have h64:∀z:Int,IntKind.u64.wrap z=z%18446744073709551616:=λz=>IntKind.wrap_u64 z;congr 3;by_cases hn:n<0
 .have e1:n.fdiv (2^63)= -1:=by grind
  have e2:IntKind.u64.wrap (IntKind.u64.wrap n*2^1)=(((18446744073709551616+2*n)%18446744073709551616).toNat:Int):=by grind
  rw[e1,e2,h64 (-1)];show IntKind.u64.wrap ((BitVec.ofInt 64 _^^^BitVec.ofInt 64 ((18446744073709551615:Nat):Int)).toNat:Nat)=_;rw[BitVec.ofInt_natCast,BitVec.ofInt_natCast];have e3:BitVec.ofNat 64 18446744073709551615=BitVec.allOnes 64:=B5;rw[e3,BitVec.xor_allOnes,BitVec.toNat_not,BitVec.toNat_ofNat,h64];grind [Mk]
 .have e1:n.fdiv (2^63)=0:=by grind
  have e2:IntKind.u64.wrap (IntKind.u64.wrap n*2^1)=((n.toNat*2:Nat):Int):=by grind
  rw[e1,e2,h64 0];show IntKind.u64.wrap ((BitVec.ofInt 64 _^^^BitVec.ofInt 64 ((0:Nat):Int)).toNat:Nat)=_;rw[BitVec.ofInt_natCast,BitVec.ofInt_natCast];grind [Mk]
theorem AjT(h:k<4611686018427387904):wI ((k:Int)+1)=((k+1:Nat):Int):=by unfold wI;rw[IntKind.wrap_i64];omega
theorem AjU{s:List α}(p:α->Bool)(hn:s.length<2305843009213693952){step:Int->Option (Int⊕(Unit⊕Int))}(hs:∀(k:Nat) (x:α),s[k]?=some x->step (k:Int)=some (if p x=true then .inr (.inr (k:Int))else .inl (wI ((k:Int)+1))))(he:step (s.length:Int)=some (.inr (.inl ()))):∃r:Unit⊕Int,AB step 0=some r/\((r= .inl ()/\s.any p=false)\/∃j:Nat,r= .inr (j:Int)/\s.any p=true/\s.findIdx? p=some j):=by
 obtain⟨r,h1,h2⟩:T (AB step 0) λr=>(r= .inl ()/\s.any p=false)\/∃j:Nat,r= .inr (j:Int)/\s.any p=true/\s.findIdx? p=some j:=by
  refine T.forI s.length (λk=>∀j,j<k->∀x,s[j]?=some x->p x=false) hn (λj h=>aa) (λk hk a=>?_) λa=>?_
  .obtain⟨x,hx⟩:∃x,s[k]?=some x:=⟨_,EH hk⟩;rw[hs k x hx];cases hp:p x with
   |true=>refine⟨_,rfl,.inr ⟨k,rfl,(by grind),?_⟩⟩;grind [List.findIdx?_eq_some_iff_getElem]
   |false=>refine⟨_,rfl,?_⟩;rw[BW B5];constructor<;>grind [AjT]
  .rw[he];refine⟨_,rfl,.inl ⟨rfl,?_⟩⟩;grind [G9]
 exact⟨r,h1,h2⟩
theorem Bp{s:List α}{x:α}(h:s[k]?=some x):aS s (k:Int)=some x:=by grind [aS]
theorem CM{s:List α}{k:Nat}{x:α}(h:s[k]?=some x):decide ((k:Int)<ah s)=true:=by grind [ah]
theorem DH{s:List α}:decide ((s.length:Int)<ah s)=false:=C5 (by unfold ah;omega)
theorem UG[DecidableEq α]{s:List α}(hn:s.length<2305843009213693952)(v:α):Aci s v=some (s.any λy=>decide (v=y)):=by
 obtain⟨r,h1,h2⟩:=AjU (s:=s) (λy=>decide (v=y)) hn (step:=aaj s v) (by grind [aaj,CM,Bp]) (by unfold aaj;rw[DH];rfl);unfold Aci ixT;rw[h1];rcases h2 with⟨rfl,h2⟩|⟨j,rfl,h2,_⟩<;>rw[h2]
 .rfl
 .show some (decide (0<=(j:Int)))=_;rw[CO aa]
theorem Abz{s:List α}{f:α->Fp}{p:α->Bool}(hn:s.length<2305843009213693952)(hf:∀x∈s,f x=some (p x)):Abd s f=some (s.any p):=by
 obtain⟨r,h1,h2⟩:=AjU (s:=s) p hn (step:=KI s f) (by grind [KI,CM,Bp]) (by unfold KI;rw[DH];rfl);unfold Abd Wy;rw[h1];rcases h2 with⟨rfl,h2⟩|⟨j,rfl,h2,_⟩<;>rw[h2]
 .rfl
 .show some (decide (0<=(j:Int)))=_;rw[CO aa]
section
attribute [local irreducible] Tr dz Gp
def AfS(m:FM Int AA):FM Int (Option AA):=⟨m.es.map λe=>(e.1,some e.2.1,e.2.2),m.clk⟩
theorem AfT(m:FM Int AA)(k:Int):(AfS m).get k=(m.get k).map some:=by unfold FM.get AfS;dsimp only;induction m.es<;>grind
theorem AhJ(R:Ad)(m:Int):∀σ,bL prog σ Xc false (FM.g JN (λx=> .ptr (FF x) 0) R.members) (iG m)=some (npG FF (R.members.get m)):=λσ=>by
 have h:=FM.look1 (et:=183) PE (t:=Xc) (vg:=npG FF) (v0:=none) aH aH (AfS R.members) m (gk:=iG m) rfl σ;have e:(AfS R.members).g JN (npG FF)=FM.g JN (λx=> .ptr (FF x) 0) R.members:=by unfold FM.g AfS;simp only[Iu];rfl
 rw[e,AfT] at h;rw[h];cases R.members.get m<;>rfl
abbrev frI(a:Nat){R:Ad}{k:Int}{x:AA}(_:R.members.get k=some x):Fr:=[(a,iG k)]
theorem Vn(R:Ad)(m:Int):ba prog gl 142 [.ptr (CB R) 0,iG m] (iG (MI R m)):=by
 have h:=AhJ R m;unfold MI;cases hx:R.members.get m with
 |none=>rw[hx] at h;exact Gh func142 (Ar [hm 11 h] [])
 |some x=>rw[hx] at h;exact Gh func142 (Ar [hm 11 h] [])
def Dd(R:Ad)(o:Bj):Int×Int:=match R.members.es.find? λe=>Lo e.2.1 o.Of with
 |none=>(0,25)
 |some e=>match e.2.1.guard with
  |none=>(0,25)
  |some g=>bif g.guards.any λy=>decide (o.By=y)then(e.1,0)else(0,14)
theorem Ul(hR:Bi R)(o:Bj):SH prog gl 140 [.ref 0 0,.agg (aJ o)] (BG f0 R) 14 14 (.tup [iG (Dd R o).1,iG (Dd R o).2]) (BG f0 R):=by
 refine dFP func140 ?_;have hr2:∀a b:Int,bB (.tup [iG a,iG b]):=by grind [L7,mN]
 have hw:=Abx gl hR o.Of;unfold Dd;cases hfi:R.members.es.find? λe=>Lo e.2.1 o.Of with
 |none=>rw[show Hx R o.Of=0 by unfold Hx;rw[hfi]] at hw;have hr:=hr2 0 25;exact Hm f0 _ hR [hrr 10 f0 15 [.agg (aj o.Of)] hR hw] (HC R hr)
 |some e=>
  have he:=List.mem_of_find?_eq_some hfi;have hg:Lo e.2.1 o.Of=true:=by have:=List.find?_some hfi;exact this
  obtain⟨hx,h3⟩:=hR.mem he;rw[show Hx R o.Of=e.1 by unfold Hx;rw[hfi]] at hw;obtain⟨k,x,n⟩:=e;dsimp only at hx h3 hw hg⊢;obtain⟨j,rfl,d⟩:∃j:Nat,k=(j:Int)/\(j=1\/j=2\/j=3):=by grind
  obtain⟨role,gd⟩:=x;cases gd with
  |none=>cases hg
  |some g=>
   have e1:=Adu d hx;have e2:=AfQ d hx rfl;have hl:∀q∈[eM j ⟨role,some g⟩,eG j g],Bv f0 R q.1=some q.2:=by grind
   have hlk:=Sm hx;have c:=DL gl (UG (Nat.lt_of_le_of_lt (hR.gn _ _ _ hx rfl) B5) o.By);dsimp only;cases hb:g.guards.any λy=>decide (o.By=y) with
   |false=>
    rw[hb] at c;have hr:=hr2 0 14;rcases d with rfl|rfl|rfl
    all_goals
     refine pO 11102140 (s0 32 gl (frI 6 hx++[(0,.ref 0 0),(3,.ref 14 0)]) (stT hl++[(14,oOp o)]) 15 14) [hrr 10 f0 15 [.agg (aj o.Of)] hR hw] (rlT (GE f0++[(14,14)]) f0 hR hl) ?_ (ρ:=GE f0++[(14,14)]) (kd:=N3)
     exact Hm f0 _ hR [KY 20 hlk,hf 29 c] (Xh hl hr)
   |true=>
    rw[hb] at c;have hr:=hr2 (j:Int) 0;rcases d with rfl|rfl|rfl
    all_goals
     refine pO 11102140 (s0 32 gl (frI 6 hx++[(0,.ref 0 0),(3,.ref 14 0)]) (stT hl++[(14,oOp o)]) 15 14) [hrr 10 f0 15 [.agg (aj o.Of)] hR hw] (rlT (GE f0++[(14,14)]) f0 hR hl) ?_ (ρ:=GE f0++[(14,14)]) (kd:=N3)
     exact Hm f0 _ hR [KY 20 hlk,hf 29 c] (Xh hl hr)
end
end Go.Proofs.YtlijnaneopediaaGreatDoor
