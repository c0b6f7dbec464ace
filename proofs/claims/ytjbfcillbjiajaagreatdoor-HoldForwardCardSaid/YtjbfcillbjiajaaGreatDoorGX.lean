/- Texts. -/
import Derived.Laws.Cover3
import Derived.Laws.MakeOwn
import Derived.Orders
import Derived.Test.YtjbfcillbjiajaaGreatDoorGI
namespace Go.Proofs.YtjbfcillbjiajaaGreatDoor
set_option linter.unusedSectionVars false
set_option linter.unusedVariables false
set_option linter.unusedSimpArgs false
open Go.RowKit
variable {es:List (Value×G×Nat)}{o:Oper}{s st st':St}{t u:Bj}{x y:DC}{c c' i id k last n since:Nat}{cx:Cx}{w:World}{β:Bm}{g:G}{v:Value}{R seen:Br}{S:Fu}{vs:Array Value}{fid:FuncId}{fn:Func}{body:Code}{e:Exit}{zs:List Value}{op:BinOp}{parts:Array (Nat×DC)}{q:Fq}
section
variable {P:Bu}
def th(P:Bu)(o:Oper)(st:St)(S:St->Prop):Prop:=∀cx a w K R,mh P cx st a w->(∀st',S st'->∀a' w',mh P cx st' a' w'->K a' w')->o.wpIn cx.F cx.nn P a w K R
theorem th.gs{o:Oper}{st st':St}{S:St->Prop}(h:th P o st S)(hS:∀s,S s->s=st'):GS P o st st':=λcx a w K R r k=>h cx a w K R r (by grind)
theorem GS.gsn{o:Oper}{st st':St}(h:GS P o st st'):th P o st (λs=>s=st'):=λcx a w K R r k=>h cx a w K R r (by simp_all)
def jX(σ:aQ)(gm gs g:G):Option (Nat×Ob):=match LE σ gm,gs with
 |some (i,ty,es,clock),.lit (.int _ b)=>match es.findIdx? (λe=>(e.2.2:Int)==b) with
  |some j=>match es[j]? with
   |some (k,_,n)=>some (i,⟨ty,[],some (.map (es.set j (k,g,n)) clock)⟩)
   |none=>none
  |none=>none
 |_,_=>none
theorem H1{ents:List MapEntry}(h:ents.map (·.born)=es.map (·.2.2))(b:Int):ents.findIdx? (λe=>(e.born:Int)==b)=es.findIdx? (λe=>(e.2.2:Int)==b):=by
 have h1:(ents.map (·.born)).findIdx? (λ(n:Nat)=>(n:Int)==b)=ents.findIdx? (λe=>(e.born:Int)==b):=by rw[List.findIdx?_map];rfl
 have h2:(es.map (·.2.2)).findIdx? (λ(n:Nat)=>(n:Int)==b)=es.findIdx? (λe=>(e.2.2:Int)==b):=by rw[List.findIdx?_map];rfl
 grind
theorem tJ{z:DC}{ob:Ob}(ho:o.op= .entryStore t x y z)(hd:LV o st.n)(hg:jX st.σ (aB st x) (aB st y) (aB st z)=some (i,ob)):GS P o st ({st with σ:=(i,some ob)::st.σ}.put o.dst (.lit undef)):=by
 intro cx a w K R ⟨β,h⟩ l;refine h.loose.oper (by grind) ?_;have hrun:∃w',(execOp a.eval o).run P w= .ok .skip w'/\Bx P cx {st with σ:=(i,some ob)::st.σ} a w' β:=by
  unfold jX at hg;split at hg
  .rename_i p ty es clock kk b c hy;obtain⟨m,bm,ents,hx,hob,rfl,hb,hv,hh,hks,d,hsz,hent⟩:=Hz h (h.ev x) c;have vy:a.eval y= .int kk b:=by have:=h.ev y;grind [RV.lit_eq]
   split at hg
   .rename_i j hj;split at hg
    .rename_i k g0 n he;cases hg;refine⟨_,?_,h.writeX hob hb (EQ _) (World.putObj_heap_same (by grind)) (XO.map_set hsz hent (i:=j) (n:=n) (k:=k) (g:=aB st z) (f:=λe=>{e with val:=a.eval z}) λe hx=>?_)⟩
     .unfold execOp;rw[<-H1 d] at hj;have hj':ents.findIdx? (λe=>(e.born:Int)==b)=some j:=by rw[<-hj];exact List.findIdx?_toArray _ ents.toList
      simp only[ho,hv,vy,Instr.entryStore,E0,E1,br hh dJ,asInt,asIntOf,HA,hj',G8 _ hh dJ]
     grind [Bx.ev]
    .cases hg
   .cases hg
  .cases hg
 obtain⟨w',hrun,hr⟩:=hrun;unfold Oper.wp;rw[hrun];exact l _ _ ⟨β,hr.put o.dst hd (.imm _ _ (.lit _))⟩
def B9(P:Bu)(σ:aQ)(t:Bj)(gm:G):Option QN:=match pB P t with
 |some _=>match gm with
  | .lit (.map none)=>some (.iter none 0 [] 0)
  |gm=>match LE σ gm with
   |some (i,_,_,clock)=>some (.iter (some i) clock [] clock)
   |none=>none
 |none=>none
theorem H2{ob:QN}(ho:o.op= .range t x)(hd:LV o st.n)(hg:B9 P st.σ t (aB st x)=some ob):
  GS P o st ({st with σ:=(st.c,some ⟨t,[],some ob⟩)::st.σ,c:=st.c+1}.put o.dst (.ref st.c 0)):=by
 intro cx a w K R ⟨β,h⟩ f
 refine h.loose.oper (by grind) ?_
 have hrun:∃o0,(execOp a.eval o).run P w= .ok (.value (.pointer (some ⟨w.heap.size,0,none⟩))) (w.alloc o0)/\XO β (Av cx.S0 β st.σ) w ob o0:=by
  unfold B9 at hg;split at hg
  .rename_i q ht;obtain⟨kt,et⟩:=q;split at hg
   .rename_i hx;cases hg;have hv:a.eval x= .map none:=by have:=h.ev x;grind [RV.lit_eq]
    refine⟨_,?_,⟨none,rfl,(by grind)⟩⟩;unfold execOp;simp only[ho,hv,E0,run_range_nilMap w t kt et (cJ ht),E1,HA]
   .split at hg
    .rename_i i ty es clock d;cases hg;obtain⟨j,bm,ents,hx,hob,rfl,hb,hv,hh,hks,g,hsz,hent⟩:=Hz h (h.ev x) d;refine⟨_,?_,⟨some bm,rfl,(by grind)⟩⟩;unfold execOp;simp only[ho,hv,E0,run_range_map w t kt et bm ents clock (cJ ht) hh,E1,HA]
    .cases hg
  .cases hg
 obtain⟨o0,hrun,e⟩:=hrun
 have:=h.allocX (w':=w.alloc o0) ((A3.refl _ _).alloc _) (b:=w.heap.size) (ob:=⟨t,[],some ob⟩) (x:=ob) (Dk _) (heap_alloc_new w _) rfl rfl e (Dk st.c)
 unfold Oper.wp
 rw[hrun]
 exact f _ _ ⟨_,this.put o.dst hd (.ref _ 0 _ 0 aC)⟩
inductive F2 {α β:Type} (R:α->β->Prop):List α->List β->Prop
 |nil:F2 R [] []
 |cons {a b l m} (h:R a b) (t:F2 R l m):F2 R (a::l) (b::m)
theorem F2.of_get{α β:Type}{R:α->β->Prop}:∀{l:List α} {m:List β},l.length=m.length->(∀(i:Nat) a b,l[i]?=some a->m[i]?=some b->R a b)->F2 R l m
 |[],[],_,_=> .nil
 |a::l,b::m,hl,h=> .cons (h 0 a b rfl rfl) (F2.of_get (by grind) λi x y hx hy=>h (i+1) x y (by grind) (by grind))
 |[],b::m,hl,_=>by simp at hl
 |a::l,[],hl,_=>by simp at hl
theorem F2.filter{α β:Type}{R:α->β->Prop}{p:α->Bool}{q:β->Bool}(c:∀a b,R a b->p a=q b):∀{l:List α} {m:List β},F2 R l m->F2 R (l.filter p) (m.filter q)
 |_,_,.nil=> .nil
 |a::l,b::m,.cons h t=>by
  rw[List.filter_cons,List.filter_cons,c a b h];split
  .exact .cons h (F2.filter c t)
  .exact F2.filter c t
theorem F2.append{α β:Type}{R:α->β->Prop}:∀{l l':List α} {m m':List β},F2 R l m->F2 R l' m'->F2 R (l++l') (m++m')
 |_,_,_,_,.nil,h=>h
 |_,_,_,_,.cons h t,h'=> .cons h (F2.append t h')
theorem F2.map{α β α' β':Type}{R:α->β->Prop}{R':α'->β'->Prop}{f:α->α'}{g:β->β'}(hf:∀a b,R a b->R' (f a) (g b)):∀{l:List α} {m:List β},F2 R l m->F2 R' (l.map f) (m.map g)
 |_,_,.nil=> .nil
 |_,_,.cons h t=> .cons (hf _ _ h) (F2.map hf t)
theorem F2.get{α β:Type}{R:α->β->Prop}:∀{l:List α} {m:List β},F2 R l m->∀{i:Nat} {a:α},l[i]?=some a->∃b,m[i]?=some b/\R a b
 |_,_,.nil,i,a,h=>by simp at h
 |_,_,.cons h t,0,a,hi=>by grind
 |_,_,.cons h t,i+1,a,hi=>by obtain⟨b,h1,h2⟩:=F2.get t (by simpa using hi);grind
theorem F2.isEmpty{α β:Type}{R:α->β->Prop}{l:List α}{m:List β}(h:F2 R l m):l.isEmpty=m.isEmpty:=by cases h<;>rfl
theorem F2.all{α β:Type}{R:α->β->Prop}{p:α->Bool}{q:β->Bool}(c:∀a b,R a b->p a=q b):∀{l:List α} {m:List β},F2 R l m->l.all p=m.all q
 |_,_,.nil=>rfl
 |_,_,.cons h t=>by rw[List.all_cons,List.all_cons,c _ _ h,F2.all c t]
def rD(es:List (Value×G×Nat))(since:Nat)(seen:Br):List (Option (Value×G×Nat)):=
 let left:=es.filter λe=> !seen.contains e.2.2
 let old:=left.filter λe=>decide (e.2.2<since)
 let new:=left.filter λe=>decide (e.2.2>=since)
 (if old.isEmpty then[none] else[])++(old++new).map some
def gR(σ:aQ):G->Option (Nat×Bj×Fq×Nat×Br×Nat)
 | .ref i 0=>match ag σ i with
  |some ⟨t,_,some (.iter m since seen last)⟩=>some (i,t,m,since,seen,last)
  |_=>none
 |_=>none
def V3(st:St)(d:Option Tmp)(i:Nat)(t:Bj)(m since clock:Nat)(seen:Br)(cs:List (Option (Value×G×Nat)))(s:St):Prop:=
 (none∈cs/\s=st.put d (.tup [.lit (.bool false)]))\/∃k g n,some (k,g,n)∈cs/\s={st with σ:=(i,some ⟨t,[],some (.iter (some m) since (seen++[n]) clock)⟩)::st.σ}.put d (.tup [.lit (.bool true),db k,g])
theorem xT{a:Act}(h:Bx P cx st a w β){m:Fq}(hv:RV β (Av cx.S0 β st.σ) w g v)(hg:gR st.σ g=some (i,t,m,since,seen,last)):
  ∃ob b c,ag st.σ i=some ob/\ob.t=t/\β i=some (some (b,0))/\v= .pointer (some ⟨b,0,none⟩)/\w.heap[b]?=some (.mapIter c since seen.toArray last)/\((m=none/\c=none)\/∃j b' C,m=some j/\c=some b'/\β j=some (some (b',C))):=by
 unfold gR at hg
 split at hg
 .rename_i k
  split at hg
  .rename_i t' l n d e f ho
   cases hg
   obtain⟨b,C,hb,rfl⟩:=hv.ref_addr
   rcases h.ob i _ ho with⟨_,_,h3⟩|⟨b',x,o,h1,h2,h3,h4,h5⟩|⟨b',C',cur,h1,_⟩
   .grind
   .cases h1
    rw[h3] at hb
    cases hb
    obtain⟨c,rfl,h6⟩:=h5
    grind
   .cases h1
  .cases hg
 .cases hg
theorem Kl(n:Nat)(hn:0<n)(w:World):∃(j:Nat) (a:World),j<n/\A3 (λ_=>False) w a/\a.heap=w.heap/\(choose (Question.mapNext n)).run P w= .ok j a:=by
 by_cases hf:n<=1
 .grind [A3.refl,choose,Sem.run,Question.forced]
 .exact⟨_,w.drew,Nat.mod_lt _ hn,⟨rfl,rfl,rfl,Dk _,λ_ _ _=>rfl,Nat.le_succ _⟩,rfl,by simp only[choose,Sem.run,Question.forced,decide_eq_true_eq,hf,if_false,Question.cut];rfl⟩
def pD(es:List (Value×G×Nat))(seen:Br)(last:Nat):Bool:= !(!seen.isEmpty&& !es.isEmpty&&es.all λe=>decide (e.2.2>=last))
theorem Mf{j clock:Nat}{ty:Bj}(ho:o.op= .next x false)(hd:LV o st.n)(hi:gR st.σ (aB st x)=some (i,t,some j,since,seen,last))(hm:LE st.σ (.mref j)=some (j,ty,es,clock))(hok:pD es seen last=true):
  th P o st (V3 st o.dst i t j since clock seen (rD es since seen)):=by
 intro cx a w K R ⟨β,h⟩ B
 refine h.loose.oper (by grind) ?_
 obtain⟨ob,b,J,hob,rfl,hb,hv,hh,F⟩:=xT h (h.ev x) hi
 obtain⟨b',rfl,hb'⟩:∃b',J=some b'/\∃C,β j=some (some (b',C)):=by grind
 obtain⟨C,hb'⟩:=hb'
 obtain⟨L,bb,ents,_,E,rfl,hb2,_,c,_,_,hsz,hent⟩:=Hz h (.mref j b' C hb') hm
 obtain rfl:b'=bb:=by grind
 have hF:F2 (λ(e:MapEntry) (q:Value×G×Nat)=>e.key=q.1/\e.born=q.2.2/\RV β (Av cx.S0 β st.σ) w q.2.1 e.val) ents.toList es:=by grind [F2.of_get]
 have d:=hF.filter (p:=λe=> !(seen.toArray).contains e.born) (q:=λe=> !seen.contains e.2.2) (λe q ⟨_,h2,_⟩=>by simp[h2])
 have s:=d.filter (p:=λe=>decide (e.born<since)) (q:=λe=>decide (e.2.2<since)) (λe q ⟨_,h2,_⟩=>by simp[h2])
 have v:=d.filter (p:=λe=>decide (e.born>=since)) (q:=λe=>decide (e.2.2>=since)) (λe q ⟨_,h2,_⟩=>by simp[h2])
 have htest:(!(seen.toArray).isEmpty&& !ents.isEmpty&&ents.all (λx=>decide (x.born>=last)))=false:=by
  have e1:(seen.toArray).isEmpty=seen.isEmpty:=aC;have e2:ents.isEmpty=es.isEmpty:=by grind [F2]
  have e3:ents.all (λx=>decide (x.born>=last))=es.all (λe=>decide (e.2.2>=last)):=by rw[<-hF.all (p:=λx=>decide (x.born>=last)) (by grind)];simp
  grind [pD]
 obtain⟨cs,hcs⟩:∃cs:Array (Option MapEntry),cs=(if((ents.filter λe=> !(seen.toArray).contains e.born).filter λx=>decide (x.born<since)).isEmpty then#[none] else#[])++(((ents.filter λe=> !(seen.toArray).contains e.born).filter λx=>decide (x.born<since))++((ents.filter λe=> !(seen.toArray).contains e.born).filter λx=>decide (x.born>=since))).map some:=⟨_,rfl⟩
 have hFc:F2 (λ(e:Option MapEntry) (q:Option (Value×G×Nat))=>(e=none/\q=none)\/∃e' m,e=some e'/\q=some m/\e'.key=m.1/\e'.born=m.2.2/\RV β (Av cx.S0 β st.σ) w m.2.1 e'.val) cs.toList (rD es since seen):=by
  rw[hcs];unfold rD;simp only[Array.toList_append,Array.toList_map,Array.toList_filter];have e0:((ents.filter λe=> !(seen.toArray).contains e.born).filter λx=>decide (x.born<since)).isEmpty=((es.filter λe=> !seen.contains e.2.2).filter λe=>decide (e.2.2<since)).isEmpty:=by grind [F2.isEmpty,Array.toList_filter,Array.isEmpty_toList]
  rw[e0];refine F2.append ?_ ((s.append v).map (by grind));grind [F2]
 have hpos:0<cs.size:=by
  rw[hcs];split
  .simp;omega
  .rename_i hne;generalize ((ents.filter λe=> !(seen.toArray).contains e.born).filter λx=>decide (x.born<since))=A at hne;have:0<A.size:=by grind
   grind
 obtain⟨r,l,hr,hk1,hw1,f⟩:=Kl (P:=P) cs.size hpos w
 have hrr:cs.toList[r]?=some (cs[r]'hr):=aC
 obtain⟨q,hq,y⟩:=hFc.get hrr
 have hh1:l.heap[b]?=some (.mapIter (some b') since seen.toArray last):=by grind
 have hcr:cs[r]?=some (cs[r]'hr):=aC
 have hsync:∀{X:Sem Value},X=X:=λ{X}=>rfl
 rcases y with⟨h1,rfl⟩|⟨e',⟨k',M,z⟩,h1,rfl,h2,h3,h4⟩
 .have hrun:(execOp a.eval o).run P w= .ok (.value (.tuple #[.bool false])) l:=by unfold execOp;simp only[ho,hv,Instr.next,E0,br hh Vr,E1,br c dJ,htest,Bool.false_eq_true,if_false,<-hcs,f,hcr,h1,HA]
  unfold Oper.wp
  rw[hrun]
  refine B _ (.inl ⟨bO hq,rfl⟩) _ _ ⟨β,(h.world hk1).put o.dst hd (.tup _ _ rfl λi g u hg hu=>?_)⟩
  match i with
  |0=>simp at hg hu;subst hg;subst hu;exact .imm _ _ (.lit _)
  |n+1=>simp at hg
 .have hrun:(execOp a.eval o).run P w= .ok (.value (.tuple #[.bool true,e'.key,e'.val])) (l.putObj b (.mapIter (some b') since (seen.toArray.push e'.born) clock)):=by unfold execOp;simp only[ho,hv,Instr.next,E0,br hh Vr,E1,br c dJ,htest,Bool.false_eq_true,if_false,<-hcs,f,hcr,h1,G8 _ hh1 Vr,HA]
  unfold Oper.wp
  rw[hrun]
  have H:=h.world hk1
  have I:=H.writeX (x:= .iter (some j) since (seen++[z]) clock) hob hb (EQ (.mapIter (some b') since (seen.toArray.push e'.born) clock)) (World.putObj_heap_same (Array.getElem?_eq_some_iff.1 hh1).1) ⟨some b',by rw[h3];simp,.inr ⟨j,b',C,rfl,rfl,hb'⟩⟩
  have hkk:A3 (Av cx.S0 β st.σ) w (l.putObj b (.mapIter (some b') since (seen.toArray.push e'.born) clock)):=(hk1.mono (by grind)).trans ((EQ _).mono (by grind))
  have hAv:∀b0,b0<w.heap.size->Av cx.S0 β ((i,some ⟨ob.t,[],some (.iter (some j) since (seen++[z]) clock)⟩)::st.σ) b0->Av cx.S0 β st.σ b0:=by
   rintro b0 _ (hx|⟨k,N,D,h5,h6⟩)
   .exact .inl hx
   .rw[A9] at h5;split at h5;all_goals grind
  refine B _ (.inr ⟨k',M,z,bO hq,rfl⟩) _ _ ⟨β,I.put o.dst hd (.tup _ _ rfl λi g u hg hu=>?_)⟩
  match i with
  |0=>simp at hg hu;subst hg;subst hu;exact .imm _ _ (.lit _)
  |1=>grind [RV,IV.glit]
  |2=>simp at hg hu;subst hg;subst hu;exact h4.step (by grind) hAv hkk
  |n+3=>simp at hg
def jr(σ:aQ)(g:G):Option G:=match gR σ g with
 |some (_,_,some j,_,seen,last)=>match LE σ (.mref j),seen.getLast? with
  |some (_,_,es,clock),some n=>bif Nat.beq clock last then
    match es.find? (λe=>Nat.beq e.2.2 n) with
    |some (k,g,_)=>some (.tup [db k,g])
    |none=>none
   else none
  |_,_=>none
 |_=>none
theorem Tb(a b:Nat):(a==b)=Nat.beq a b:=by grind [bc,Nat.beq_refl]
theorem Mg{α β:Type}{R:α->β->Prop}{p:α->Bool}{q:β->Bool}(c:∀a b,R a b->p a=q b):∀{l:List α} {m:List β},F2 R l m->∀{b},m.find? q=some b->∃a,l.find? p=some a/\R a b
 |_,_,.nil,b,h=>by simp at h
 |_,_,.cons h t,b,hb=>by
  rw[List.find?_cons] at hb⊢;rw[c _ _ h];split at hb
  .grind
  .exact Mg c t hb
theorem H3(ho:o.op= .entry x)(hd:LV o st.n)(hg:jr st.σ (aB st x)=some g):GS P o st (st.put o.dst g):=by
 intro cx a w K R ⟨β,h⟩ l;refine h.loose.oper (by grind) ?_;have hrun:∃v,(execOp a.eval o).run P w= .ok (.value v) w/\RV β (Av cx.S0 β st.σ) w g v:=by
  unfold jr at hg;split at hg
  .rename_i i t j since seen last hi;split at hg
   .rename_i u ty es clock n hm hn;cases hc:Nat.beq clock last with
    |false=>grind
    |true=>
     rw[hc] at hg;simp only[ax] at hg;have:=bc hc;subst this;obtain⟨ob,b,r,hob,rfl,hb,hv,hh,m⟩:=xT h (h.ev x) hi;obtain⟨b',rfl,C,hb'⟩:∃b',r=some b'/\∃C,β j=some (some (b',C)):=by grind
     obtain⟨s,bb,ents,c,f,rfl,hb2,_,d,_,_,hsz,hent⟩:=Hz h (.mref j b' C hb') hm;cases c;obtain rfl:b'=bb:=by grind
     have hF:F2 (λ(e:MapEntry) (q:Value×G×Nat)=>e.key=q.1/\e.born=q.2.2/\RV β (Av cx.S0 β st.σ) w q.2.1 e.val) ents.toList es:=by grind [F2.of_get]
     split at hg
     .rename_i k y z hf;cases hg;obtain⟨e,he,h1,h2,h3⟩:=Mg (p:=λe=>e.born==n) (by grind [Tb]) hF hf;have he':ents.find? (λe=>e.born==n)=some e:=by grind
      have hbk:(seen.toArray).back?=some n:=by grind
      refine⟨.tuple #[e.key,e.val],?_,(by grind [Kk,RV,IV.glit])⟩;unfold execOp;simp only[ho,hv,Instr.entry,E0,br hh Vr,E1,hbk,br d dJ,bne_self_eq_false,Bool.false_eq_true,if_false,he',HA]
     .cases hg
   .cases hg
  .cases hg
 obtain⟨v,hrun,hr⟩:=hrun;unfold Oper.wp;rw[hrun];exact l _ _ ⟨β,h.put o.dst hd hr⟩
theorem Bx.back{cx:Cx}{st s:St}{a a':Act}{w w':World}{β β1:Bm}{F:Fence}{n:Nat}(h:Bx P cx st a w β)(hr:Bx P ⟨w,GG β st.σ,cx.S0,β,F,n⟩ s a' w' β1)(hgl:s.gl=st.gl):
  Bx P cx {st with σ:=s.σ,c:=s.c} a w' β1/\(∀k x,β k=some x->β1 k=some x)/\A3 (GG β st.σ) w w':=by
 have hext:∀k x,β k=some x->β1 k=some x:=by grind
 have hAo:∀b,b<w.heap.size->Av cx.S0 β1 s.σ b->Av cx.S0 β st.σ b:=by
  rintro b hlt (hb|⟨i,ob,C,h1,h2⟩)
  .exact .inl hb
  .rcases hr.own i ob b C h1 h2 with hb|hb
   .exact .inr hb
   grind
 have hkp:A3 (Av cx.S0 β st.σ) w w':=hr.keep.mono λb _ hb=> .inr hb
 refine⟨{
  size:=h.size
  defers:=h.defers.keep hr.keep (λD hD hx=>by obtain⟨j,d,E,e,f⟩:=hx;grind [not_marks])
  loose:=h.loose
  rnd:=h.rnd
  fr:=by grind [RV.step]
  ob:=hr.ob
  inj:=hr.inj
  own:=by grind
  sep:=hr.sep
  fresh:=hr.fresh
  glob:=by grind
  keep:=h.keep.then hr.keep (λb hb hx=>by obtain⟨j,d,E,e,f⟩:=hx;grind)
  old:=h.old
  pin:=by grind},hext,hr.keep⟩
theorem Bx.front{cx:Cx}{st:St}{a:Act}{w:World}{β:Bm}{F:Fence}{n m:Nat}{r:Bool}{fr:Fr}{tmps:Array Value}(h:Bx P cx st a w β)(hL:JO F)(hr:r=false->F.round=none)(hsz:tmps.size=m)(hf:∀i,RV β (Av cx.S0 β st.σ) w (aD fr i) (tmps.getD i undef)):
  Bx P ⟨w,GG β st.σ,cx.S0,β,F,n⟩ ⟨m,st.gl,fr,st.σ,st.c,st.c,r⟩ {tmps:=tmps,defers:=[]} w β:={
 size:=hsz
 defers:= .nil rfl
 loose:=hL
 rnd:=hr
 fr:=hf
 ob:=h.ob
 inj:=h.inj
 own:=λi o b C ho hb=> .inl ⟨i,o,C,ho,hb⟩
 sep:=h.sep
 fresh:=h.fresh
 glob:=h.glob
 keep:=A3.refl _ _
 old:=by grind
 pin:=by grind}
theorem Ca{gs:Bk}{m:Nat}(hsz:vs.size=gs.length)(hn:gs.length<=m)(hv:∀(i:Nat) (g:G) (u:Value),gs[i]?=some g->vs[i]?=some u->RV β S w g u)(i:Nat):
  RV β S w (aD (bQ 0 gs) i) ((vs++Array.replicate (m-vs.size) undef).getD i undef):=by
 rw[px]
 simp only[Nat.zero_le,if_true,Nat.sub_zero]
 cases hg:gs[i]? with
 |none=>exact .junk _
 |some g=>
  have hlt:=(cr hg).1
  have hu:vs[i]?=some (vs[i]'aa):=by grind
  have e:(vs++Array.replicate (m-vs.size) undef).getD i undef=vs[i]'aa:=by rw[Array.getD_eq_getD_getElem?,Array.getElem?_append_left aa,hu];rfl
  grind
theorem Ek{a:Act}{gs:Bk}{Q:Exit->St->Prop}(h:Bx P cx st a w β)(hfn:P.funcs[fid]?=some fn)(hb:fn.body=some body)(hn:gs.length<=fn.ntmps)(hsz:vs.size=gs.length)
  (hv:∀(i:Nat) (g:G) (u:Value),gs[i]?=some g->vs[i]?=some u->RV β (Av cx.S0 β st.σ) w g u) (hT:Tr P body ⟨fn.ntmps,st.gl,bQ 0 gs,st.σ,st.c,st.c,false⟩ Q) (hQ:∀e s,Q e s->(e= .normal\/e= .ret)/\s.gl=st.gl/\∃b,fn.results.toList.mapM (jV P s)=some b):
  Calls P fid vs w λE w'=>∃v e s b d,E= .returned v/\Q e s/\fn.results.toList.mapM (jV P s)=some b/\Bx P cx {st with σ:=s.σ,c:=s.c} a w' d/\RV d (Av cx.S0 d s.σ) w' (iU b) v/\(∀k x,β k=some x->d k=some x)/\A3 (GG β st.σ) w w':=by
 refine rq (cx:=⟨w,GG β st.σ,cx.S0,β,Fence.wide,9⟩) hfn hb hT rfl rfl ⟨β,h.front lP (λ_=>rfl) (by grind) (Ca hsz hn hv)⟩ ?_
 rintro e s a' w' hq ⟨d,hr⟩
 grind [mP,Bx.back]
theorem Bx.xob{cx:Cx}{st:St}{a:Act}{w:World}{β:Bm}(h:Bx P cx st a w β){i:Nat}{t:Bj}{l:Bk}{x:QN}(ho:ag st.σ i=some ⟨t,l,some x⟩)(hn:x≠ .resv):∃b o,β i=some (some (b,0))/\w.heap[b]?=some o/\XO β (Av cx.S0 β st.σ) w x o:=by
 rcases h.ob i _ ho with⟨_,_,h3⟩|⟨b,c,o,h1,h2,h3,h4,h5⟩|⟨b',C',cur,h1,_⟩
 all_goals grind
def sI(P:Bu)(st:St)(Q:Exit->St->Prop)(e:Exit)(s:St):Prop:=
 (
  e= .normal\/e= .ret)/\s.gl=st.gl/\∃t a pe n fr ps az9 bd,ag s.σ st.c=some ⟨t,[],some (.loop a pe n fr ps az9 bd)⟩/\a≠ .busy/\
  match pe with
  |none=>Q .normal {st with σ:=(st.c,none)::(st.c,some ⟨t,[],some (.loop .exhausted pe n fr ps az9 bd)⟩)::s.σ,c:=s.c}
  |some c=>Tr P c {st with σ:=(st.c,none)::(st.c,some ⟨t,[],some (.loop .exhausted pe n fr ps az9 bd)⟩)::s.σ,c:=s.c} Q
theorem wx{g:DC}{ps:Array Tmp}{assign:Code}{Q:Exit->St->Prop}{fst cap:Bk}{fbody:Code}(hr:st.r=false)(hg:aB st g= .clo (.func fid) fst cap)(hc:aK P fid=true)(hfn:P.funcs[fid]?=some fn)(hb:fn.body=some fbody)
  (hn:(fst++[G.yld st.c]++cap).length<=fn.ntmps) (hres:fn.results.toList=[])
  (hT:Tr P fbody ⟨fn.ntmps,st.gl,bQ 0 (fst++[G.yld st.c]++cap),(st.c,some ⟨0,[],some (.loop .ready none st.n st.fr ps assign body)⟩)::st.σ,st.c+1,st.c+1,false⟩ (sI P st Q)):
  Tr P (.rangeFunc g ps assign body) st Q:=by
 intro cx a w R ⟨β,h⟩ hk
 have hround:cx.F.round=none:=h.rnd hr
 refine wpIn_rangeFunc ?_
 intro A Y
 rw[hround]
 have hx:=h.ev g
 rw[hg] at hx
 obtain⟨fs,cs,N,h1,h2,h3,h4⟩:=hx.clo_form
 obtain⟨l,J⟩:∃l:LoopState->Option Code->Loop,l=λst pe=>{state:=st,pending:=pe,fn:=A,tmps:=a.tmps,params:=ps,assign,body,defers:=w.heap.size}:=⟨_,rfl⟩
 obtain⟨f,hW1⟩:∃f,(w.alloc (.deferred (some []))).alloc (.loop (l .ready none))=f:=⟨_,rfl⟩
 have hW0:Bx P cx st a (w.alloc (.deferred (some []))) β:=h.world ((A3.refl _ _).alloc _)
 have hsz0:(w.alloc (.deferred (some []))).heap.size=w.heap.size+1:=aC
 have hL1:f.heap[w.heap.size+1]?=some (.loop (l .ready none)):=by grind [World.alloc]
 have hD1:f.heap[w.heap.size]?=some (.deferred (some [])):=by grind [Below.heap_alloc,World.alloc_heap_new]
 have hk1:A3 (λ_=>False) (w.alloc (.deferred (some []))) f:=by grind [A3.alloc,A3.refl]
 have K:=hW0.allocX (w':=f) hk1 (b:=w.heap.size+1) (ob:=⟨0,[],some (.loop .ready none st.n st.fr ps assign body)⟩) (x:= .loop .ready none st.n st.fr ps assign body) (by rw[hsz0];exact Dk _) hL1 rfl rfl ⟨A,a.tmps,w.heap.size,by rw[J],hW0.size,λj=>hW0.fr j⟩ (Dk st.c)
 refine⟨w.heap.size+1,[{target:= .collected w.heap.size,args:= #[]}],f,{target:= .fn (.func fid) cs,args:=fs++ #[.func (.yield (w.heap.size+1)) #[] #[]]},f,fid,
  fs++ #[.func (.yield (w.heap.size+1)) #[] #[]]++cs,f,?_,?_,λ_ _=>h.loose.fn _,?_,h.loose.some,?_⟩
 .grind [run_enterLoop_outer]
 .simp only[resolve,N]
  simp[go_sem]
 .simp[invoke,go_sem,wq hc]
 refine h.loose.calls ?_
 have hsub:∀b,b<w.heap.size->Av cx.S0 (λi=>if i=st.c then some (some (w.heap.size+1,0))else β i) ((st.c,some ⟨0,[],some (.loop .ready none st.n st.fr ps assign body)⟩)::st.σ) b->Av cx.S0 β st.σ b:=by grind
 have hext1:∀i x,β i=some x->(λi=>if i=st.c then some (some (w.heap.size+1,0))else β i) i=some x:=by grind
 have hkw:A3 (Av cx.S0 β st.σ) w f:=by grind [A3.alloc,A3.refl]
 refine(Ek K hfn hb hn (by grind) (λi g u hg' hu=>?_) hT (λe s (hq:sI P st Q e s)=>⟨hq.1,hq.2.1,[],by rw[hres];rfl⟩)).mono ?_
 .by_cases c1:i<fst.length
  .grind [RV.step]
  .by_cases c2:i<fst.length+1
   .have e:i=fst.length:=aa
    subst e
    rw[List.append_assoc,List.getElem?_append_right (Dk _),Nat.sub_self] at hg'
    rw[Array.append_assoc,Array.getElem?_append_right aa,h1,Nat.sub_self,Array.getElem?_append_left aC] at hu
    simp at hg' hu
    subst hg';subst hu
    exact .yld _ _ 0 aC
   .rw[List.getElem?_append_right cq] at hg'
    grind [RV.step]
 .rintro E O ⟨v,e,s,gs',β2,rfl,⟨he,hgl,t,ls,pe,n,fr,m,p,q,hob,B,S⟩,hgs,z,hrv,Z,hkeep⟩
  have hob':ag ({st with σ:=s.σ,c:=s.c}:St).σ st.c=some ⟨t,[],some (.loop ls pe n fr m p q)⟩:=hob
  obtain⟨b,o,hb2,hh,U⟩:=z.xob (st:={st with σ:=s.σ,c:=s.c}) hob' (by grind)
  have hbl:β2 st.c=some (some (w.heap.size+1,0)):=by grind
  rw[hbl] at hb2
  simp only[Fe,Ft,and_true] at hb2
  subst hb2
  obtain⟨M,d,D2,rfl,V,W⟩:=U
  have L:=run_endLoop (P:=P) hh B
  refine⟨pe,_,L,?_⟩
  have hlt:w.heap.size+1<O.heap.size:=by grind
  have hX:=z.writeX (x:= .loop .exhausted pe n fr m p q) hob' hbl (by grind [EQ]) (World.putObj_heap_same hlt) ⟨M,d,D2,rfl,V,W⟩
  have k:=hX.kill st.c
  have hD2:O.heap[w.heap.size]?=some (.deferred (some [])):=(hkeep.block _ (by grind) (λ⟨j,ob2,C,h5,h6⟩=>K.not_marks h5 h6 hD1)).trans hD1
  have hrelA:mh P cx {st with σ:=(st.c,none)::(st.c,some ⟨t,[],some (.loop .exhausted pe n fr m p q)⟩)::s.σ,c:=s.c} {a with defers:=[{target:= .collected w.heap.size,args:= #[]}]++a.defers} (O.putObj (w.heap.size+1) (.loop {state:= .exhausted,pending:=pe,fn:=M,tmps:=d,params:=m,assign:=p,body:=q,defers:=D2})):=by
   refine⟨β2,{k with size:=k.size,defers:=?_,fr:=k.fr}⟩;obtain⟨I,X,d2,d3⟩:=k.defers;have hold:∀D∈I,D<w.heap.size:=by
    intro D hD;obtain⟨H,f1,f2,f3⟩:=h.defers;have:H.map rp=I.map rp:=f1.symm.trans X;have hm:H=I:=by
     have hinj:∀x y,rp x=rp y->x=y:=by grind [rp]
     clear f1 f2 f3 X d2 d3 hD;induction H generalizing I with
     |nil=>simp_all
     |cons x r ih=>cases I<;>grind
    grind
   refine⟨w.heap.size::I,by simp[X,rp],(by grind),λD hD=>?_⟩;grind [World.putObj_heap_other]
  cases pe with
  |none=>grind
  |some c=>exact S cx _ _ _ hrelA hk
def xU:List (Tmp×G)->Fr->Fr
 |[],fr=>fr
 |(p,g)::r,fr=>xU r ((p,g)::fr)
theorem El{β:Bm}{S:Fu}{w:World}{n:Nat}:∀(l:List (Tmp×G)) (vs:List Value) (fr:Fr) (tmps:Array Value),vs.length=l.length->tmps.size=n->(∀p∈l,p.1<n)->(∀i,RV β S w (aD fr i) (tmps.getD i undef))->(∀(i:Nat) (q:Tmp×G) (u:Value),l[i]?=some q->vs[i]?=some u->RV β S w q.2 u)->
  (((l.map (·.1)).zip vs).foldl (λt (p,v)=>t.setIfInBounds p v) tmps).size=n/\∀i,RV β S w (aD (xU l fr) i) ((((l.map (·.1)).zip vs).foldl (λt (p,v)=>t.setIfInBounds p v) tmps).getD i undef)
 |[],vs,fr,tmps,hl,hs,_,hf,_=>⟨hs,hf⟩
 |(p,g)::r,v::vs,fr,tmps,hl,hs,hp,hf,hv=>by
  refine El r vs ((p,g)::fr) (tmps.setIfInBounds p v) (by grind) (by grind) (by grind) (λi=>?_) (λi q u hq hu=>hv (i+1) q u (by grind) (by grind));have hlt:p<tmps.size:=by simp_all
  have:=HI {tmps:=tmps,defers:=[]} p v hlt i;simp only[Act.put] at this;rw[this,aO];split
  .exact hv 0 (p,g) v rfl rfl
  .exact hf i
 |(p,g)::r,[],fr,tmps,hl,_,_,_,_=>by simp at hl
def Qo:Exit->Option (Option Code)
 | .normal=>some none
 | .ret=>some (some .ret)
 | .exit id=>some (some (.exit id))
 | .goto t=>some (some (.goto t))
 |_=>none
def rE(P:Bu)(st:St)(i:Nat)(S:Option Code->QN->Bj->St->Prop)(e:Exit)(s:St):Prop:=
 s.gl=st.gl/\∃j t a pe n fr ps az9 bd,Qo e=some j/\ag s.σ i=some ⟨t,[],some (.loop a pe n fr ps az9 bd)⟩/\S j (.loop (if j.isNone then .ready else .done) j n fr ps az9 bd) t s
theorem Em{o:Oper}{st:St}{f:DC}{xs:Array DC}{ats:Array Bj}{i n:Nat}{t:Bj}{pe:Option Code}{fr:Fr}{ps:Array Tmp}{az9 bd:Code}{S:Option Code->QN->Bj->St->Prop}
  (ho:o.op= .call {callee:= .value f,args:=xs,argTypes:=ats}) (hd:LV o st.n) (hf:aB st f= .yld i) (hob:ag st.σ i=some ⟨t,[],some (.loop .ready pe n fr ps az9 bd)⟩) (hsz:xs.size=ps.size) (Y:∀p∈ps.toList,p<n)
  (
   hA:Tr P az9 ⟨n,st.gl,xU (ps.toList.zip (xs.toList.map (aB st))) fr,st.σ,st.c,st.c,true⟩ (λe s=>e= .normal/\s.gl=st.gl/\∃t' k X u y z A,ag s.σ i=some ⟨t',[],some (.loop .ready k X u y z A)⟩/\
   Tr P bd {s with σ:=(i,some ⟨t',[],some (.loop .busy k X u y z A)⟩)::s.σ} (rE P st i S))):
  th P o st (λs'=>∃j x t' s,S j x t' s/\s'={st with σ:=(i,some ⟨t',[],some x⟩)::s.σ,c:=s.c}.put o.dst (.lit (.bool j.isNone))):=by
 intro cx a w K R ⟨β,h⟩ hK
 obtain⟨l,o0,hbi,hh,Z⟩:=h.xob hob (by grind)
 obtain⟨fn,tmps,D,rfl,hts,htf⟩:=Z
 have hfv:a.eval f= .func (.yield l) #[] #[]:=by have:=h.ev f;grind [RV.yld_form]
 have hrun:(execOp a.eval o).run P w= .ok (.round l fn ((ps.zip (xs.map a.eval)).foldl (λt (p,v)=>t.setIfInBounds p v) tmps) az9 bd) w:=by unfold execOp;have hy:=run_yield (P:=P) (args:=xs.map a.eval) hh (by grind);grind [resolve,invoke,Deferred.ofValue]
 refine⟨λg _=>h.loose.fn g,?_⟩
 have hs:o.semAt cx.F.round a.eval=execOp a.eval o:=by
  cases cx.F.round with
  |none=>rfl
  |some l=>grind [Oper.semAt_some]
 rw[hs,hrun,Oper.uponIn_round]
 refine⟨h.loose.some,?_⟩
 have hLr:JO (cx.F.inRound l):=⟨h.loose.fn,h.loose.depth,h.loose.alive⟩
 obtain⟨q1,q2⟩:=El (β:=β) (S:=Av cx.S0 β st.σ) (w:=w) (n:=n) (ps.toList.zip (xs.toList.map (aB st))) (xs.toList.map a.eval) fr tmps cq hts (λp hp=>Y p.1 (List.of_mem_zip hp).1) htf (by grind [Bx.ev])
 have e0:(ps.toList.zip (xs.toList.map (aB st))).map (·.1)=ps.toList:=by grind [List.map_fst_zip]
 rw[e0] at q1 q2
 have e1:(ps.zip (xs.map a.eval)).foldl (λt (p,v)=>t.setIfInBounds p v) tmps=(ps.toList.zip (xs.toList.map a.eval)).foldl (λt (p,v)=>t.setIfInBounds p v) tmps:=by rw[<-Array.foldl_toList];simp_all
 rw[e1]
 refine roundIn_of_wpIn (h.loose.fn fn) ?_
 have hfront:=h.front (F:=cx.F.inRound l) (n:=cx.nn-1) (m:=n) (r:=true) hLr (λhx=>by cases hx) q1 q2
 refine hA ⟨w,GG β st.σ,cx.S0,β,cx.F.inRound l,cx.nn-1⟩ _ w _ ⟨β,hfront⟩ ?_
 .rintro e s a1 w1 ⟨rfl,hgl,t',k,X,u,y,z,A,B,hT2⟩ ⟨β1,hr1⟩
  obtain⟨b1,o1,hb1,hh1,H⟩:=hr1.xob B (by grind)
  have hext1:=(hr1.pin i _ hbi).2
  rw[hext1] at hb1
  simp only[Fe,Ft,and_true] at hb1
  subst hb1
  obtain⟨fn1,E,D1,rfl,I,J⟩:=H
  have hlt1:l<w1.heap.size:=by grind
  refine⟨_,run_beginRound hh1 rfl,?_⟩
  have hX1:=hr1.writeX (x:= .loop .busy k X u y z A) B hext1 (by grind [EQ]) (World.putObj_heap_same hlt1) ⟨fn1,E,D1,rfl,I,J⟩
  refine hT2 ⟨w,GG β st.σ,cx.S0,β,cx.F.inRound l,cx.nn-1⟩ a1 _ _ ⟨β1,hX1⟩ ?_
  rintro e2 s2 a2 w2 ⟨L,j,t2,ls2,pe2,n2,fr2,Q,U,V,hj,C,hS⟩ ⟨β2,hr2⟩
  obtain⟨b2,o2,hb2,hh2,M⟩:=hr2.xob C (by grind)
  have hext2:=(hr2.pin i _ hbi).2
  rw[hext2] at hb2
  simp only[Fe,Ft,and_true] at hb2
  subst hb2
  obtain⟨W,d,D2,rfl,N,O⟩:=M
  have hlt2:l<w2.heap.size:=by grind
  have b:=run_endRound (P:=P) j hh2
  have hX2:=hr2.writeX (x:= .loop (if j.isNone then .ready else .done) j n2 fr2 Q U V) C hext2 (by grind [EQ]) (World.putObj_heap_same hlt2) ⟨W,d,D2,rfl,N,O⟩
  obtain⟨hback,_,_⟩:=h.back hX2 L
  have hfin:K (a.put o.dst (.bool j.isNone)) (w2.putObj l (.loop {state:=if j.isNone then .ready else .done,pending:=j,fn:=W,tmps:=d,params:=Q,assign:=U,body:=V,defers:=D2})):=
   hK _ (by grind) _ _ ⟨β2,hback.put o.dst hd (.imm _ _ (.lit _))⟩
  cases e2 with
  |normal=>cases hj;exact⟨_,_,b,hfin⟩
  |ret=>cases hj;exact⟨_,_,b,hfin⟩
  |exit id=>cases hj;exact⟨_,_,b,hfin⟩
  |goto q=>cases hj;exact⟨_,_,b,hfin⟩
  |panic c=>cases hj
  |outgrown=>cases hj
theorem Dr{pl:Fq}{e:Bj}{s bytes:Nat}{kl kc:IntKind}(ho:o.op= .makeSlice t x y)(hd:LV o st.n)(he:dp P t=some e)(hs:bw P e=some s)(hz:jj P e=some zs)(b:zs.length=s)(hby:(P.info? e).map (·.bytes)=some bytes)
  (hx:aB st x= .lit (.int kl n)) (hy:aB st y= .lit (.int kc n)) (hb:bytes*n<=281474976710656) (f:n<=9223372036854775807) (hpl:zB st pl):GS P o st (st.newP pl o.dst e ((bN zs (n*s)).map .lit) (.rsl (iT st pl) 0 n)):=by
 intro cx a w K R ⟨β,h⟩ l
 obtain⟨i,z,hi,hz',d,h1⟩:=ii hz
 have ht:=cE he
 have hsi:i.size=s:=by unfold bw at hs;rw[hi] at hs;simpa using hs
 have hbi:i.bytes=bytes:=by rw[hi] at hby;simpa using hby
 have vx:a.eval x= .int kl n:=by have:=h.ev x;rw[hx] at this;exact this.lit_eq
 have vy:a.eval y= .int kc n:=by have:=h.ev y;rw[hy] at this;exact this.lit_eq
 have hcells:madeCells z.cells (n*s)=(bN zs (n*s)).toArray:=by
  apply Array.ext (by simp[bN,madeCells]);intro j h1' h2';have hj:j<n*s:=by simpa[madeCells] using h1'
  have hpos:0<zs.length:=by
   rcases Nat.eq_zero_or_pos zs.length with h0|h0
   .rw[<-b,h0] at hj;simp at hj
   .exact h0
  have hlt:=Nat.mod_lt j hpos;have hsz:z.cells.size=zs.length:=by rw[<-d];simp
  simp only[madeCells,Array.getElem_map,Array.getElem_range,bN,List.getElem_toArray,List.getElem_map,List.getElem_range,hsz];rw[List.getD_eq_getElem?_getD,EA hlt,getElem!_pos z.cells _ aa];simp only[Nt,<-d,Array.getElem_toList]
 have hrun:(execOp a.eval o).run P w= .ok (.value (.slice (some ⟨w.heap.size,0,none⟩) n n)) (w.alloc (.cells (bN zs (n*s)).toArray e)):=by
  have hbb:(i.bytes:Int)*(n:Int)<=281474976710656:=by have h:((bytes*n:Nat):Int)<=281474976710656:=aa;rw[hbi];rwa [Int.natCast_mul] at h
  have hm:=run_make (P:=P) w t e i z ht hi hz' kl kc n n aa (Int.le_refl _) hbb aa;rw[hsi] at hm;simp only[Fw] at hm;rw[hcells] at hm;unfold execOp;simp only[ho,vx,vy,E0,hm,E1,HA]
 refine h.loose.oper (λc hc=>by rw[ho] at hc;cases hc) ?_
 unfold Oper.wp
 rw[hrun]
 have hzz:∀v∈bN zs (n*s),v.oneCell'=true:=by
  intro v hv;simp only[bN,EO,List.mem_range] at hv;obtain⟨k,hk,rfl⟩:=hv;have hpos:0<zs.length:=by
   rcases Nat.eq_zero_or_pos zs.length with h0|h0
   .rw[<-b,h0] at hk;simp at hk
   .exact h0
  have hlt:=Nat.mod_lt k hpos;rw[List.getD_eq_getElem?_getD,EA hlt];exact h1 _ (List.getElem_mem hlt)
 have hn:n<=maxLen:=by unfold maxLen;omega
 refine l _ _ (h.newP (hpl:=hpl) (C:=n) (by rw[Ng hs];simp[bN]) hn aC (λj u hu=>hzz u (bO (by simpa using hu))) (λj g u hg hu=>?_) o.dst hd (λm hb S w'=> .rsl _ _ _ _ _ _ _ hb (Dk _) hn (λ_=>rfl) (λ_=>⟨rfl,rfl⟩)))
 rw[Mu] at hg
 have hu':(bN zs (n*s))[j]?=some u:=by simpa using hu
 rw[hu'] at hg
 cases hg
 exact .imm _ _ (.lit u)
def tI(P:Bu)(t:Bj)(gx gy:G):Option (Bj×Bk×Nat):=match gx,gy with
 | .lit (.int _ (.ofNat n)),.lit (.int _ (.ofNat m))=>match dp P t with
  |some e=>match bw P e,jj P e,(P.info? e).map (·.bytes) with
   |some s,some zs,some b=>bif Nat.beq n m&&Nat.beq zs.length s&&Nat.ble (b*n) 281474976710656&&Nat.ble n 9223372036854775807 then some (e,(bN zs (n*s)).map .lit,n)else none
   |_,_,_=>none
  |none=>none
 |_,_=>none
theorem HV{pl:Fq}{e:Bj}{l:Bk}(ho:o.op= .makeSlice t x y)(hd:LV o st.n)(h:tI P t (aB st x) (aB st y)=some (e,l,n))(hpl:zB st pl):GS P o st (st.newP pl o.dst e l (.rsl (iT st pl) 0 n)):=by
 unfold tI at h;split at h
 .rename_i c a kc m hx hy;split at h
  .rename_i e' he;split at h
   .rename_i s zs b h1 h2 h3;cases hc:(Nat.beq a m&&Nat.beq zs.length s&&Nat.ble (b*a) 281474976710656&&Nat.ble a 9223372036854775807) with
    |false=>rw[hc] at h;cases h
    |true=>rw[hc] at h;cases h;simp only[bA] at hc;have e1:=bc hc.1.1.1;subst e1;exact Dr ho hd he h1 h2 (bc hc.1.1.2) h3 hx hy (Ef hc.1.2) (Ef hc.2) hpl
   .cases h
  .cases h
 .cases h
def HW:Value->Bool
 | .slice none _ _=>true
 |_=>false
def HX:Value->Bool
 | .pointer none=>true
 |_=>false
def Qj:Value->Bool
 | .nilFunc=>true
 |_=>false
theorem Kg(h:HW v=true):∃n c,v= .slice none n c:=by unfold HW at h;grind
theorem Kh(h:HX v=true):v= .pointer none:=by grind [HX]
theorem Ki(h:Qj v=true):v= .nilFunc:=by grind [Qj]
def Yg(P:Bu)(t:Bj):Bool:=match P.underlying t with
 |some (.slice _)=>true
 |_=>false
def Yh(P:Bu)(t:Bj):Bool:=match P.underlying t with
 |some (.pointer _)=>true
 |_=>false
def tfn(P:Bu)(t:Bj):Bool:=match P.underlying t with
 |some (.func ..)=>true
 |_=>false
theorem Qk(h:Yg P t=true):∃e,P.underlying t=some (.slice e):=by grind [Yg]
theorem Ql(h:Yh P t=true):∃e,P.underlying t=some (.pointer e):=by grind [Yh]
theorem Qm(h:tfn P t=true):∃a b c,P.underlying t=some (.func a b c):=by grind [tfn]
def Me(P:Bu)(t:Bj)(nil:Value):G->Bool
 | .rsl _ _ (_+1)=>HW nil&&Yg P t
 | .sl (_::_) _=>HW nil&&Yg P t
 | .ref _ _=>HX nil&&Yh P t
 | .ptr _ _=>HX nil&&Yh P t
 | .clo _ _ _=>Qj nil&&tfn P t
 |_=>false
theorem NK{nil:Value}(h:Me P t nil g=true)(hv:RV β S w g v):(∀d W,(Op.equalIn (d+1) t v nil).run P W= .ok false W)/\(∀op x y W,(eqGuard op t x y v nil).run P W= .ok () W)/\∀W,(binOp .eql t v nil).run P W= .ok (.bool false) W/\(binOp .neq t v nil).run P W= .ok (.bool true) W:=by
 have fin:(∀k n,v≠ .int k n)->(∀k n,v≠ .float k n)->(∀k a b,v≠ .complex k a b)->(∀s,v≠ .string s)->(∀d W,(Op.equalIn (d+1) t v nil).run P W= .ok false W)->∀W,(binOp .eql t v nil).run P W= .ok (.bool false) W/\(binOp .neq t v nil).run P W= .ok (.bool true) W:=by
  intro n1 n2 j m he W;have he':(Op.equal t v nil).run P W= .ok false W:=he 9999 W;constructor
  .unfold binOp;split<;>simp_all
  .unfold binOp;split<;>simp_all
 have sl:∀(x:Addr) (n c:Nat),v= .slice (some x) n c->HW nil=true->Yg P t=true->(∀d W,(Op.equalIn (d+1) t v nil).run P W= .ok false W)/\(∀op x y W,(eqGuard op t x y v nil).run P W= .ok () W)/\∀W,(binOp .eql t v nil).run P W= .ok (.bool false) W/\(binOp .neq t v nil).run P W= .ok (.bool true) W:=by
  rintro x n c rfl h1 h2;obtain⟨f,c',rfl⟩:=Kg h1;obtain⟨e,hu⟩:=Qk h2;have he:∀d W,(Op.equalIn (d+1) t (.slice (some x) n c) (.slice none f c')).run P W= .ok false W:=λd W=>by simp[Op.equalIn,Gc hu]
  exact⟨he,λop a b W=>by unfold eqGuard;simp_all,(by simp_all)⟩
 have pt:∀(x:Addr),v= .pointer (some x)->HX nil=true->Yh P t=true->(∀d W,(Op.equalIn (d+1) t v nil).run P W= .ok false W)/\(∀op x y W,(eqGuard op t x y v nil).run P W= .ok () W)/\∀W,(binOp .eql t v nil).run P W= .ok (.bool false) W/\(binOp .neq t v nil).run P W= .ok (.bool true) W:=by
  rintro x rfl h1 h2;obtain rfl:=Kh h1;obtain⟨e,hu⟩:=Ql h2;have he:∀d W,(Op.equalIn (d+1) t (.pointer (some x)) (.pointer none)).run P W= .ok false W:=λd W=>by simp[Op.equalIn,Gc hu]
  exact⟨he,λop a b W=>by unfold eqGuard;simp_all,(by simp_all)⟩
 unfold Me at h;split at h
 .grind [RV.rsl_form]
 .rename_i g0 l n;simp only[bA] at h;obtain⟨a,cap,us,rfl,_,_,ha,_⟩:=hv.sl_cells;obtain⟨b,i,rfl,_⟩:=ha 0 aC;grind
 .grind [RV.ref_addr]
 .grind [RV.ptr_cells]
 .rename_i fn fst cap;simp only[bA] at h;obtain⟨fs,cs,rfl,_⟩:=hv.clo_form;obtain⟨h1,h2⟩:=h;obtain rfl:=Ki h1;obtain⟨_,_,_,hu⟩:=Qm h2;have he:∀d W,(Op.equalIn (d+1) t (.func fn fs cs) .nilFunc).run P W= .ok false W:=λd W=>by simp[Op.equalIn,Gc hu]
  exact⟨he,λop a b W=>by unfold eqGuard;simp_all,(by simp_all)⟩
 .cases h
def FL(P:Bu)(op:BinOp)(t:Bj)(gx gy:G):Option G:=match gy with
 | .lit nil=>bif Me P t nil gx then(match op with
  | .eql=>some (.lit (.bool false))
  | .neq=>some (.lit (.bool true))
  |_=>none)else none
 |_=>none
theorem NL{t':Bj}(ho:o.op= .binOp op t x y t')(hd:LV o st.n)(h:FL P op t (aB st x) (aB st y)=some g):GS P o st (st.put o.dst g):=by
 intro cx a w K R ⟨β,r⟩ c;unfold FL at h;split at h
 .rename_i nil hy;cases hs:Me P t nil (aB st x) with
  |false=>grind
  |true=>
   rw[hs] at h;obtain⟨_,h2,h3⟩:=NK hs (r.ev x);have vy:a.eval y=nil:=by have:=r.ev y;grind [RV.lit_eq]
   have hrun:∃b,g= .lit (.bool b)/\(execOp a.eval o).run P w= .ok (.value (.bool b)) w:=by
    unfold execOp;simp only[ho,vy];cases op with
    |eql=>simp_all
    |neq=>simp_all
    |_=>cases h
   obtain⟨b,rfl,hr⟩:=hrun;refine r.loose.oper (by grind) ?_;unfold Oper.wp;rw[hr];exact c _ _ ⟨β,r.put o.dst hd (.imm _ _ (.lit _))⟩
 .cases h
def BC:Ob:=⟨0,[],some .resv⟩
theorem SQ(st:St):Le P st {st with σ:=(st.c,some BC)::st.σ,c:=st.c+1}:=by rintro cx a w ⟨β,h⟩;exact⟨_,h.virtX 0 (.inr rfl) (Dk _)⟩
def ff:Nat->St->St
 |0,s=>s
 |n+1,s=>ff n {s with σ:=(s.c,some BC)::s.σ,c:=s.c+1}
theorem uB:∀(n:Nat) (st:St),Le P st (ff n st)
 |0,st=>Le.refl st
 |n+1,st=>(SQ st).trans (uB n _)
theorem fY{a b:aQ}(h:i∈a.map (·.1)):ag (a++b) i=ag a i:=by
 induction a with
 |nil=>simp at h
 |cons x r ih=>
  obtain⟨d,ob⟩:=x;rw[List.cons_append,A9,A9];split
  .rfl
  .rename_i e;simp only[Fi,EG] at h;rcases h with h|h
   .exact absurd h.symm e
   .exact ih h
theorem fE{a b:aQ}(h:i∉a.map (·.1)):ag (a++b) i=ag b i:=by
 induction a with
 |nil=>rfl
 |cons x r ih=>obtain⟨d,ob⟩:=x;simp only[Fi,EG,not_or] at h;rw[List.cons_append,A9,BX (λe=>h.1 e.symm)];exact ih h.2
theorem gj{ρ ρ':DC->G}(hs:∀cs b,o.op≠ .select cs b)(h:∀x∈o.op.operands,ρ x=ρ' x):gJ P ρ o=gJ P ρ' o:=by grind [execOp_congr,gJ]
theorem jW{ρ ρ':DC->G}{σ:aQ}(h:∀x∈o.op.operands,ρ x=ρ' x):aX P ρ σ o=aX P ρ' σ o:=by
 obtain⟨f,op,e,pos,d,guard⟩:=o;have arr:∀xs:Array DC,(∀x∈xs,ρ x=ρ' x)->xs.map ρ=xs.map ρ':=by grind
 have g:=λhs=>gj (P:=P) hs h;cases op;case call c=>
  obtain⟨callee,args,ats⟩:=c
  cases callee with
  |builtin b=>
   cases b
   case len=>
    simp only[aX]
    rw[g aC]
    split
    .rename_i x t hx hat
     have:x∈args:=by rw[<-Array.mem_toList_iff,hx];simp
     grind [Op.operands,Call.operands]
    .rfl
   all_goals first|rfl|exact g aC
  |_=>rfl
 case slice t x lo hi mx=>
  cases mx with
  |some _=>simp[aX]
  |none=>
   simp only[aX]
   rw[g aC,h x fK]
   have e1:lo.map ρ=lo.map ρ':=by cases lo<;>simp_all [Op.operands]
   have e2:hi.map ρ=hi.map ρ':=by cases hi<;>simp_all [Op.operands]
   rw[e1,e2]
 all_goals grind [Op.operands,aX]
def St.pr(st:St):Nat×Bool:=(st.p,st.r)
structure Yi (st st':St):Prop where
 n:st'.n=st.n
 gl:st'.gl=st.gl
 fr:∀i,aD st'.fr i=aD st.fr i
 σ:∀i,ag st'.σ i=ag st.σ i
 c:st'.c=st.c
 p:st'.p=st.p
 r:st'.r=st.r
theorem Yi.rel{st st':St}(e:Yi st st'){cx:Cx}{a:Act}{w:World}(h:mh P cx st a w):mh P cx st' a w:=by
 obtain⟨β,h⟩:=h;obtain⟨e1,e2,e3,e4,e5,e6,e7⟩:=e;have hA:Av cx.S0 β st'.σ=Av cx.S0 β st.σ:=by grind
 refine⟨β,?_⟩;constructor<;>grind
theorem Yi.refl(st:St):Yi st st:=by constructor<;>grind
def mO(l:HE)(o:Oper):Br:=(o.op.operands.toList.filterMap fun| .tmp t=>some t|_=>none)++(match o.guard with|some (g,_)=>((l[g]?).bind (·.dst)).toList|none=>[])
def UA(e:Edge):Bool:=Region.binds .any e
def Ab7(o:Oper)(i:Nat):Bool:=o.after.toList.any λe=>UA e&&Nat.beq e.on i
def rgo:HE->Br->Br
 |[],a=>a
 |o::r,a=>rgo r (a++[o.after.toList.foldr (λe s=>bif UA e then 2^e.on|||(a.getD e.on 0|||s)else s) 0])
def rch(R:Br)(i j:Nat):Bool:=(R.getD j 0).testBit i
def mL(a b:Br):Bool:=a.any λx=>b.any (Nat.beq x)
theorem wg{a b:Br}(h:mL a b=false){x:Nat}(ha:x∈a):x∉b:=by simp only[mL,List.any_eq_false] at h;simp_all
structure DI where
 R:Br
 U:aQ
 cu:Bool
 ck:aQ->Bool
def DI.K(d:DI):Br:=d.U.map (·.1)
def bP(inf:List DI)(j:Nat):DI:=inf.getD j ⟨[],[],false,λ_=>false⟩
def xI(a b:DI):Bool:= !mL a.K b.R&&(!mL b.K a.R&&(!mL a.K b.K&& !(a.cu&&b.cu)))
def wv(l:HE)(R:Br)(n:Nat):Bool:=l.zipIdx.all λq=>(match q.1.dst with|some d=>Nat.blt d n|none=>true)&&(q.1.after.toList.all (λe=> !UA e||Nat.blt e.on q.2)&&l.zipIdx.all λp=>match p.1.dst with
 |none=>true
 |some d=>(Nat.beq p.2 q.2||q.1.dst !=some d)&&(!(mO l q.1).any (Nat.beq d)||(Nat.blt p.2 q.2&&Ab7 q.1 p.2||Nat.blt q.2 p.2&&rch R q.2 p.2)))
def Nu(inf:List DI)(R:Br)(n:Nat):DH:=(List.range n).flatMap λj=>(List.range j).filterMap λi=>bif rch R i j||xI (bP inf i) (bP inf j)then none else some (i,j)
def kL(l:HE)(inf:List DI)(n:Nat):Bool:=(λR=>wv l R n&&match Nu inf R l.length with
 |[]=>true
 |[q]=>(bP inf q.1).U.isEmpty&&(!(bP inf q.1).cu&&(bP inf q.1).ck (bP inf q.2).U)
 |_=>false) (rgo l [])
def D6(P:Bu)(ops:Array Oper)(d:DI)(o:Oper)(g:G)(st st':St):Prop:=
 (ce st ops o=some true/\∃c,st'={st with σ:=d.U++st.σ,c:=c}.put o.dst g/\(d.cu=false->c=st.c)/\
   ∀V:aQ,(V=[]\/d.ck V=true)->∀b,b.n=st.n->b.gl=st.gl->b.pr=st.pr->(d.cu=true->b.c=st.c)->(∀x∈d.R,ag b.σ x=ag (V++st.σ) x)->(∀x∈o.op.operands,aB b x=aB st x)->GS P o b ({b with σ:=d.U++b.σ,c:=if d.cu then c else b.c}.put o.dst g))\/
 (ce st ops o=some false/\g= .lit undef/\st'=st.put o.dst g/\d.U=[]/\d.cu=false)
def PQ(P:Bu)(ops:Array Oper)(K:St->Prop):HE->List DI->St->Prop
 |[],[],st=>K st
 |o::rest,i::inf,st=>∃g st',D6 P ops i o g st st'/\PQ P ops K rest inf st'
 |_,_,_=>False
theorem yM{ops:Array Oper}{K:St->Prop}:∀(l:HE) (inf:List DI) (st:St),PQ P ops K l inf st->
  ∃(sts:Nat->St) (gs:Nat->G),sts 0=st/\K (sts l.length)/\∀i o,l[i]?=some o->D6 P ops (bP inf i) o (gs i) (sts i) (sts (i+1))
 |[],[],st,h=>⟨λ_=>st,λ_=> .junk,rfl,h,aC⟩
 |o::rest,q::inf,st,⟨g,st1,hs,hr⟩=>by obtain⟨sts,gs,h1,h2,h3⟩:=yM rest inf st1 hr;refine⟨λi=>match i with|0=>st|i+1=>sts i,λi=>match i with|0=>g|i+1=>gs i,rfl,h2,λi b ho=>?_⟩;grind [bP]
 |o::rest,[],st,h=>h.elim
 |[],q::inf,st,h=>h.elim
theorem Ab8{o:Oper}{g:G}(s:St):(s.put o.dst g).n=s.n/\(s.put o.dst g).gl=s.gl/\(s.put o.dst g).pr=s.pr/\(∀t,aD (s.put o.dst g).fr t=if o.dst=some t then g else aD s.fr t)/\(s.put o.dst g).σ=s.σ/\(s.put o.dst g).c=s.c:=by cases o.dst<;>simp[St.put,aO,St.pr]
theorem D6.like{ops:Array Oper}{d:DI}{o:Oper}{g:G}{st st':St}(h:D6 P ops d o g st st'):st'.n=st.n/\(st'.gl=st.gl/\st'.pr=st.pr)/\(∀t,aD st'.fr t=if o.dst=some t then g else aD st.fr t)/\(d.cu=false->st'.c=st.c)/\(∀x,x∉d.K->ag st'.σ x=ag st.σ x)/\∀x,x∈d.K->ag st'.σ x=ag d.U x:=by
 unfold DI.K;rcases h with⟨_,c,rfl,hc,_⟩|⟨_,_,rfl,h1,h2⟩
 all_goals grind [Ab8,fY,fE,St.pr]
theorem Ab9{D:Fu}{l:HE}(hc:∀j o,l[j]?=some o->D j->∀e∈o.after.toList,UA e=true->D e.on):∀(r d:HE) (a:Br),l=d++r->a.length=d.length->(∀j i,D j->(a.getD j 0).testBit i=true->D i)->∀j i,D j->((rgo r a).getD j 0).testBit i=true->D i
 |[],d,a,hl,hn,ha=>ha
 |o::r,d,a,hl,hn,ha=>by
  refine Ab9 hc r (d++[o]) _ (by simp[hl]) (by simp[hn]) λj i hj hb=>?_;rcases Nat.lt_trichotomy j a.length with h|h|h
  .rw[List.getD_eq_getElem?_getD,List.getElem?_append_left h,<-List.getD_eq_getElem?_getD] at hb;grind
  .have ho:l[j]?=some o:=by grind
   have hb:(o.after.toList.foldr (λe s=>bif UA e then 2^e.on|||(a.getD e.on 0|||s)else s) 0).testBit i=true:=by grind
   have hd:=hc j o ho hj;generalize o.after.toList=es at hb hd;induction es<;>grind
  grind
section draw
variable {l:HE} {inf:List DI} {st:St} {K:St->Prop} {cx:Cx} {Q:Exit->Act->World->Prop}
def bX(l:HE)(i:Nat):Option Tmp:=(l[i]?).bind (·.dst)
def Fre(a b:DI):Prop:=(∀x∈a.K,x∉b.R)/\(∀x∈b.K,x∉a.R)/\(∀x∈a.K,x∉b.K)/\(a.cu=true->b.cu=false)
theorem Ac8{a b:DI}(h:xI a b=true):Fre a b:=by simp only[xI,bA,Bool.not_eq_true'] at h;constructor<;>grind [wg]
structure DZ (P:Bu) (l:HE) (inf:List DI) (st:St) (sts:Nat->St) (gs:Nat->G) (sp:Option (Nat×Nat)):Prop where
 zero:sts 0=st
 step:∀i o,l[i]?=some o->D6 P l.toArray (bP inf i) o (gs i) (sts i) (sts (i+1))
 dstn:∀(j:Nat) (o:Oper) (d:Tmp),l[j]?=some o->o.dst=some d->d<st.n
 edges:∀j o,l[j]?=some o->∀e∈o.after.toList,UA e=true->e.on<j
 uniq:∀i j d,bX l i=some d->bX l j=some d->i=j
 look:∀i j o d,l[j]?=some o->bX l i=some d->d∈mO l o->(i<j/\Ab7 o i=true)\/(j<i/\rch (rgo l []) j i=true)
 spq:∀u v,sp=some (u,v)->u<v/\(bP inf u).U=[]/\(bP inf u).cu=false/\(bP inf u).ck (bP inf v).U=true
 pair:∀i j,i<j->j<l.length->rch (rgo l []) i j=true\/Fre (bP inf i) (bP inf j)\/sp=some (i,j)
theorem Ahg{R:Br}{n i j:Nat}(hij:i<j)(hj:j<n):rch R i j=true\/xI (bP inf i) (bP inf j)=true\/(i,j)∈Nu inf R n:=by cases h1:rch R i j<;>cases h2:xI (bP inf i) (bP inf j)<;>simp[Nu];grind
theorem AjH{R:Br}{n:Nat}{q:Nat×Nat}(h:q∈Nu inf R n):q.1<q.2:=by grind [Nu]
theorem Dm{sts:Nat->St}{gs:Nat->G}(h:kL l inf st.n=true)(h0:sts 0=st)(hs:∀i o,l[i]?=some o->D6 P l.toArray (bP inf i) o (gs i) (sts i) (sts (i+1))):∃sp,DZ P l inf st sts gs sp:=by
 simp only[kL,bA,wv,GV,Prod.forall,List.mem_zipIdx_iff_getElem?] at h;obtain⟨h,hp⟩:=h;have go:∀sp,(∀u v,sp=some (u,v)->u<v/\(bP inf u).U=[]/\(bP inf u).cu=false/\(bP inf u).ck (bP inf v).U=true)->(∀i j,i<j->j<l.length->rch (rgo l []) i j=true\/Fre (bP inf i) (bP inf j)\/sp=some (i,j))->∃sp,DZ P l inf st sts gs sp:=by
  refine λsp k1 k2=>⟨sp,h0,hs,λj o d ho hd=>?_,λj o ho e he hb=>?_,λi j d hi hj=>?_,λi j o d ho hi hl=>?_,k1,k2⟩
  .have:=(h o j ho).1;simp_all
  .have:=(h o j ho).2.1 e he;simp_all
  .obtain⟨b,h1,h2⟩:=Gf.1 hi;obtain⟨c,h3,h4⟩:=Gf.1 hj;have:=(h c j h3).2.2 b i h1;simp_all
  .obtain⟨b,h1,h2⟩:=Gf.1 hi;grind [Nat.beq_refl,Nat.blt_eq]
 have bm:=λi j=>Ahg (inf:=inf) (R:=rgo l []) (n:=l.length) (i:=i) (j:=j);split at hp
 .exact go none (by grind) (by grind [Ac8])
 .rename_i q hq;have:=AjH (inf:=inf) (R:=rgo l []) (n:=l.length) (q:=q) (by simp[hq]);simp only[bA,Bool.not_eq_true',List.isEmpty_iff] at hp;exact go (some q) (by grind) (by grind [Ac8])
 .cases hp
variable {sts:Nat->St} {gs:Nat->G} {sp:Option (Nat×Nat)}
theorem DZ.ngl(F:DZ P l inf st sts gs sp):∀i,i<=l.length->(sts i).n=st.n/\(sts i).gl=st.gl/\(sts i).pr=st.pr
 |0,_=>by grind [zero]
 |i+1,hi=>by have:=F.ngl i aa;have:=(F.step i _ (EA aa)).like;grind
theorem DZ.fr1(F:DZ P l inf st sts gs sp){j:Nat}{t:Tmp}(hd:bX l j=some t):∀i,j<i->i<=l.length->aD (sts i).fr t=gs j
 |0,h,_=>aa
 |i+1,h,hi=>by
  have ho:l[i]?=some (l[i]'aa):=by grind
  have:=(F.step i _ ho).like;have:=F.uniq j i t hd;have:=F.fr1 hd i;grind [bX]
theorem DZ.fr2(F:DZ P l inf st sts gs sp){t:Tmp}:∀i,i<=l.length->(∀j,j<i->bX l j≠some t)->aD (sts i).fr t=aD st.fr t
 |0,_,_=>by rw[F.zero]
 |i+1,hi,h=>by
  have ho:l[i]?=some (l[i]'aa):=by grind
  have:=(F.step i _ ho).like;have:=h i aa;simp only[bX,ho,aL] at this;rw[(F.step i _ ho).like.2.2.1,BX this];exact F.fr2 i aa (by grind)
theorem DZ.stc(F:DZ P l inf st sts gs sp){a:Nat}:∀b,a<=b->b<=l.length->(∀k,a<=k->k<b->(bP inf k).cu=false)->(sts b).c=(sts a).c
 |0,h,_,_=>by grind
 |b+1,h,hl,hb=>by
  by_cases e:a=b+1
  .subst e;rfl
  .have:=(F.step b _ (EA aa)).like;have:=F.stc (a:=a) b;grind
theorem DZ.sto(F:DZ P l inf st sts gs sp){a x:Nat}:∀b,a<=b->b<=l.length->(∀k,a<=k->k<b->x∉(bP inf k).K)->ag (sts b).σ x=ag (sts a).σ x
 |0,h,_,_=>by grind
 |b+1,h,hl,hb=>by
  by_cases e:a=b+1
  .subst e;rfl
  .have:=(F.step b _ (EA aa)).like;have:=F.sto (a:=a) (x:=x) b;grind
structure Ke (P:Bu) (l:HE) (inf:List DI) (st:St) (sts:Nat->St) (gs:Nat->G) (cx:Cx) (L:Array Bool) (a:Act) (w:World) (st':St):Prop where
 size:L.size=l.length
 closed:∀j o,l[j]?=some o->L.getD j false=true->∀e∈o.after.toList,UA e=true->L.getD e.on false=true
 rel:mh P cx st' a w
 n:st'.n=st.n
 gl:st'.gl=st.gl
 σ:∀x m,m<=l.length->(∀i,i<l.length->x∈(bP inf i).K->(L.getD i false=true↔i<m))->ag st'.σ x=ag (sts m).σ x
 c:∀m,m<=l.length->(∀i,i<l.length->(bP inf i).cu=true->(L.getD i false=true↔i<m))->st'.c=(sts m).c
 p:st'.pr=st.pr
 f1:∀j t,L.getD j false=true->bX l j=some t->aD st'.fr t=gs j
 f2:∀t,(∀j,L.getD j false=true->bX l j≠some t)->aD st'.fr t=aD st.fr t
section
variable {L:Array Bool} {a a':Act} {w w':World} {st':St} {j:Nat} {o:Oper}
theorem Ke.done(I:Ke P l inf st sts gs cx L a w st'){i k:Nat}(hk:L.getD k false=true)(h:rch (rgo l []) i k=true):L.getD i false=true:=Ab9 (D:=λk=>L.getD k false=true) I.closed l [] [] rfl rfl aC k i hk h
structure Now (l:HE) (L:Array Bool) (j:Nat) (o:Oper):Prop where
 ho:l[j]?=some o
 hr:∀e∈o.after.toList,UA e=true->L.getD e.on false=true
 hL:L.getD j false=false
theorem Ke.ready(I:Ke P l inf st sts gs cx L a w st')(N:Now l L j o){i:Nat}(hne:i≠j)(h:rch (rgo l []) i j=true):L.getD i false=true:=by have:=Ab9 (D:=λk=>L.getD k false=true\/k=j) (l:=l) (by grind [Now,closed]) l [] [] rfl rfl aC j i (.inr rfl) h;grind
theorem Ke.same(F:DZ P l inf st sts gs sp)(I:Ke P l inf st sts gs cx L a w st')(N:Now l L j o){t:Tmp}(ht:t∈mO l o):aD st'.fr t=aD (sts j).fr t:=by
 have hjl:=(cr N.ho).1;by_cases hx:∃i,bX l i=some t
 .obtain⟨i,hi⟩:=hx;have u:=λk h=>F.uniq k i t h hi;rcases F.look i j o t N.ho hi ht with⟨h1,h2⟩|⟨h1,h2⟩
  .obtain⟨e,he,h2⟩:=List.any_eq_true.1 h2;grind [Now,bc,f1,DZ.fr1]
  .have:=λk=>I.done (i:=j) (k:=k);have:=N.hL;rw[I.f2 t (by grind),F.fr2 j aa (by grind)]
 grind [Ke,DZ.fr2]
theorem ord{D:Fu}{rc fr:Nat->Fu}(hL:¬D j)(dn:∀i k,D k->rc i k->D i)(b:∀i,i≠j->rc i j->D i)(pr:∀i k,i<k->k<n->rc i k\/fr i k\/sp=some (i,k))(hj:j<n){i:Nat}(hi:i<n)(hne:i≠j):fr i j\/fr j i\/(D i↔i<j)\/sp=some (i,j)\/(sp=some (j,i)/\j<i/\D i):=by grind
theorem Ke.ord(F:DZ P l inf st sts gs sp)(I:Ke P l inf st sts gs cx L a w st')(N:Now l L j o){i:Nat}(hi:i<l.length)(hne:i≠j):Fre (bP inf i) (bP inf j)\/Fre (bP inf j) (bP inf i)\/(L.getD i false=true↔i<j)\/((bP inf i).U=[]/\(bP inf i).cu=false)\/(sp=some (j,i)/\j<i/\L.getD i false=true):=by grind [Now,done,ready,DZ.pair,DZ.spq]
theorem Ke.find(F:DZ P l inf st sts gs sp)(I:Ke P l inf st sts gs cx L a w st')(N:Now l L j o):∃V:aQ,(V=[]\/(bP inf j).ck V=true)/\(∀x∈(bP inf j).R,ag st'.σ x=ag (V++(sts j).σ) x)/\((bP inf j).cu=true->st'.c=(sts j).c):=by
 have hjl:=(cr N.ho).1;have hL:=N.hL;have or:=λi=>I.ord F N (i:=i);have self:∀i,i=j->(L.getD i false=true↔i<j):=by grind
 have hc:(bP inf j).cu=true->st'.c=(sts j).c:=λhcu=>I.c j aa λi hi hci=>by
  by_cases e:i=j
  .exact self i e
  .rcases or i hi e with h|h|h|h|h
   .have:=h.2.2.2 hci;simp_all
   .have:=h.2.2.2 hcu;simp_all
   all_goals grind [DZ.spq]
 have pl:∀x∈(bP inf j).R,∀i,i<l.length->x∈(bP inf i).K->(L.getD i false=true↔i<j)\/(sp=some (j,i)/\j<i/\L.getD i false=true):=λx hx i hi hk=>by
  by_cases e:i=j
  .grind
  .rcases or i hi e with h|h|h|h|h
   .exact absurd hx (h.1 x hk)
   .exact absurd hx (h.2.1 x hk)
   all_goals grind [DI.K]
 by_cases hv:∃v,sp=some (j,v)/\v<l.length/\L.getD v false=true
 .obtain⟨v,hs,hvl,b⟩:=hv;refine⟨(bP inf v).U,.inr (F.spq _ _ hs).2.2.2,λx hx=>?_,hc⟩;have hst:=(F.step v _ (EA hvl)).like;have d:=(F.spq _ _ hs).1;by_cases hxv:x∈(bP inf v).K
  .rw[fY hxv,<-hst.2.2.2.2.2 x hxv];refine I.σ x (v+1) aa λi hi hk=>?_;by_cases e:i=v
   .grind
   rcases pl x hx i hi hk with h|⟨h,_⟩
   .rcases Nat.lt_or_gt_of_ne e with h2|h2
    .have:L.getD i false=true:=by
      rcases F.pair i v h2 hvl with h3|h3|h3
      .grind [done]
      .exact absurd hxv (h3.2.2.1 x hk)
      grind [DI.K,DZ.spq]
     grind
    grind
   grind
  .rw[fE hxv];grind [Ke]
 .exact⟨[],.inl rfl,(by grind [Ke]),hc⟩
theorem Ke.next(F:DZ P l inf st sts gs sp)(I:Ke P l inf st sts gs cx L a w st')(N:Now l L j o){σ:aQ}{c:Nat}(f:mh P cx ({st' with σ:=σ,c:=c}.put o.dst (gs j)) a' w')(B:∀x,x∉(bP inf j).K->ag σ x=ag st'.σ x)(q:∀x,x∈(bP inf j).K->ag σ x=ag (sts (j+1)).σ x)(s:(bP inf j).cu=false->c=st'.c)(hc2:(bP inf j).cu=true->c=(sts (j+1)).c):∃r,Ke P l inf st sts gs cx (L.setIfInBounds j true) a' w' r:=by
 obtain⟨ho,hr,hL⟩:=N;have hjl:=(cr ho).1;have set:∀i,(L.setIfInBounds j true).getD i false=if i=j then true else L.getD i false:=λi=>by have:=I.size;simp only[Array.getD_eq_getD_getElem?,Array.getElem?_setIfInBounds];grind
 obtain⟨u,v,y,C,z,A⟩:=Ab8 (o:=o) (g:=gs j) {st' with σ:=σ,c:=c};have late:∀k,j<k->k<l.length->L.getD k false=true->Fre (bP inf j) (bP inf k)\/sp=some (j,k):=by grind [DZ.pair,done]
 have sp1:=λk h=>(F.spq j k h).2;refine⟨_,{size:=by simp[I.size],closed:=λk ok hk d e he hb=>?_,rel:=f,n:=u.trans I.n,gl:=v.trans I.gl,σ:=λx m hm b=>?_,c:=λm hm b=>?_,p:=y.trans I.p,f1:=λk t hk hd=>?_,f2:=λt ht=>?_}⟩
 .grind [closed]
 .rw[z];by_cases hx:x∈(bP inf j).K
  .rw[q x hx];have hjm:j<m:=by grind
   refine(F.sto (a:=j+1) m hjm hm λk hk1 hk2 hkx=>?_).symm;have d:=(b k aa hkx).2 hk2;rw[set,BX aa] at d;rcases late k aa aa d with h|h
   .exact h.2.2.1 x hx hkx
   grind [DI.K]
  grind [σ]
 .rw[A];cases hcu:(bP inf j).cu with
  |true=>
   rw[hc2 hcu];have hjm:j<m:=by grind
   refine(F.stc (a:=j+1) m hjm hm λk hk1 hk2=>?_).symm;cases hkc:(bP inf k).cu with
   |false=>rfl
   |true=>
    have d:=(b k aa hkc).2 hk2;rw[set,BX aa] at d;rcases late k aa aa d with h|h
    .have:=h.2.2.2 hcu;simp_all
    grind
  |false=>grind [c]
 .grind [Ke,bX,DZ.uniq]
 grind [bX,f2]
end
theorem BV(hg:st'.gl=s.gl)(h:∀t,x= .tmp t->aD st'.fr t=aD s.fr t):aB st' x=aB s x:=by cases x<;>grind [aB]
theorem aac:∀(l:List Bool) (i:Nat),l[i]?=some false->(l.set i true).count false+1=l.count false
 |[],i,h=>by simp at h
 |b::r,0,h=>by grind
 |b::r,i+1,h=>by grind
theorem Ke.run(F:DZ P l inf st sts gs sp)(k:∀a w,mh P cx (sts l.length) a w->Q .normal a w):∀(fuel:Nat) (L:Array Bool) (a:Act) (w:World) (st':St),L.toList.count false<=fuel->Ke P l inf st sts gs cx L a w st'->wpAnyIn cx.F cx.nn P .any l.toArray Q fuel L a w:=by
 have rdy:∀{L:Array Bool} {a w st'} (I:Ke P l inf st sts gs cx L a w st') {j},j∈Region.ready .any l.toArray L↔∃o,Now l L j o:=λ{L a w st'} I {j}=>by
  rw[mem_ready];have:=I.size;constructor
  .rintro⟨h1,o,ho,hr⟩;have ho:l[j]?=some o:=by grind
   have:=(cr ho).1;exact⟨o,ho,λe he hb=>hr e (by grind) hb,by grind⟩
  .rintro⟨o,ho,hr,hL⟩;have:=(cr ho).1;exact⟨by grind,o,by grind,λe he hb=>hr e (by grind) hb⟩
 have done:∀(L:Array Bool) (a:Act) (w:World) (st':St),Ke P l inf st sts gs cx L a w st'->Region.ready .any l.toArray L=[]->Q .normal a w:=by
  intro L a w st' I hr;have hall:∀j,j<l.length->L.getD j false=true:=by
   intro j;induction j using Nat.strongRecOn with
   |_ j ih=>
    intro hj;cases h:L.getD j false with
    |true=>rfl
    |false=>have:j∈Region.ready .any l.toArray L:=(rdy I).2 ⟨_,EA hj,(by grind [Ke,DZ.edges]),h⟩;grind
  obtain⟨hn,hg,hp⟩:=F.ngl l.length (Dk _);have hpp:(sts l.length).pr=st'.pr:=hp.trans I.p.symm;simp only[St.pr,Ft] at hpp;refine k a w (Yi.rel ⟨hn.trans I.n.symm,hg.trans I.gl.symm,λt=>?_,(by grind [Ke]),(by grind [Ke]),hpp.1,hpp.2⟩ I.rel);by_cases hx:∃i,bX l i=some t
  .obtain⟨i,hi⟩:=hx;have hil:i<l.length:=by obtain⟨o,ho,_⟩:=Gf.1 hi;grind
   grind [DZ.fr1,f1]
  .rw[F.fr2 l.length (Dk _) (by grind),I.f2 t (by grind)]
 intro fuel;induction fuel with
 |zero=>
  intro L a w st' hc I;have h0:Region.ready .any l.toArray L=[]:=List.eq_nil_iff_forall_not_mem.2 λj hj=>by obtain⟨o,ho,_,hL⟩:=(rdy I).1 hj;have:=(cr ho).1;have:=I.size;have h0:L.toList.count false=0:=aa;rw[List.count_eq_zero] at h0;exact h0 (by rw[<-hL];simp[Array.getD,show j<L.size by omega])
  exact⟨h0,(by grind)⟩
 |succ fuel ih=>
  intro L a w st' hc I;refine⟨(by grind),λj hj=>?_⟩;obtain⟨o,N⟩:=(rdy I).1 hj;have ho:=N.ho;have hjl:=(cr ho).1;have hcnt:(L.setIfInBounds j true).toList.count false<=fuel:=by
   have hs:j<L.size:=by grind [size]
   have:=aac L.toList j (by rw[Array.getElem?_toList,Array.getElem?_eq_getElem hs];simpa[Array.getD,hs] using N.hL);grind
  obtain⟨hn,hg,hp⟩:=F.ngl j aa;have hlook:=λt (ht:t∈mO l o)=>I.same F N ht;have hgev:∀x∈o.op.operands,aB st' x=aB (sts j) x:=λx hx=>BV (I.gl.trans hg.symm) (λt e=>hlook t (by subst e;exact List.mem_append_left _ (List.mem_filterMap.2 ⟨.tmp t,by grind,rfl⟩)))
  have hgw:ce st' l.toArray o=ce (sts j) l.toArray o:=by grind [ce,mO]
  obtain⟨β,rb⟩:=I.rel;unfold wpOpIn;simp only[List.getElem?_toArray,ho];rcases F.step j o ho with⟨hw,c,hst,m,hB⟩|⟨hw,hge,hst,hU,hcu⟩
  .rw[<-hgw] at hw;rw[BB (cT rb hw)];obtain⟨V,hV,s1,s2⟩:=I.find F N;refine hB V hV st' (I.n.trans hn.symm) (I.gl.trans hg.symm) (I.p.trans hp.symm) s2 s1 hgev cx a w _ Q ⟨β,rb⟩ λa' w' r'=>?_;have hput:=Ab8 (o:=o) (g:=gs j) {sts j with σ:=(bP inf j).U++(sts j).σ,c:=c};obtain⟨b,q⟩:=I.next F N r' (λx hx=>fE hx) (λx hx=>by rw[hst,hput.2.2.2.2.1,fY hx];exact(fY hx).symm) (by grind) (by grind);grind
  .rw[<-hgw] at hw;rw[BX (by grind [cT])];refine⟨λf _=>rb.loose.fn f,?_⟩;have hd:∀d,o.dst=some d->d<st'.n:=by grind [Ke,DZ.dstn]
   obtain⟨b,q⟩:=I.next (a':=a.put o.dst undef) (w':=w) (σ:=st'.σ) (c:=st'.c) F N ⟨β,by rw[hge];exact rb.put o.dst hd (.imm _ _ (.lit _))⟩ (by grind) (by grind [DI.K]) (λ_=>rfl) (by grind);grind
theorem pX{id:Nat}{Q:Exit->St->Prop}(hm:P.follows .mixedOrders=true)(hok:kL l inf st.n=true)(h:PQ P l.toArray (Q .normal) l inf st):Tr P (.region id l.toArray true) st Q:=λcx a w R ⟨β,r⟩ k=>by
 obtain⟨sts,gs,h0,b,hs⟩:=yM l inf st h;obtain⟨sp,F⟩:=Dm hok h0 hs;refine wpIn_region_any hm ?_;have hno:∀i,(Array.replicate l.toArray.size false).getD i false=false:=λi=>by simp[Array.getD]
 have I:Ke P l inf st sts gs cx (Array.replicate l.toArray.size false) a {w with drawn:=w.drawn+1} st:={
  size:=aC
  closed:=λj o _ hj=>by rw[hno] at hj;cases hj
  rel:=⟨β,r.world ⟨rfl,rfl,rfl,Dk _,λ_ _ _=>rfl,Nat.le_succ _⟩⟩
  n:=rfl
  gl:=rfl
  σ:=λx m hm hc=>by rw[<-h0];refine(F.sto (a:=0) m (Nat.zero_le _) hm λk _ hk hx=>?_).symm;have:=(hc k aa hx).2 hk;rw[hno] at this;cases this
  c:=λm hm hc=>by rw[<-h0];refine(F.stc (a:=0) m (Nat.zero_le _) hm λk _ hk=>?_).symm;have:=hc k aa;grind
  p:=rfl
  f1:=λj t hj=>by rw[hno] at hj;cases hj
  f2:=λ_ _=>rfl}
 grind [Ke.run]
end draw
def FO(P:Bu)(t:Bj)(a:List (Nat×G)):Option G:=
 match ND P t,jj P t with
 |some (n,e),some zs=>match bw P e with
  |some s=>(R2 (λi=>some (i*s,s)) (zs.map .lit) a).map .agg
  |none=>none
 |_,_=>none
theorem NO(ho:o.op= .build t parts)(hd:LV o st.n)(hg:FO P t (parts.toList.map λp=>(p.1,aB st p.2))=some g):GS P o st (st.put o.dst g):=by
 intro cx a w K R ⟨β,h⟩ j;unfold FO at hg;split at hg
 .rename_i n e zs hp hz;obtain⟨i,z,hi,hz',c,h1⟩:=ii hz;have hu:=xM hp;split at hg
  .rename_i s hs;simp only[bw,DQ] at hs;obtain⟨k,d,rfl⟩:=hs;simp only[DQ] at hg;obtain⟨out,b,rfl⟩:=hg;obtain⟨us,f,hr⟩:=sE (β:=β) (S:=Av cx.S0 β st.σ) (w:=w) (e:=a.eval) (λx=>h.ev x) parts.toList (Rw.lits h1) b;have hb:P.built t ((parts.map λ(p:Nat×DC)=>(p.1,a.eval p.2)).toList)=some us.toArray:=by unfold Program.built;simp only[hi,hu,hz',d];rw[<-f,<-c];simp
   have hrun:(execOp a.eval o).run P w= .ok (.value (.agg us.toArray)) w:=by unfold execOp;simp[ho,Go.run_build w t _ _ hb]
   refine h.loose.oper (by grind) ?_;unfold Oper.wp;rw[hrun];refine j _ _ ⟨β,h.put o.dst hd (.agg _ _ (by simpa using hr.1) (λi u hu=>?_) (λi g u hg hu=>hr.2.2 i g u hg (by grind)))⟩;exact hr.2.1 u (by grind)
  .cases hg
 .cases hg
theorem Km{e:Bj}{s:Nat}(ht:P.underlying t=some (.slice e))(hs:bw P e=some s)(a:Option Addr)(n cap:Nat)(k1 k2 k3:IntKind)(L H M:Nat)(h1:L<=H)(h2:H<=M)(h3:M<=cap)(w:World):
  (Instr.sliceAt t (.slice a n cap) (some (.int k1 L)) (some (.int k2 H)) (some (.int k3 M))).run P w= .ok (.slice (if M=L then a else a.map (·.add (L*s))) (H-L) (M-L)) w:=by
 have e1:(Instr.sliceBounds true n cap (some (.int k1 L)) (some (.int k2 H)) (some (.int k3 M))).run P w= .ok (L,H,M) w:=by unfold Instr.sliceBounds;simp[jp (P:=P) (.int k3 (M:Int)) (M:Int) cap .slice3Acap ⟨k3,rfl⟩ aa aa,jp (P:=P) (.int k2 (H:Int)) (H:Int) M .slice3B ⟨k2,rfl⟩ aa aa,jp (P:=P) (.int k1 (L:Int)) (L:Int) H .slice3C ⟨k1,rfl⟩ aa aa]
 unfold Instr.sliceAt
 simp only[E0,Gc ht,E1]
 unfold Instr.slice
 simp only[E0,Gc ht,E1,e1,dG hs]
 rfl
def sJ(P:Bu)(t:Bj)(x lo hi mx:G):Option G:=match x,dp P t,UM lo,UM hi,UM mx with
 | .sl l n,some e,some a,some h,some m=>match bw P e with
  |some s=>if 0<=a/\a<=h/\h<=m/\m<=n then some (.sl ((l.take (h.toNat*s)).drop (a.toNat*s)) (h.toNat-a.toNat))else none
  |none=>none
 | .rsl _ _ n,some e,some a,some h,some m=>match bw P e with
  |some s=>if 0<=a/\a<=h/\h<=m/\m<=n then some .junk else none
  |none=>none
 |_,_,_,_,_=>none
theorem En{lo hi mx:DC}(ho:o.op= .slice t x (some lo) (some hi) (some mx))(hd:LV o st.n)(hg:sJ P t (aB st x) (aB st lo) (aB st hi) (aB st mx)=some g):GS P o st (st.put o.dst g):=by
 intro cx a w K R ⟨β,h⟩ d;unfold sJ at hg;split at hg
 .rename_i l n e A H M hx he hA hH hM;split at hg
  .rename_i s hs;split at hg
   .rename_i hc;cases hg;have ht:=cE he;have hxv:=h.ev x;rw[hx] at hxv;obtain⟨ad,cap,us,hv,hn,hm,ha,h1,b⟩:=hxv.sl_cells;obtain⟨k1,hk1⟩:=ol (h.ev lo) hA;obtain⟨k2,hk2⟩:=ol (h.ev hi) hH;obtain⟨k3,c⟩:=ol (h.ev mx) hM;have hrun0:=Km ht hs ad n cap k1 k2 k3 A.toNat H.toNat M.toNat aa aa aa w;have c1:(A.toNat:Int)=A:=aa;have c2:(H.toNat:Int)=H:=aa;have c3:(M.toNat:Int)=M:=aa;rw[c1,c2,c3] at hrun0;have hrun:(execOp a.eval o).run P w= .ok (.value (.slice (if M.toNat=A.toNat then ad else ad.map (·.add (A.toNat*s))) (H.toNat-A.toNat) (M.toNat-A.toNat))) w:=by unfold execOp;simp_all
    refine h.loose.oper (by grind) ?_;unfold Oper.wp;rw[hrun];refine d _ _ ⟨β,h.put o.dst hd (.imm _ _ (PZ (n:=n) aa aa aa ha h1 b (by grind) (λe=>?_)))⟩;all_goals grind
   .cases hg
  .cases hg
 .rename_i i f n e A H M hx he hA hH hM;split at hg
  .rename_i s hs;split at hg
   .rename_i hc;cases hg;have ht:=cE he;have hxv:=h.ev x;rw[hx] at hxv;obtain⟨k1,hk1⟩:=ol (h.ev lo) hA;obtain⟨k2,hk2⟩:=ol (h.ev hi) hH;obtain⟨k3,c⟩:=ol (h.ev mx) hM;have c1:(A.toNat:Int)=A:=aa;have c2:(H.toNat:Int)=H:=aa;have c3:(M.toNat:Int)=M:=aa;obtain⟨ad,cap,hv,hn⟩:∃ad cap,a.eval x= .slice ad n cap/\n<=cap:=by grind [RV.rsl_form]
    have hrun0:=Km ht hs ad n cap k1 k2 k3 A.toNat H.toNat M.toNat aa aa aa w;rw[c1,c2,c3] at hrun0;have hrun:(execOp a.eval o).run P w= .ok (.value (.slice (if M.toNat=A.toNat then ad else ad.map (·.add (A.toNat*s))) (H.toNat-A.toNat) (M.toNat-A.toNat))) w:=by unfold execOp;simp_all
    refine h.loose.oper (by grind) ?_;unfold Oper.wp;rw[hrun];exact d _ _ ⟨β,h.put o.dst hd (.junk _)⟩
   .cases hg
  .cases hg
 .cases hg
def rF(P:Bu)(σ:aQ)(t:Bj)(g:G):Option (Nat×Ob):=match g with
 | .rsl i o n=>match ag σ i,dp P t with
  |some ob,some e=>match jj P e,bw P e with
   |some zs,some s=>if zs.length=s/\0<n/\0<s/\o+n*s<=ob.l.length/\ob.x.isNone=true then some (i,⟨ob.t,ob.l.take o++(bN zs (n*s)).map .lit++ob.l.drop (o+n*s),none⟩)else none
   |_,_=>none
  |_,_=>none
 |_=>none
theorem AbW{m:Nat}(hz:∀v∈zs,v.oneCell'=true)(hl:0<zs.length):∀v∈bN zs m,v.oneCell'=true:=by grind [bN,Nat.mod_lt]
theorem FP{z:Value}(a:z.cells.toList=zs)(hl:0<zs.length)(n:Nat):(Builtin.zeroCells z.cells n).toList=bN zs (n*zs.length):=by
 have hsz:z.cells.size=zs.length:=by grind
 unfold Builtin.zeroCells bN;rw[hsz];apply List.ext_getElem aC;grind [Nat.mod_lt]
theorem Qp{ob:Ob}(ho:o.op= .call {callee:= .builtin .clear,args:= #[x],argTypes:= #[t]})(hd:LV o st.n)(hg:rF P st.σ t (aB st x)=some (i,ob)):GS P o st ({st with σ:=(i,some ob)::st.σ}.put o.dst (.tup [])):=by
 intro cx a w K R ⟨β,h⟩ r;unfold rF at hg;split at hg
 .rename_i H k n hx;split at hg
  .rename_i c e hob he;split at hg
   .rename_i zs s hz hs;split at hg
    .rename_i hc;cases hg;have ht:=cE he;obtain⟨I,z,hi,hz',f,h1⟩:=ii hz;obtain⟨p,hn0,v,hle,d⟩:=hc;have d:=Option.isNone_iff_eq_none.1 d;have hxv:=h.ev x;rw[hx] at hxv;rcases hxv.rsl_form with⟨_,_,h0⟩|⟨b,C,J,cap,hb,hv,hn,hm,q,B⟩
     .omega
     rw[q aa] at hv;rcases h.ob i c hob with⟨h1',_⟩|⟨b',L,A,hx',_⟩|⟨b',C',cur,_,g1,g2,D,y,E,F⟩
     .grind
     .grind
     rw[g1] at hb;cases hb;have hzc:=FP f aa n;rw[p] at hzc;have hgl:(bN zs (n*s)).length=n*s:=by simp[bN]
     have hone:=AbW (m:=n*s) h1 aa;have hst:=run_storeCells_at (P:=P) b k c.t (bN zs (n*s)) 0 cur w g2 (by rw[hgl];omega) hone;simp only[Nat.add_zero,hgl] at hst;obtain⟨m,rfl⟩:∃m,n=m+1:=by simp_all
     have hzv:(zeroValue e).run P w= .ok z w:=by simp[zeroValue,typeInfo,hi,hz']
     have hrun:(execOp a.eval o).run P w= .ok (.value (.tuple #[])) (w.setRow b (cur.toList.take k++bN zs ((m+1)*s)++cur.toList.drop (k+(m+1)*s)).toArray):=by unfold execOp;simp only[ho,resolve,invoke,builtin,E0,HA,E1,List.map_toArray,Fi,List.map_nil,Builtin.clear_,hv];simp only[List.getElem?_toArray,List.getElem?_cons_zero,E0,Gc ht,E1,hzv,hzc,hst,HA]
     have hsz:(cur.toList.take k++bN zs ((m+1)*s)++cur.toList.drop (k+(m+1)*s)).toArray.size=cur.size:=by grind
     have hh:=setRow_heap w b cur (cur.toList.take k++bN zs ((m+1)*s)++cur.toList.drop (k+(m+1)*s)).toArray c.t (0,0) g2;have hkeep:A3 (λx=>x=b) w (w.setRow b (cur.toList.take k++bN zs ((m+1)*s)++cur.toList.drop (k+(m+1)*s)).toArray):=⟨rfl,rfl,rfl,aC,(by grind [setRow_other]),Dk _⟩;have hlen:((bN zs ((m+1)*s)).map G.lit).length=(m+1)*s:=by simp[hgl]
     have hw:=h.write (l:=c.l.take k++(bN zs ((m+1)*s)).map .lit++c.l.drop (k+(m+1)*s)) hob g1 hkeep hh (by grind) y (by grind) (λj g hg=>by
      have hg':(c.l.take k++(bN zs ((m+1)*s)).map .lit++c.l.drop (k+((bN zs ((m+1)*s)).map G.lit).length))[j]?=some g:=by grind
      obtain⟨u,hu,h7,h8⟩:=pw (R:=λg u=>u.oneCell'=true/\RV β (Av cx.S0 β st.σ) w g u) (xs:=cur.toList) (xs':=bN zs ((m+1)*s)) (by grind) (λj g hg=>by rw[Mu,DQ] at hg;obtain⟨u,hu,rfl⟩:=hg;exact⟨u,hu,(by grind),.imm _ _ (.lit u)⟩) aC (by grind) (by rw[hlen];omega) j g hg'
      grind)
     refine h.loose.oper (by grind) ?_;unfold Oper.wp;rw[hrun];exact r _ _ ⟨β,(by grind [Bx.put,RV])⟩
    .cases hg
   .cases hg
  .cases hg
 .cases hg
def Qq(P:Bu)(σ:aQ)(t:Bj)(gx gy:G):Option (Nat×Ob×Nat):=match gx with
 | .rsl i o n=>match ag σ i,dp P t with
  |some ob,some e=>match bw P e with
   |some s=>match fO σ s gy with
    |some (news,m)=>if m=n/\0<n/\0<s/\o+n*s<=ob.l.length/\ob.x.isNone=true then some (i,⟨ob.t,ob.l.take o++news++ob.l.drop (o+n*s),none⟩,n)else none
    |none=>none
   |none=>none
  |_,_=>none
 |_=>none
theorem Tc{ob:Ob}(ho:o.op= .call {callee:= .builtin .copy,args:= #[x,y],argTypes:= #[t,u]})(hd:LV o st.n)(hg:Qq P st.σ t (aB st x) (aB st y)=some (i,ob,n)):GS P o st ({st with σ:=(i,some ob)::st.σ}.put o.dst (.lit (.int .i64 (n:Int)))):=by
 intro cx a w K R ⟨β,h⟩ H;unfold Qq at hg;split at hg
 .rename_i Q k S hx;split at hg
  .rename_i d e hob he;split at hg
   .rename_i s hs;split at hg
    .rename_i f m p;split at hg
     .rename_i hc;cases hg;have ht:=cE he;obtain⟨hmn,hn0,D,hle,z⟩:=hc;subst hmn;have z:=Option.isNone_iff_eq_none.1 z;have hxv:=h.ev x;rw[hx] at hxv;rcases hxv.rsl_form with⟨_,_,h0⟩|⟨b,C,U,cap,hb,hv,hn,hm,E,L⟩
      .omega
      rw[E aa] at hv;obtain⟨A,V,c,F,hnl,hrw,r⟩:=xN h (h.ev y) p;have hpos:0<m*s:=Nat.mul_pos hn0 D;obtain⟨a0,rfl⟩:∃a0,A=some a0:=by obtain⟨a0,h1,_⟩:=r 0 _ (EA aa);grind
      have hsrc:∀j v,c[j]?=some v->w.cell? (a0.add j)=some v:=by grind
      rcases h.ob i d hob with⟨h1',_⟩|⟨b',W,J,hx',_⟩|⟨b',C',cur,_,g1,g2,M,I,N,O⟩
      .grind
      .grind
      rw[g1] at hb;cases hb;have hnewsl:f.length=m*s:=by rw[<-hrw.1,hnl]
      have B:=run_loadCells_list (P:=P) w a0 c hsrc;have hst:=run_storeCells_at (P:=P) b k d.t c 0 cur w g2 (by rw[hnl];omega) hrw.2.1;rw[hnl] at B;simp only[Nat.add_zero,hnl] at hst;have hsz1:(sizeOf e).run P w= .ok s w:=by
       unfold bw at hs;cases hq:P.info? e with
       |none=>grind
       |some q=>rw[hq] at hs;simp only[Option.map_some,Fe] at hs;simp[sizeOf,typeInfo,hq,hs]
      have hmin:Nat.min m m=m:=Nat.min_self m;have hrun:(execOp a.eval o).run P w= .ok (.value (goInt m)) (w.setRow b (cur.toList.take k++c++cur.toList.drop (k+m*s)).toArray):=by unfold execOp;simp only[ho,resolve,invoke,builtin,E0,HA,E1,List.map_toArray,Fi,List.map_nil,Builtin.copy_,hv,F];simp[Gc ht,Builtin.lenOf,Builtin.firstCells,hsz1,B,hst]
      have hsz:(cur.toList.take k++c++cur.toList.drop (k+m*s)).toArray.size=cur.size:=by grind
      have hh:=setRow_heap w b cur (cur.toList.take k++c++cur.toList.drop (k+m*s)).toArray d.t (0,0) g2;have hkeep:A3 (λx=>x=b) w (w.setRow b (cur.toList.take k++c++cur.toList.drop (k+m*s)).toArray):=⟨rfl,rfl,rfl,aC,(by grind [setRow_other]),Dk _⟩;have hw:=h.write (l:=d.l.take k++f++d.l.drop (k+m*s)) hob g1 hkeep hh (by grind) I (by grind) (λj g hg=>by
       have hg':(d.l.take k++f++d.l.drop (k+f.length))[j]?=some g:=by grind
       obtain⟨u,hu,h7,h8⟩:=pw (R:=λg u=>u.oneCell'=true/\RV β (Av cx.S0 β st.σ) w g u) (xs:=cur.toList) (xs':=c) (by grind) (λj g hg=>by have hlt:=(cr hg).1;have hx:c[j]?=some (c[j]'aa):=EA _;exact⟨_,hx,hrw.2.1 _ (by simp_all),hrw.2.2 j g _ hg hx⟩) aa (by grind) (by grind) j g hg'
       grind)
      refine h.loose.oper (by grind) ?_;unfold Oper.wp;rw[hrun];exact H _ _ ⟨β,hw.put o.dst hd (.imm _ _ (.lit _))⟩
     .cases hg
    .cases hg
   .cases hg
  .cases hg
 .cases hg
def JJ(P:Bu)(σ:aQ)(t:Bj)(x:G)(lo hi:JQ):Option G:=match dp P t,hi with
 |some e,some h=>match bw P e,lo with
  |some s,none=>match x with
   | .rsl i 0 n=>if 0<n/\0<=h/\h.toNat<=n/\0<s then some (.rsr i h.toNat)else none
   |_=>none
  |some s,some a=>match x with
   | .rsr i n=>match ag σ i with
    |some ob=>if 0<=a/\a<=h/\h.toNat*s<=ob.l.length/\0<s/\ob.t=e/\ob.x.isNone=true then some (.rsl i (a.toNat*s) (h.toNat-a.toNat))else none
    |none=>none
   |_=>none
  |_,_=>none
 |_,_=>none
theorem AaU{a:Act}(r:Bx P cx st a w β){x:G}{v:Value}{lo hi:JQ}{vl vh:Option Value}(hx:RV β (Av cx.S0 β st.σ) w x v)(bl:VF β (Av cx.S0 β st.σ) w lo vl)(f:VF β (Av cx.S0 β st.σ) w hi vh)(hg:JJ P st.σ t x lo hi=some g):
  ∃u,(Instr.sliceAt t v vl vh none).run P w= .ok u w/\RV β (Av cx.S0 β st.σ) w g u:=by
 unfold JJ at hg
 split at hg
 .rename_i e h he
  have ht:=cE he
  split at hg
  .rename_i s hs
   split at hg
   .rename_i i n
    split at hg
    .rename_i hc
     cases hg
     obtain⟨h0,h1,h2,c⟩:=hc
     rcases hx.rsl_form with⟨_,_,h3⟩|⟨b,C,q,cap,hb,rfl,hn,hm,ho,j⟩
     .omega
     obtain⟨rfl,rfl⟩:=j rfl
     refine⟨_,sD ht hs _ n cap vl vh 0 h.toNat (bl.lo 0 (λ_=>rfl) aC) (f.hi h.toNat n aC (by grind)) (Nat.zero_le _) aa w,?_⟩
     grind [iS,RV]
    .cases hg
   .cases hg
  .rename_i s A hs
   split at hg
   .rename_i i n
    split at hg
    .rename_i ob hob
     split at hg
     .rename_i hc
      cases hg
      obtain⟨h0,h1,h2,c,rfl,d⟩:=hc
      have d:=Option.isNone_iff_eq_none.1 d
      obtain⟨b,C,hb,rfl,hn,hm⟩:=hx.rsr_form
      rcases r.ob i ob hob with⟨h1',_⟩|⟨b',y,l,hx',_⟩|⟨b',C',cur,_,g1,g2,k,m,o,p⟩
      .grind
      .grind
      rw[g1] at hb;cases hb
      have hcs:cur.size=C*s:=by rw[k,Ng hs]
      have hHC:h.toNat<=C:=Nat.le_of_mul_le_mul_right (by omega:h.toNat*s<=C*s) c
      refine⟨_,sD ht hs _ n C vl vh A.toNat h.toNat (bl.lo A.toNat aC (by grind)) (f.hi h.toNat n aC (by grind)) aa hHC w,?_⟩
      by_cases hca:C=A.toNat
      .rw[BB hca]
       refine .rsl i _ _ b C 0 _ g1 aa aa (by grind) (λhz=>?_)
       grind [Nat.mul_pos]
      .rw[BX hca]
       simp only[Option.map_some,iS]
       grind [RV,Nat.mul_pos]
     .cases hg
    .cases hg
   .cases hg
  .cases hg
 .cases hg
theorem AdL{lo hi:Option DC}{b1 b2:JQ}(ho:o.op= .slice t x lo hi none)(hd:LV o st.n)(h1:JX (lo.map (aB st))=some b1)(h2:JX (hi.map (aB st))=some b2)(hg:JJ P st.σ t (aB st x) b1 b2=some g):GS P o st (st.put o.dst g):=by
 intro cx a w K R ⟨β,h⟩ b;obtain⟨u,hu,hr⟩:=AaU h (h.ev x) (N9 (v:=lo.map a.eval) (λg hg=>by
  obtain⟨y,hy,rfl⟩:=DQ.1 hg;exact⟨_,by rw[hy];rfl,h.ev y⟩) (λe=>by rw[Option.map_eq_none_iff.1 e];rfl) h1) (N9 (v:=hi.map a.eval) (λg hg=>by
  obtain⟨y,hy,rfl⟩:=DQ.1 hg;exact⟨_,by rw[hy];rfl,h.ev y⟩) (λe=>by rw[Option.map_eq_none_iff.1 e];rfl) h2) hg
 have hrun:(execOp a.eval o).run P w= .ok (.value u) w:=by unfold execOp;simp_all
 refine h.loose.oper (by grind) ?_;unfold Oper.wp;rw[hrun];exact b _ _ ⟨β,h.put o.dst hd hr⟩
def R7(P:Bu)(σ:aQ)(t:Bj)(gx gy:G):Option (Nat×Ob×Nat):=match gx with
 | .rsr i n=>match ag σ i,dp P t with
  |some ob,some e=>match bw P e with
   |some s=>match fO σ s gy with
    |some (news,m)=>if 0<s/\(n+m)*s<=ob.l.length/\ob.t=e/\ob.x.isNone=true then some (i,⟨ob.t,ob.l.take (n*s)++news++ob.l.drop (n*s+m*s),none⟩,n+m)else none
    |none=>none
   |none=>none
  |_,_=>none
 |_=>none
theorem Ag2{st:St}{ob:Ob}(ho:o.op= .call {callee:= .builtin .append,args:= #[x,y],argTypes:= #[t,t]})(hd:LV o st.n)(hg:R7 P st.σ t (aB st x) (aB st y)=some (i,ob,n)):GS P o st ({st with σ:=(i,some ob)::st.σ}.put o.dst (.rsr i n)):=by
 intro cx a w K R ⟨β,h⟩ H;unfold R7 at hg;split at hg
 .rename_i O k hx;split at hg
  .rename_i d e hob he;split at hg
   .rename_i s hs;split at hg
    .rename_i f m p;split at hg
     .rename_i hc;cases hg;have ht:=cE he;obtain⟨z,hle,rfl,B⟩:=hc;have B:=Option.isNone_iff_eq_none.1 B;have hxv:=h.ev x;rw[hx] at hxv;obtain⟨b,C,hb,hv,hn,hm⟩:=hxv.rsr_form;obtain⟨A,Q,c,D,hnl,hrw,r⟩:=xN h (h.ev y) p;rcases h.ob i d hob with⟨h1',_⟩|⟨b',U,N,hx',_⟩|⟨b',C',cur,_,g1,g2,I,J,L,M⟩
      .grind
      .grind
      rw[g1] at hb;cases hb;have hcs:cur.size=C*s:=by rw[I,Ng hs]
      have hroom:k+m<=C:=Nat.le_of_mul_le_mul_right (by omega:(k+m)*s<=C*s) z;have hmul:(k+m)*s=k*s+m*s:=Nat.add_mul _ _ _;have hnewsl:f.length=m*s:=by rw[<-hrw.1,hnl]
      obtain⟨q,hq,F⟩:∃q,P.info? d.t=some q/\q.size=s:=by unfold bw at hs;simp_all
      subst F;have hrun:∃w',(execOp a.eval o).run P w= .ok (.value (.slice (some ⟨b,0,none⟩) (k+m) C)) w'/\w'=(if m=0 then w else w.setRow b (cur.toList.take (k*q.size)++c++cur.toList.drop (k*q.size+m*q.size)).toArray):=by
       refine⟨_,?_,rfl⟩;rcases Nat.eq_zero_or_pos m with rfl|hm0
       .unfold execOp;simp only[ho,resolve,invoke,builtin,E0,HA,E1,List.map_toArray,Fi,List.map_nil,hv,D];cases A<;>simp[Builtin.append_,Gc ht,sizeOf,typeInfo,hq,Builtin.lenOf,Builtin.firstCells,loadCells,loadCellsFrom,storeCells,hn]
       .rw[BX aa];have hpos:0<m*q.size:=Nat.mul_pos hm0 z;obtain⟨a0,rfl⟩:∃a0,A=some a0:=by obtain⟨a0,h1,_⟩:=r 0 _ (EA aa);grind
        have hsrc:∀j v,c[j]?=some v->w.cell? (a0.add j)=some v:=by grind
        have E:=run_loadCells_list (P:=P) w a0 c hsrc;have hst:=run_storeCells_at (P:=P) b (k*q.size) d.t c 0 cur w g2 (by rw[hnl];omega) hrw.2.1;rw[hnl] at E;simp only[Nat.add_zero,hnl] at hst;unfold execOp;simp only[ho,resolve,invoke,builtin,E0,HA,E1,List.map_toArray,Fi,List.map_nil,hv,D];simp[Builtin.append_,Gc ht,sizeOf,typeInfo,hq,Builtin.lenOf,Builtin.firstCells,hroom,E,Addr.add_lit,hst]
      obtain⟨w',hrun,hw'⟩:=hrun;refine h.loose.oper (by grind) ?_;unfold Oper.wp;rw[hrun];have hval:∀(β':Bm) S w'',β' i=some (some (b,C))->RV β' S w'' (.rsr i (k+m)) (.slice (some ⟨b,0,none⟩) (k+m) C):=by grind [RV]
      rcases Nat.eq_zero_or_pos m with rfl|hm0
      .rw[BB rfl] at hw';subst hw';have e0:f=[]:=by grind
       have e1:d.l.take (k*q.size)++f++d.l.drop (k*q.size+0*q.size)=d.l:=by grind [Pw]
       have hw:=h.write (l:=d.l.take (k*q.size)++f++d.l.drop (k*q.size+0*q.size)) hob g1 (A3.refl _ _) g2 I J (by rw[e1];exact L) (λj g hg=>by rw[e1] at hg;exact M j g hg);exact H _ _ ⟨β,(by grind [Bx.put])⟩
      .rw[BX aa] at hw';subst hw';have hsz:(cur.toList.take (k*q.size)++c++cur.toList.drop (k*q.size+m*q.size)).toArray.size=cur.size:=by grind
       have hh:=setRow_heap w b cur (cur.toList.take (k*q.size)++c++cur.toList.drop (k*q.size+m*q.size)).toArray d.t (0,0) g2;have hkeep:A3 (λx=>x=b) w (w.setRow b (cur.toList.take (k*q.size)++c++cur.toList.drop (k*q.size+m*q.size)).toArray):=⟨rfl,rfl,rfl,aC,(by grind [setRow_other]),Dk _⟩;have hw:=h.write (l:=d.l.take (k*q.size)++f++d.l.drop (k*q.size+m*q.size)) hob g1 hkeep hh (by grind) J (by grind) (λj g hg=>by
        have hg':(d.l.take (k*q.size)++f++d.l.drop (k*q.size+f.length))[j]?=some g:=by grind
        obtain⟨u,hu,h7,h8⟩:=pw (R:=λg u=>u.oneCell'=true/\RV β (Av cx.S0 β st.σ) w g u) (xs:=cur.toList) (xs':=c) (by grind) (λj g hg=>by have hlt:=(cr hg).1;have hx:c[j]?=some (c[j]'aa):=EA _;exact⟨_,hx,hrw.2.1 _ (by simp_all),hrw.2.2 j g _ hg hx⟩) aa (by grind) (by grind) j g hg'
        simp_all)
       exact H _ _ ⟨β,(by grind [Bx.put])⟩
     .cases hg
    .cases hg
   .cases hg
  .cases hg
 .cases hg
def iEq:Int->Int->Bool
 | .ofNat a,.ofNat b=>Nat.beq a b
 | .negSucc a,.negSucc b=>Nat.beq a b
 |_,_=>false
theorem Py{a b:Int}(h:iEq a b=true):a=b:=by unfold iEq at h;split at h;all_goals grind [bc]
def fe{α:Type}(f:α->α->Bool):List α->List α->Bool
 |[],[]=>true
 |x::r,y::s=>bif f x y then fe f r s else false
 |_,_=>false
theorem bi{α:Type}{f:α->α->Bool}(hf:∀x y,f x y=true->x=y):∀{l m:List α},fe f l m=true->l=m
 |[],[],_=>rfl
 |x::r,y::s,h=>by
  unfold fe at h;cases hx:f x y with
  |false=>grind
  |true=>rw[hx] at h;rw[hf x y hx,bi hf h]
 |[],_::_,h=>by cases h
 |_::_,[],h=>by cases h
def bEq(a b:UInt8):Bool:=Nat.beq a.toNat b.toNat
theorem Pz{a b:UInt8}(h:bEq a b=true):a=b:=UInt8.toNat_inj.1 (bc h)
def X4(a b:Value):Bool:=match a with
 | .int k x=>(match b with
  | .int k' y=>decide (k=k')&&iEq x y
  |_=>false)
 | .bool x=>(match b with
  | .bool y=>x==y
  |_=>false)
 | .string s=>(match b with
  | .string t=>fe bEq s.data.toList t.data.toList
  |_=>false)
 | .slice none n m=>(match b with
  | .slice none n' m'=>Nat.beq n n'&&Nat.beq m m'
  |_=>false)
 |_=>false
theorem Bl{a b:Value}(h:X4 a b=true):a=b:=by
 unfold X4 at h;split at h
 .grind [Py]
 .grind
 .rename_i s;split at h
  .rename_i t;have:=bi (λ_ _=>Pz) h;obtain⟨⟨s⟩⟩:=s;simp_all
  .cases h
 all_goals grind [bc]
def dE(a b:Bool):Bool:=bif a then b else false
theorem aZ{a b:Bool}(h:dE a b=true):a=true/\b=true:=by
 cases a with
 |true=>exact⟨rfl,h⟩
 |false=>cases h
def SL(a b:Value):Bool:=match a with
 | .pointer none=>(match b with
  | .pointer none=>true
  |_=>false)
 | .map none=>(match b with
  | .map none=>true
  |_=>false)
 | .nilFunc=>(match b with
  | .nilFunc=>true
  |_=>false)
 | .nilIface=>(match b with
  | .nilIface=>true
  |_=>false)
 | .agg cs=>(match b with
  | .agg ds=>fe X4 cs.toList ds.toList
  |_=>false)
 |a=>X4 a b
theorem DX{a b:Value}(h:SL a b=true):a=b:=by unfold SL at h;grind [bi,Bl,Array.toList_inj]
def Vy(a b:Fn):Bool:=match a with
 | .func f=>(match b with
  | .func g=>Nat.beq f g
  |_=>false)
 |_=>false
theorem Nq{a b:Fn}(h:Vy a b=true):a=b:=by unfold Vy at h;grind [bc]
def iF:Nat->G->G->Bool
 |0,_,_=>false
 |k+1,a,b=>match a with
  | .lit v=>(match b with
   | .lit u=>SL v u
   |_=>false)
  | .agg l=>(match b with
   | .agg m=>fe (iF k) l m
   |_=>false)
  | .tup l=>(match b with
   | .tup m=>fe (iF k) l m
   |_=>false)
  | .sl l n=>(match b with
   | .sl m n'=>dE (Nat.beq n n') (fe (iF k) l m)
   |_=>false)
  | .ptr l n=>(match b with
   | .ptr m n'=>dE (Nat.beq n n') (fe (iF k) l m)
   |_=>false)
  | .clo f x y=>(match b with
   | .clo f' x' y'=>dE (Vy f f') (dE (fe (iF k) x x') (fe (iF k) y y'))
   |_=>false)
  | .ifc t g=>(match b with
   | .ifc t' g'=>dE (Nat.beq t t') (iF k g g')
   |_=>false)
  | .ref i o=>(match b with
   | .ref i' o'=>dE (Nat.beq i i') (Nat.beq o o')
   |_=>false)
  | .rsl i o n=>(match b with
   | .rsl i' o' n'=>dE (Nat.beq i i') (dE (Nat.beq o o') (Nat.beq n n'))
   |_=>false)
  | .mref i=>(match b with
   | .mref i'=>Nat.beq i i'
   |_=>false)
  | .yld i=>(match b with
   | .yld i'=>Nat.beq i i'
   |_=>false)
  | .junk=>(match b with
   | .junk=>true
   |_=>false)
  | .mp _ _ _ _=>false
  | .rsr _ _=>false
theorem GE:∀(k:Nat) (a b:G),iF k a b=true->a=b
 |0,a,b,h=>by cases h
 |k+1,a,b,h=>by
  unfold iF at h;split at h
  .grind [DX]
  .split at h
   .rw[bi (GE k) h]
   .cases h
  .split at h
   .rw[bi (GE k) h]
   .cases h
  .split at h
   .obtain⟨h1,h2⟩:=aZ h;rw[bc h1,bi (GE k) h2]
   .cases h
  .split at h
   .obtain⟨h1,h2⟩:=aZ h;rw[bc h1,bi (GE k) h2]
   .cases h
  .split at h
   .obtain⟨h1,h2⟩:=aZ h;obtain⟨h2,h3⟩:=aZ h2;rw[Nq h1,bi (GE k) h2,bi (GE k) h3]
   .cases h
  .split at h
   .obtain⟨h1,h2⟩:=aZ h;rw[bc h1,GE k _ _ h2]
   .cases h
  all_goals grind [aZ,bc]
theorem th.eqv{o:Oper}{st:St}{S T:St->Prop}(h:th P o st S)(e:∀s,S s->∃s',T s'/\Yi s s'):th P o st T:=λcx a w K R r k=>h cx a w K R r λs hs a' w' r'=>by obtain⟨s',h1,h2⟩:=e s hs;exact k s' h1 a' w' (h2.rel r')
theorem GS.eqv{o:Oper}{st s s':St}(h:GS P o st s)(e:Yi s s'):GS P o st s':=λcx a w K R r k=>h cx a w K R r (by grind [Yi.rel])
def jO:aQ->Nat->Option Ob->aQ
 |[],d,g=>[(d,g)]
 |(e,h)::r,d,g=>bif e.beq d then(d,g)::r else(e,h)::jO r d g
theorem aaa:∀(σ:aQ) (d:Nat) (g:Option Ob) (i:Nat),ag (jO σ d g) i=if d=i then g else ag σ i
 |[],d,g,i=>by show ag [(d,g)] i=_;rw[A9]
 |(e,h)::r,d,g,i=>by
  unfold jO;by_cases he:e=d
  .grind [Nat.beq_refl]
  .have:Nat.beq e d=false:=by grind [bc]
   rw[this];simp only[Bf,A9];rw[aaa r d g i];grind
def pj(n:Nat):Option Tmp->Bool
 |some d=>Nat.ble (d+1) n
 |none=>true
theorem SG{n:Nat}{d:Option Tmp}(h:pj n d=true):∀x,d=some x->x<n:=λx e=>by subst e;exact Ef h
def A5:Bk->Option CY
 |[]=>some []
 | .lit (.int .u8 n)::r=>if 0<=n/\n<256 then(A5 r).map λl=>UInt8.ofNat n.toNat::l else none
 |_=>none
theorem A6:∀{l:Bk} {s:CY},A5 l=some s->l=s.map gY
 |[],s,h=>by grind [A5]
 |g::r,s,h=>by
  unfold A5 at h;split at h
  .grind
  .rename_i n r' h0;cases h0;split at h
   .rename_i hc;simp only[DQ] at h;obtain⟨l,hl,rfl⟩:=h;rw[Fi,<-A6 hl];congr 2;have:(UInt8.ofNat n.toNat).toNat=n.toNat:=by simp;omega
    grind
   .cases h
  .cases h
def iQ(P:Bu)(σ:aQ)(s t:Bj)(g:G):Option G:=match g with
 | .lit (.int k n)=>Qa P s t (.lit (.int k n))
 | .lit (.string b)=>match dp P t with
  |some e=>match xR P e with
   |some .u8=>bif nu P s&&Nat.ble b.data.toList.length 9223372036854775807 then some (Kb b.data.toList)else none
   |_=>none
  |none=>none
 |g=>match dp P s with
  |some e=>match xR P e with
   |some .u8=>match fO σ 1 g with
    |some (l,m)=>match A5 l with
     |some bs=>bif nu P t&&Nat.beq bs.length m then some (.lit (.string ⟨bs.toArray⟩))else none
     |none=>none
    |none=>none
   |_=>none
  |none=>none
def Hc(P:Bu)(σ:aQ)(c:Nat)(t u:Bj)(gx gy:G):Option (Bj×Nat×Nat×Bk):=match gy with
 | .lit (.string b)=>match dp P t with
  |some e=>match bw P e,(P.info? e).bind (·.zero),(P.info? e).map (·.bytes) with
   |some 1,some (.int .u8 0),some 1=>match xO σ c e 1 gx with
    |some (i,n,l)=>bif nu P u&&Nat.ble (n+b.data.toList.length) 140737488355328 then some (e,i,n+b.data.toList.length,l++b.data.toList.map gY)else none
    |none=>none
   |_,_,_=>none
  |none=>none
 |_=>none
def nI(k:IntKind)(z:Int):Option G:=some (.lit (.int k z))
def nB(b:Bool):Option G:=some (.lit (.bool b))
theorem X0(k:IntKind)(z:Int):nI k z=some (.lit (.int k z)):=rfl
theorem X1(b:Bool):nB b=some (.lit (.bool b)):=rfl
def lD(op:BinOp)(gx gy:G):Option G:=match gx with
 | .lit (.int k a)=>match gy with
  | .lit (.int k' b)=>if k=k' then(match op with
   | .add=>nI k (k.wrap (a+b))
   | .sub=>nI k (k.wrap (a-b))
   | .mul=>nI k (k.wrap (a*b))
   | .lss=>nB (decide (a<b))
   | .leq=>nB (decide (a<=b))
   | .gtr=>nB (decide (b<a))
   | .geq=>nB (decide (b<=a))
   | .eql=>nB (decide (a=b))
   | .neq=>nB (decide (a≠b))
   | .quo=>if b=0 then none else nI k (k.wrap (a.tdiv b))
   | .rem=>if b=0 then none else nI k (a.tmod b)
   |_=>none)else none
  |_=>none
 |_=>none
theorem AdU{gx gy:G}(h:lD op gx gy=some g):b8 P op t x y gx gy=some g:=by
 unfold lD at h;simp only[X0,X1] at h;split at h
 .grind [VM,VN,VO,VP,VQ,VR,VS,VT,VU,VV,VW]
 .cases h
def A8(a b:Nat):Nat:=bif Nat.ble a b then b else a
theorem xz(a b:Nat):a<=A8 a b:=by
 unfold A8;cases h:Nat.ble a b with
 |true=>simp_all
 |false=>grind
theorem xA(a b:Nat):b<=A8 a b:=by grind [A8,Nk]
theorem Tr.eqv{c:Code}{st:St}{Q:Exit->St->Prop}(h:Tr P c st (λe s=>∃s',Yi s s'/\Q e s')):Tr P c st Q:=λcx a w R r k=>h cx a w R r λe s a' w' ⟨s',h1,h2⟩ r'=>k e s' a' w' h2 (h1.rel r')
def tc:Exit->Bool
 | .normal| .ret=>true
 |_=>false
theorem eO(h:tc e=true):e= .normal\/e= .ret:=by grind [tc]
def vR(P:Bu)(s:St):List ResultVar->Option Bk
 |[]=>some []
 |r::rs=>match jV P s r,vR P s rs with
  |some g,some gs=>some (g::gs)
  |_,_=>none
theorem gh{s:St}:∀{rs:List ResultVar} {gs:Bk},vR P s rs=some gs->rs.mapM (jV P s)=some gs
 |[],gs,h=>by grind [vR]
 |r::rs,gs,h=>by
  simp only[vR] at h;split at h
  .rename_i g a h1 h2;cases h;simp[List.mapM_cons,h1,gh h2]
  .cases h
theorem Bd{s:Bj}(ho:o.op= .convert s t x)(hd:LV o st.n)(h:iQ P st.σ s t (aB st x)=some g):GS P o st (st.put o.dst g):=by
 obtain⟨a,op,ty,pos,d,gd⟩:=o;obtain rfl:op= .convert s t x:=ho;unfold iQ at h;split at h
 .rename_i k n hg;exact fM hd (by grind [Qe])
 .rename_i b hg;split at h
  .rename_i e he;split at h
   .rename_i hi;cases hc:(nu P s&&Nat.ble b.data.toList.length 9223372036854775807) with
    |false=>grind
    |true=>rw[hc] at h;simp only[bA] at hc;cases h;exact Kd (s:=b.data.toList) rfl hd hc.1 he hi (by rw[hg]) (Ef hc.2)
   .cases h
  .cases h
 .split at h
  .rename_i e he;split at h
   .rename_i hi;split at h
    .rename_i l m hv;split at h
     .rename_i c hy;cases hc:(nu P t&&Nat.beq c.length m) with
      |false=>grind
      |true=>rw[hc] at h;simp only[bA] at hc;cases h;have hm:=bc hc.2;exact HT rfl hd he hi hc.1 (by grind [A6])
     .cases h
    .cases h
   .cases h
  .cases h
theorem Ac(h:∀x∈parts.map (·.2),aB st' x=aB st x):(parts.toList.map λq=>(q.1,aB st' q.2))=parts.toList.map λq=>(q.1,aB st q.2):=
 by grind [List.map_congr_left]
structure Sub (st st':St):Prop where
 n:st'.n=st.n
 gl:st'.gl=st.gl
 fr:∀i,aD st'.fr i=aD st.fr i
 σ:∀i o,ag st'.σ i=some o->ag st.σ i=some o
 c:st'.c=st.c
 p:st'.p=st.p
 r:st'.r=st.r
theorem Sub.rel{st st':St}(e:Sub st st'){cx:Cx}{a:Act}{w:World}(h:mh P cx st a w):mh P cx st' a w:=by
 obtain⟨β,h⟩:=h;have hS:∀b',b'<w.heap.size->Av cx.S0 β st'.σ b'->Av cx.S0 β st.σ b':=by grind [σ]
 refine⟨β,?_⟩;exact{
  size:=by rw[e.n];exact h.size
  defers:=h.defers
  loose:=h.loose
  rnd:=by rw[e.r];exact h.rnd
  fr:=λi=>by rw[e.fr];exact(h.fr i).step (by grind) hS (A3.refl _ _)
  ob:=λi o ho=>(h.ob i o (e.σ i o ho)).step (by grind) hS (A3.refl _ _) (by grind)
  inj:=λi j o d b C D h1 h2=>h.inj i j o d b C D (e.σ i o h1) (e.σ j d h2)
  own:=λi o b C h1=>h.own i o b C (e.σ i o h1)
  sep:=λi o b C h1=>h.sep i o b C (e.σ i o h1)
  fresh:=λi hi=>h.fresh i (by rw[<-e.c];exact hi)
  glob:=λg l hl=>(h.glob g l (by rw[<-e.gl];exact hl)).sub hS
  keep:=h.keep
  old:=h.old
  pin:=λi x hx=>by rw[e.p];exact h.pin i x hx}
theorem th.sub{o:Oper}{st:St}{S T:St->Prop}(h:th P o st S)(e:(∀i o,ag st.σ i=some o->i<st.c)->∀s,S s->∃s',T s'/\Sub s s'):th P o st T:=λcx a w K R r k=>h cx a w K R r λs hs a' w' r'=>by
 obtain⟨s',h1,h2⟩:=e (λi ob ho=>by obtain⟨β,rb⟩:=r;grind [RO.at]) s hs
 exact k s' h1 a' w' (h2.rel r')
theorem Ae(e:Yi st s)(d:Option Tmp)(g:G):Yi (st.put d g) (s.put d g):=by
 cases d with
 |none=>exact e
 |some d=>exact⟨e.n,e.gl,λi=>by show aD ((d,g)::s.fr) i=aD ((d,g)::st.fr) i;rw[aO,aO,e.fr],e.σ,e.c,e.p,e.r⟩
theorem Af{σ σ':aQ}(h1:∀i,ag σ' i=ag σ i)(h2:c'=c):Yi {st with σ:=σ,c:=c} {st with σ:=σ',c:=c'}:=⟨rfl,rfl,λ_=>rfl,h1,h2,rfl,rfl⟩
theorem LM{σ σ':aQ}(h1:∀i o,ag σ' i=some o->ag σ i=some o)(h2:c'=c):Sub {st with σ:=σ,c:=c} {st with σ:=σ',c:=c'}:=⟨rfl,rfl,λ_=>rfl,h1,h2,rfl,rfl⟩
theorem LN(e:Sub st s)(d:Option Tmp)(g:G):Sub (st.put d g) (s.put d g):=by
 cases d with
 |none=>exact e
 |some d=>exact⟨e.n,e.gl,λi=>by show aD ((d,g)::s.fr) i=aD ((d,g)::st.fr) i;rw[aO,aO,e.fr],e.σ,e.c,e.p,e.r⟩
def fR:G->Br
 | .ref i _=>[i]
 | .rsl i _ _=>[i]
 | .rsr i _=>[i]
 | .mref i=>[i]
 |_=>[]
def fX(o:Option Ob):Bool:=match o with
 |some ⟨_,_,some .resv⟩=>true
 |_=>false
def aai(o:Oper):Bool:=match o.op with
 | .alloc _| .box .. | .buildSlice .. | .makeSlice .. =>true
 | .call {callee:= .builtin .append,.. }=>true
 |_=>false
theorem Hy{o:Option Ob}(h:fX o=true):∃ob,o=some ob/\ob.x=some .resv:=by unfold fX at h;grind
theorem wb{σ:aQ}{ob:Option Ob}(i:Nat):ag ([(k,ob)]++σ) i=ag ((k,ob)::(k,none)::σ) i:=by grind
theorem lL{f:Nat->Option Ob}{i:Nat}:∀{l:Br},ag (l.map λi=>(i,f i)) i=if i∈l then f i else none
 |[]=>by simp[ag]
 |x::r=>by
  rw[Fi,A9];by_cases e:x=i
  .grind
  .rw[BX e,lL (l:=r)];grind
theorem GS.bound{o:Oper}{st s s':St}(h:GS P o st s)(hs:(∀i ob,ag st.σ i=some ob->i<st.c)->Sub s s'):GS P o st s':=
 (th.sub (S:=λx=>x=s) (T:=λx=>x=s') h.gsn (by grind)).gs λx hx=>hx
def vU(P:Bu)(ops:Array Oper)(K:St->Prop):HE->St->Prop
 |[],st=>K st
 |o::rest,st=>(ce st ops o=some true/\th P o st (vU P ops K rest))\/(ce st ops o=some false/\(∀d,o.dst=some d->d<st.n)/\vU P ops K rest (st.put o.dst (.lit undef)))
theorem ux{ops:Array Oper}{K:St->Prop}{cx:Cx}{Q:Exit->Act->World->Prop}(c:∀st a w,K st->mh P cx st a w->Q .normal a w):∀(l:HE) (st:St) (a:Act) (w:World),vU P ops K l st->mh P cx st a w->wpListIn cx.F cx.nn P ops Q l a w
 |[],st,a,w,h,r=>wpListIn_nil (c st a w h r)
 |o::rest,st,a,w,h,r=>by
  obtain⟨β,rb⟩:=r;rcases h with⟨hg,hs⟩|⟨hg,hd,hr⟩
  .refine wpListIn_step λK' b=>?_;rw[BB (cT rb hg)];exact hs cx a w K' Q ⟨β,rb⟩ λs hs' a' w' r'=>b _ _ (ux c rest s a' w' hs' r')
  .refine wpListIn_step λK' b=>?_;rw[BX (by grind [cT])];exact⟨λf _=>rb.loose.fn f,b _ _ (ux c rest _ _ w hr ⟨β,rb.put o.dst hd (.imm _ _ (.lit _))⟩)⟩
theorem lG{l:HE}{st:St}{Q:Exit->St->Prop}(h:vU P l.toArray (Q .normal) l st):Tr P (.region id l.toArray false) st Q:=λcx a w R r k=>
 (by grind [wpIn_region_lit,ux])
def Nm(o:Oper)(k:Nat):Nat:=bif aai o then k+1 else k
theorem sv:∀(n:Nat) (s:St),(ff n s).n=s.n/\(ff n s).gl=s.gl/\s.c<=(ff n s).c/\∀i,i<s.c->ag (ff n s).σ i=ag s.σ i
 |0,s=>⟨rfl,rfl,Dk _,λ_ _=>rfl⟩
 |n+1,s=>by obtain⟨a,b,c,d⟩:=sv n {s with σ:=(s.c,some BC)::s.σ,c:=s.c+1};grind [ff]
def UN:HE->Nat
 |[]=>0
 |o::r=>Nm o (UN r)
theorem Hu{K K':St->Prop}{Q Q':Exit->St->Prop}(hk:∀s,K s->K' s)(hq:∀e s,Q e s->Q' e s)(h:uE K Q e s):uE K' Q' e s:=by cases e<;>simp only[uE] at h⊢<;>first|exact hk s h|grind
theorem DU{K:St->Prop}{Q:Exit->St->Prop}(he:e≠ .normal)(h:Q e st):uE K Q e st:=by grind [uE]
theorem UP{Q:Exit->St->Prop}(he:e≠ .exit id)(h:Q e st):pu id Q e st:=by cases e<;>grind [pu]
def vQ:aQ->Nat->aQ
 |[],_=>[]
 |(e,h)::r,d=>bif e.beq d then vQ r d else(e,h)::vQ r d
theorem li(d i:Nat):∀σ:aQ,ag (vQ σ d) i=if d=i then none else ag σ i
 |[]=>by simp[vQ,ag]
 |(e,h)::r=>by
  have:=li d i r;cases hb:Nat.beq e d with
  |true=>grind [bc,vQ]
  |false=>
   have:e≠d:=λe=>by simp_all
   grind [vQ]
def upd(U σ:aQ):aQ:=U.foldr (λq σ=>match q.2 with
 |none=>vQ σ q.1
 |some ob=>bif(ag σ q.1).isSome then jO σ q.1 (some ob)else(q.1,some ob)::σ) σ
theorem WF(i:Nat)(σ:aQ):∀U:aQ,ag (upd U σ) i=ag (U++σ) i
 |[]=>rfl
 |(j,o)::r=>by have ih:=WF i σ r;grind [upd,li,aaa]
abbrev XF:=G×aQ×Br×Fq
def Sf(st:St)(k:Nat):Bool:=fX (ag st.σ k)&&Nat.ble st.p k
def xw(g:G)(R:Br)(q:Nat×Ob):XF:=(g,[(q.1,some q.2)],R,none)
def xn(g:G)(k:Nat)(ob:Ob)(R:Br):XF:=(g,[(k,some ob)],k::R,none)
def xv(R:Br)(g:G):XF:=(g,[],R,none)
def abf(P:Bu)(σ:aQ)(t u:Bj)(gx gy:G):Option (Bj×Nat×Nat×Bk):=bif Nat.beq t u then wu P σ 0 t gx gy else Hc P σ 0 t u gx gy
def Aa4(σ:aQ)(g:G):Br:=match gR σ g with
 |some (_,_,some j,_,_,_)=>j::fR g
 |_=>fR g
def AlY(P:Bu)(t:Bj)(l:List (Nat×G)):Option G:=match uH P t l with
 |some g=>some g
 |none=>FO P t l
def xop(P:Bu)(o:Oper)(st:St)(k:Nat):Option XF:=match o.op with
 | .buildSlice t m parts=>bif Sf st k then(Yd P t m (parts.toList.map λq=>(q.1,aB st q.2))).map λ(e,l)=>xn (.rsl k 0 m) k ⟨e,l,none⟩ []else none
 | .makeSlice t x y=>bif Sf st k then(tI P t (aB st x) (aB st y)).map λ(e,l,n)=>xn (.rsl k 0 n) k ⟨e,l,none⟩ []else none
 | .box t x=>bif Sf st k then(S6 P t (aB st x)).map λl=>xn (.ref k 0) k ⟨t,l,none⟩ []else none
 | .alloc t=>bif Sf st k then(FJ P t).map λl=>xn (.ref k 0) k ⟨t,l,none⟩ []else none
 | .makeMap t r=>bif rC P t (r.map (aB st))then some (.mref st.c,[(st.c,some ⟨t,[],some (.map [] 0)⟩)],[],some (st.c+1))else none
 | .range t x=>(B9 P st.σ t (aB st x)).map λob=>(.ref st.c 0,[(st.c,some ⟨t,[],some ob⟩)],fR (aB st x),some (st.c+1))
 | .store t x y=>(FK P st.σ t (aB st x) (aB st y)).map (xw (.lit undef) (fR (aB st x)))
 | .mapUpdate t x y z=>(dZ P st.σ t (aB st x) (aB st y) (aB st z)).map (xw (.lit undef) (fR (aB st x)))
 | .insert t x y z=>(dZ P st.σ t (aB st x) (aB st y) (aB st z)).map (xw (.lit undef) (fR (aB st x)))
 | .mapEntry t x y=>(ov P st.σ t (aB st x) (aB st y)).map λ(i,ob,g)=>xw g (fR (aB st x)) (i,ob)
 | .entryStore _ x y z=>(jX st.σ (aB st x) (aB st y) (aB st z)).map (xw (.lit undef) (fR (aB st x)))
 | .call ⟨.builtin .append,⟨[x,y]⟩,⟨[t,u]⟩⟩=>bif Sf st k then(match aB st x with
  | .rsl i 0 n=>(abf P st.σ t u (.rsl i 0 n) (aB st y)).map λ(e,_,m,l)=>(.rsl k 0 m,[(k,some ⟨e,l,none⟩),(i,none)],k::i::fR (aB st y),none)
  | .lit (.slice none 0 0)=>(abf P st.σ t u (.lit (.slice none 0 0)) (aB st y)).map λ(e,_,m,l)=>xn (.rsl k 0 m) k ⟨e,l,none⟩ (fR (aB st y))
  |_=>none)else none
 | .call ⟨.builtin .delete,⟨[x,y]⟩,⟨[t,_]⟩⟩=>(FN P st.σ t (aB st x) (aB st y)).map (xw (.tup []) (fR (aB st x)))
 | .call ⟨.builtin .clear,⟨[x]⟩,⟨[t]⟩⟩=>(rF P st.σ t (aB st x)).map (xw (.tup []) (fR (aB st x)))
 | .call ⟨.builtin .copy,⟨[x,y]⟩,⟨[t,_]⟩⟩=>(Qq P st.σ t (aB st x) (aB st y)).map λ(i,ob,n)=>xw (.lit (.int .i64 (n:Int))) (fR (aB st x)++fR (aB st y)) (i,ob)
 | .call ⟨.builtin .min,⟨[x,y]⟩,_⟩=>(Qb (aB st x) (aB st y)).map (xv [])
 | .call ⟨.builtin .max,⟨[x,y]⟩,_⟩=>(Qc (aB st x) (aB st y)).map (xv [])
 | .call ⟨.builtin .len,⟨[x]⟩,⟨[t]⟩⟩=>(match ou P st.σ t (aB st x) with|some g=>some g|none=>aX P (aB st) [] o).map (xv (fR (aB st x)))
 | .build t parts=>(AlY P t (parts.toList.map λq=>(q.1,aB st q.2))).map (xv [])
 | .slice t x (some lo) (some hi) (some mx)=>(sJ P t (aB st x) (aB st lo) (aB st hi) (aB st mx)).map (xv [])
 | .convert s t x=>(iQ P st.σ s t (aB st x)).map (xv (fR (aB st x)))
 | .binOp op t x y _=>(match lD op (aB st x) (aB st y) with
  |some g=>some g
  |none=>match FL P op t (aB st x) (aB st y) with
   |some g=>some g
   |none=>aX P (aB st) [] o).map (xv [])
 | .lookup t x y ok=>(bL P st.σ t ok (aB st x) (aB st y)).map (xv (fR (aB st x)))
 | .entry x=>(jr st.σ (aB st x)).map (xv (Aa4 st.σ (aB st x)))
 | .load t x=>(jU P st.σ t (aB st x)).map (xv (fR (aB st x)))
 |_=>(aX P (aB st) [] o).map (xv [])
structure Lk (o:Oper) (st st'':St) (x:XF):Prop where
 n:st''.n=st.n
 gl:st''.gl=st.gl
 p:st''.pr=st.pr
 c:x.2.2.2.isSome=true->st''.c=st.c
 σ:∀i∈x.2.2.1,ag st''.σ i=ag st.σ i
 x:∀y∈o.op.operands,aB st'' y=aB st y
def lay(st:St)(o:Oper)(x:XF):St:={st with σ:=x.2.1++st.σ,c:=x.2.2.2.getD st.c}.put o.dst x.1
def X6(P:Bu)(o:Oper)(st:St)(x:XF):Prop:=∀a,Lk o st a x->GS P o a (lay a o x)
section
variable {σ σ':aQ} {g:G}
theorem Ahc(h:∀i∈fR g,ag σ' i=ag σ i):jU P σ' t g=jU P σ t g:=by cases g<;>grind [jU,fR]
theorem Lw(h:∀i∈fR g,ag σ' i=ag σ i):LE σ' g=LE σ g:=by cases g<;>grind [LE,fR]
theorem Vz(h:∀i∈fR g,ag σ' i=ag σ i)(s:Nat):fO σ' s g=fO σ s g:=by unfold fO;split<;>simp_all [fR]
theorem Ae4(h:∀i∈fR g,ag σ' i=ag σ i):B9 P σ' t g=B9 P σ t g:=by have:=Lw h;unfold B9;grind
theorem Ahd(h:∀i∈fR g,ag σ' i=ag σ i):ou P σ' t g=ou P σ t g:=by have:=Lw h;unfold ou;grind
theorem Ac5{ok:Bool}{k:G}(h:∀i∈fR g,ag σ' i=ag σ i):bL P σ' t ok g k=bL P σ t ok g k:=by have:=Lw h;grind [bL]
theorem Ac6{s:Bj}(h:∀i∈fR g,ag σ' i=ag σ i):iQ P σ' s t g=iQ P σ s t g:=by have:=Vz h 1;unfold iQ;split<;>simp_all
theorem Ahe(h:∀i∈fR g,ag σ' i=ag σ i):gR σ' g=gR σ g:=by unfold gR;split<;>simp_all [fR]
theorem WG(h:∀i∈Aa4 σ g,ag σ' i=ag σ i):jr σ' g=jr σ g/\Aa4 σ' g=Aa4 σ g:=by have h1:=Ahe (σ:=σ) (σ':=σ') (g:=g);have h2:=λj=>Lw (σ:=σ) (σ':=σ') (g:= .mref j);grind [Aa4,jr,fR]
end
theorem Q1(h:Sf st k=true):zB st (some k):=by simp only[Sf,bA] at h;obtain⟨ob,h1,h2⟩:=Hy h.1;exact⟨Ef h.2,ob,h1,h2⟩
theorem nl{σ U:aQ}(h:GS P o st ({st with σ:=σ,c:=c}.put o.dst g))(a:∀i,ag (U++st.σ) i=ag σ i):GS P o st ({st with σ:=U++st.σ,c:=c}.put o.dst g):=h.eqv (Ae (Af a rfl) _ _)
theorem Ae5{σ:aQ}{e:Bj}{s c:Nat}{l:Bk}(h:xO σ 0 e s g=some (i,n,l)):∃a,xO σ c e s g=some (a,n,l)/\((∃j n,g= .rsl j 0 n/\a=j)\/g= .lit (.slice none 0 0)/\a=c):=by unfold xO at h⊢;grind [Gf]
theorem Ac7{e:Bj}{m:Nat}{l:Bk}(ho:o.op= .call ⟨.builtin .append,⟨[x,y]⟩,⟨[t,u]⟩⟩)(hd:LV o st.n)(hk:Sf st k=true)(hg:abf P st.σ t u (aB st x) (aB st y)=some (e,i,m,l)):∃a,((∃j n,aB st x= .rsl j 0 n/\a=j)\/aB st x= .lit (.slice none 0 0)/\a=st.c)/\GS P o st ({st with σ:=(k,some ⟨e,l,none⟩)::(a,none)::st.σ}.put o.dst (.rsl k 0 m)):=by
 unfold abf at hg;cases htu:Nat.beq t u with
 |true=>
  obtain rfl:=bc htu;rw[htu] at hg;simp only[ax,wu,Gf] at hg;obtain⟨e',he,s,hs,zs,hz,b,hb,⟨a,n,f⟩,hx,⟨d,h⟩,hy,hg⟩:=hg;obtain⟨i1,h1,h2⟩:=Ae5 (c:=st.c) hx;split at hg
  .rename_i hc;simp only[Fe,Ft] at hg;obtain⟨rfl,rfl,rfl,rfl⟩:=hg;exact⟨i1,h2,J4 (pl:=some k) ho hd he hs hc.1 hz hc.2.1 hb h1 hy (by grind [maxLen]) hc.2.2.2 (Q1 hk)⟩
  .cases hg
 |false=>
  rw[htu] at hg;simp only[Bf,Hc] at hg;split at hg
  .rename_i b hy;split at hg
   .rename_i e' he;split at hg
    .rename_i h1 h2 h3;split at hg
     .rename_i a n f hx;obtain⟨i1,h4,h5⟩:=Ae5 (c:=st.c) hx;cases hc:(nu P u&&Nat.ble (n+b.data.toList.length) 140737488355328) with
      |false=>grind
      |true=>rw[hc] at hg;simp only[bA] at hc;cases hg;exact⟨i1,h5,Kc (pl:=some k) (s:=b.data.toList) ho hd he hc.1 h1 h2 h3 h4 (by rw[hy]) (by simp_all) (Q1 hk)⟩
     .cases hg
    .cases hg
   .cases hg
  .cases hg
theorem aab(ho:o.op= .load t x)(hd:LV o st.n)(h:jU P st.σ t (aB st x)=some g):GS P o st (st.put o.dst g):=fM hd (by obtain⟨a,op,ty,pos,b,gd⟩:=o;obtain rfl:op=_:=ho;exact h)
theorem SH{ρ:DC->G}{σ:aQ}(hl:∀t x,o.op≠ .load t x)(h:aX P ρ [] o=some g):aX P ρ σ o=some g:=by
 obtain⟨d,op,ty,pos,e,gd⟩:=o;cases op with
 |load t x=>grind
 |slice t x lo hi mx=>cases mx<;>exact h
 |call c=>
  obtain⟨a,args,ats⟩:=c;cases a with
  |builtin b=>cases b<;>exact h
  |_=>exact h
 |_=>exact h
theorem AjE{U:aQ}(hd:LV o st.n)(h:xop P o st k=some (g,U,R,q)):GS P o st ({st with σ:=U++st.σ,c:=q.getD st.c}.put o.dst g):=by
 obtain⟨d,op,ty,pos,j,gd⟩:=o;have one:∀{a:Option G} {R':Br},a.map (xv R')=some (g,U,R,q)->a=some g/\U=[]/\q=none:=λ{a R'} h=>by cases a<;>simp[xv] at h;grind
 have mk:∀{b:Bool} {a:Option XF},(bif b then a else none)=some (g,U,R,q)->b=true/\a=some (g,U,R,q):=by grind
 unfold xop at h;dsimp only at h;split at h
 .obtain⟨hk,h⟩:=mk h;obtain⟨⟨e,l⟩,hg,h⟩:=DQ.1 h;cases h;exact nl (P9 (pl:=some k) rfl hd hg (Q1 hk)) wb
 .obtain⟨hk,h⟩:=mk h;obtain⟨⟨e,l,n⟩,hg,h⟩:=DQ.1 h;cases h;exact nl (HV (pl:=some k) rfl hd hg (Q1 hk)) wb
 .obtain⟨hk,h⟩:=mk h;obtain⟨l,hg,h⟩:=DQ.1 h;cases h;simp only[S6,Gf] at hg;obtain⟨p,h1,s,h2,hg⟩:=hg;split at hg<;>cases hg;exact nl (L5 (pl:=some k) rfl hd h1 (by rw[Ng h2];assumption) (Q1 hk)) wb
 .obtain⟨hk,h⟩:=mk h;obtain⟨l,hg,h⟩:=DQ.1 h;cases h;simp only[FJ,Gf] at hg;obtain⟨zs,h1,s,h2,hg⟩:=hg;split at hg<;>cases hg;exact nl (Ed (pl:=some k) rfl hd h1 (by rw[Ng h2];assumption) (Q1 hk)) wb
 .cases hg:rC P ‹_› ((‹Option DC›).map (aB st))<;>rw[hg] at h<;>cases h;exact B8 rfl hd hg
 .obtain⟨ob,hg,h⟩:=DQ.1 h;cases h;exact H2 rfl hd hg
 .obtain⟨q,hg,h⟩:=DQ.1 h;cases h;exact Qg rfl hd hg
 .obtain⟨q,hg,h⟩:=DQ.1 h;cases h;exact iW (.inl rfl) hd hg
 .obtain⟨q,hg,h⟩:=DQ.1 h;cases h;exact iW (.inr rfl) hd hg
 .obtain⟨⟨i,ob,r⟩,hg,h⟩:=DQ.1 h;cases h;exact yU rfl hd hg
 .obtain⟨q,hg,h⟩:=DQ.1 h;cases h;exact tJ rfl hd hg
 .obtain⟨hk,h⟩:=mk h;split at h
  .rename_i i n hx;obtain⟨⟨e,f,m,l⟩,hg,h⟩:=DQ.1 h;cases h;obtain⟨i1,h1,h2⟩:=Ac7 rfl hd hk (by rw[hx];exact hg);grind
  .rename_i hx;obtain⟨⟨e,f,m,l⟩,hg,h⟩:=DQ.1 h;cases h;obtain⟨i1,h1,h2⟩:=Ac7 rfl hd hk (by rw[hx];exact hg);grind [GS.bound,LN,LM]
  .cases h
 .obtain⟨q,hg,h⟩:=DQ.1 h;cases h;exact NM rfl hd hg
 .obtain⟨q,hg,h⟩:=DQ.1 h;cases h;exact Qp rfl hd hg
 .obtain⟨⟨i,ob,n⟩,hg,h⟩:=DQ.1 h;cases h;exact Tc rfl hd hg
 all_goals
  obtain⟨h',rfl,rfl⟩:=one h
  clear h one mk
  have h:=h'
 .exact fM hd (S4 h)
 .exact fM hd (S5 h)
 .split at h
  .rename_i hg;cases h;exact Ta rfl hd hg
  .exact fM hd (SH aC h)
 .unfold AlY at h;split at h
  .rename_i hg;cases h;exact BO rfl hd hg
  .exact NO rfl hd h
 .exact En rfl hd h
 .exact Bd rfl hd h
 .split at h
  .rename_i hg;cases h;exact fM hd (by grind [rA,AdU])
  split at h
  .rename_i hg;cases h;exact NL rfl hd hg
  .exact fM hd (SH aC h)
 .exact xS rfl hd h
 .exact H3 rfl hd h
 .exact aab rfl hd h
 .rename_i hl;exact fM hd (SH hl h)
theorem AjF{st'':St}{U:aQ}(h:xop P o st k=some (g,U,R,q))(L:Lk o st st'' (g,U,R,q)):xop P o st'' k=some (g,U,R,q):=by
 obtain⟨_,_,hn,hc,c,hx⟩:=L;obtain⟨d,op,ty,pos,j,gd⟩:=o;have hp:st''.p=st.p:=by grind [St.pr]
 have mk:∀{a a':Option XF},(bif Sf st k then a else none)=some (g,U,R,q)->(a=some (g,U,R,q)->k∈R/\a'=some (g,U,R,q))->(bif Sf st'' k then a' else none)=some (g,U,R,q):=by grind [Sf]
 have one:∀{α:Type} {a b:Option α} {f:α->XF},a.map f=some (g,U,R,q)->(∀x,f x=(g,U,R,q)->b=a)->b.map f=some (g,U,R,q):=by grind [DQ]
 have vl:∀{a b:Option G} {R':Br},a.map (xv R')=some (g,U,R,q)->((∀x∈R',ag st''.σ x=ag st.σ x)->b=a)->b.map (xv R')=some (g,U,R,q):=by grind [xv]
 have wl:∀{g':G} {R':Br} {a b:Option (Nat×Ob)},a.map (xw g' R')=some (g,U,R,q)->((∀x∈R',ag st''.σ x=ag st.σ x)->b=a)->b.map (xw g' R')=some (g,U,R,q):=by grind [xw]
 have ev:aX P (aB st'') [] ⟨d,op,ty,pos,j,gd⟩=aX P (aB st) [] ⟨d,op,ty,pos,j,gd⟩:=jW hx;unfold xop at h⊢;dsimp only at h hx⊢;split at h
 .refine mk h λh=>?_;obtain⟨_,hg,e⟩:=DQ.1 h;cases e;exact⟨aC,by rw[Ac λx hx'=>hx x (by simpa[Op.operands] using hx'),hg];rfl⟩
 all_goals try
  simp only[Op.operands,Call.operands,Array.mem_append,List.mem_toArray,EG,K3,or_false,false_or,forall_eq_or_imp,forall_eq] at hx
  simp only[hx]
 iterate 3
  refine mk h λh=>?_
  obtain⟨_,hg,e⟩:=DQ.1 h
  cases e
  exact(by grind)
 .rename_i t r;have e:r.map (aB st'')=r.map (aB st):=by cases r<;>simp_all [Op.operands]
  grind
 .grind [DQ,Ae4]
 .exact wl h λc=>by unfold FK;split<;>simp_all [fR]
 iterate 2 exact(by grind [dZ,Lw])
 .refine one h λ_ e=>?_;cases e;grind [ov,Lw]
 .exact wl h λc=>by unfold jX;rw[Lw c]
 .refine mk h λh=>?_;rename_i x y t u _;have go:∀gx,(∀i∈fR (aB st y),ag st''.σ i=ag st.σ i)->(∀i n,gx= .rsl i 0 n->ag st''.σ i=ag st.σ i)->abf P st''.σ t u gx (aB st y)=abf P st.σ t u gx (aB st y):=λgx h1 h2=>by
   have e:∀e s,xO st''.σ 0 e s gx=xO st.σ 0 e s gx:=λe s=>by unfold xO;split<;>simp_all
   unfold abf wu Hc;simp only[e,Vz h1]
  split at h
  .grind [DQ]
  .obtain⟨_,hg,e⟩:=DQ.1 h;cases e;grind
  .cases h
 .grind [FN,Lw]
 .exact wl h λc=>by unfold rF;split<;>simp_all [fR]
 .refine one h λ_ e=>?_;cases e;unfold Qq;have h2:=λs=>Vz (σ:=st.σ) (σ':=st''.σ) (g:=aB st ‹_›) (λi hi=>c i (List.mem_append_right _ hi)) s;split<;>simp_all [fR]
 iterate 2 exact(by grind)
 .grind [Ahd]
 .exact vl h λ_=>by rw[Ac λx hx'=>hx x (by simpa[Op.operands] using hx')]
 .grind [Op.operands]
 .grind [Ac6]
 .grind
 .grind [Ac5]
 .have e:=h;obtain⟨_,_,e⟩:=DQ.1 e;cases e;grind [WG]
 all_goals grind [Ahc]
theorem AjG{x:XF}(hd:LV o st.n)(h:xop P o st k=some x):X6 P o st x:=λa L=>AjE (by rw[L.n];exact hd) (AjF h L)
end
end Go.Proofs.YtjbfcillbjiajaaGreatDoor
