/- Texts. -/
import Derived.Test.YtaiecngnppbhlaaGreatDoorFN
namespace Go.Proofs.YtaiecngnppbhlaaGreatDoor
set_option linter.unusedSectionVars false
set_option linter.unusedVariables false
set_option linter.unusedSimpArgs false
open Go.RowKit Tryz
def unS(fn:Func):Func:={fn with body:=some (match ai fn with| .seq a (.scope c)=> .seq a c|c=>c)}
def abs:Code->Bool
 | .seq _ (.scope _)=>true
 |_=>false
theorem U1{P:Program}{fn:Func}{Q Q':Exit->St->Prop}{J:St}(hi:abs (ai fn)=true)(hQ:∀l s,¬Q (.goto l) s)(b:Q=Q')(h:Gp P (unS fn) Q' [] false [1] J):Gp P fn Q [] false [1] J:=by
 subst b;obtain⟨a,c,hc⟩:∃a c,ai fn= .seq a (.scope c):=by unfold abs at hi;grind
 have e:ai (unS fn)= .seq a c:=by grind [unS,ai]
 unfold Gp at h⊢;rw[e] at h;rw[hc];exact Pn (Tr.mono h λe s hx=>by
  cases e with
  |goto l=>obtain⟨s',_,h2⟩:Z1 P Q (.goto l) s:=hx;exact(hQ l s' h2).elim
  |_=>exact⟨rfl,hx⟩)
attribute [local irreducible] Tr dz Gp
variable (gl:List (Nat×List G))
variable {K V α:Type}{a k kk n pub s:Nat}{r:List Bool}{b:List UInt8}{i id x:DIdent}{l:List DIdent}{L:List (Nat×Bool)}{c:DCard}{srt:List Int}{m:FM K V}{e:K×V×Nat}{seen:List Nat}{R:DRollRoll}{P:Program}{fn:Func}{t:TypeId}{g:D12G}
section
variable {σ1 σ2 ρ1 ρ2:Type}
def Sim(R:σ1->σ2->Prop)(Q:ρ1->ρ2->Prop):σ1⊕ρ1->σ2⊕ρ2->Prop
 | .inl a,.inl b=>R a b
 | .inr a,.inr b=>Q a b
 |_,_=>False
theorem MQ{s1:σ1->Option (σ1⊕ρ1)}{s2:σ2->Option (σ2⊕ρ2)}(R:σ1->σ2->Prop)(Q:ρ1->ρ2->Prop)(h:∀a b,R a b->∀v,s2 b=some v->∃u,s1 a=some u/\Sim R Q u v):∀(n:Nat) (a:σ1) (b:σ2) (r:ρ2),R a b->KN s2 n b=some r->∃q,KN s1 n a=some q/\Q q r
 |0,a,b,r,_,hl=>by cases hl
 |n+1,a,b,r,hR,hl=>by
  unfold KN at hl⊢;cases hb:s2 b with
  |none=>rw[hb] at hl;cases hl
  |some v=>
   rw[hb] at hl;obtain⟨u,hu,hs⟩:=h a b hR v hb;rw[hu];cases u with
   |inl a'=>
    cases v with
    |inl b'=>exact MQ R Q h n a' b' r hs hl
    |inr b'=>exact hs.elim
   |inr a'=>
    cases v with
    |inl b'=>exact hs.elim
    |inr b'=>dsimp only at hl⊢;cases hl;exact⟨a',rfl,hs⟩
theorem Rv{s1:σ1->Option (σ1⊕ρ1)}{s2:σ2->Option (σ2⊕ρ2)}(R:σ1->σ2->Prop)(Q:ρ1->ρ2->Prop)(h:∀a b,R a b->∀v,s2 b=some v->∃u,s1 a=some u/\Sim R Q u v){a:σ1}{b:σ2}{r:ρ2}(hR:R a b)(hl:bo s2 b=some r):∃q,bo s1 a=some q/\Q q r:=MQ R Q h _ a b r hR hl
end
theorem WN(h:n<18446744073709551616):bD n 1=n%2:=by grind [bD]
theorem WO(n:Nat):fv n 1=n/2:=rfl
theorem CT(n:Nat):n%PF<2305843009213693951:=Nat.mod_lt _ dL
theorem nf{r:Nat}(ha:a<18446744073709551616)(hn:n<18446744073709551616)(h:iK a n=some r):j7 a n=some r:=by
 unfold iK at h;obtain⟨x,hx,h⟩:=bS h;cases h;unfold j7;rw[gF ha,aL];have hst:∀(s t:Nat×Nat×Nat),(λ(s:Nat×Nat×Nat) (t:Nat×Nat×Nat)=>t=(s.2.2,s.1,s.2.1)/\s.1<2305843009213693951/\s.2.1<18446744073709551616/\s.2.2<2305843009213693951) s t->∀v,r6 t=some v->∃u,mW s=some u/\Sim (λ(s:Nat×Nat×Nat) (t:Nat×Nat×Nat)=>t=(s.2.2,s.1,s.2.1)/\s.1<2305843009213693951/\s.2.1<18446744073709551616/\s.2.2<2305843009213693951) (λa b=>a=b) u v:=by
  intro s t hR v hv;obtain⟨b,m,o⟩:=s;obtain⟨rfl,k1,k2,k3⟩:=hR;dsimp only at k1 k2 k3;unfold r6 at hv;unfold mW;dsimp only at hv⊢;rw[WN k2,WO];have hm:∀x y:Nat,x<2305843009213693951->y<2305843009213693951->jZ x y=some (x*y%PF):=by grind [vS]
  rcases bC hv with⟨c,hv⟩|⟨c,hv⟩
  .rw[c,aN];obtain⟨j,hj,hv⟩:=bS hv;obtain⟨w,hw,hv⟩:=bS hv;cases hv;rw[ll] at hw;cases hw;refine⟨.inl (b*b%PF,m/2,j),?_,?_⟩
   .grind [ll]
   .refine⟨?_,CT _,by show m/2<_;omega,?_⟩
    .show(j,b*b%PF,wU ((m/2:Nat):Int))=(j,b*b%PF,m/2);rw[gP,Nat.mod_eq_of_lt (a:=m/2) aa]
    grind [ll]
  .rw[c,cG];cases hv;exact⟨_,rfl,rfl⟩
 obtain⟨q,h1,h2⟩:=Rv _ _ hst (a:=(a%PF,n,1)) (by grind) hx;rw[h1,h2]
def DB:Nat->Nat->List Nat->Option Nat
 |s,_,[]=>some s
 |s,k,w::r=>(kE s k w).bind λs'=>DB s' (k+1) r
def Z4(s k w:Nat):Nat:=(37*s%PF+(w+(k+1))%PF)%PF
theorem CU{s k w:Nat}(hs:s<18446744073709551616)(hw:w<9223372036854775808)(hk:k<4611686018427387904):∃r,iK (Z4 s k w) 17=some r/\kE s k w=some r/\r<2305843009213693951:=by
 obtain⟨r,h1,h2⟩:=ka (Z4 s k w) (n:=17) dL;refine⟨r,h1,?_,h2⟩;have hp:Z4 s k w<2305843009213693951:=CT _;unfold kE;rw[vS dL hs,aL];have e:wU ((w:Int)+((wU ((k:Int)+((1:Nat):Int)):Nat):Int))=w+(k+1):=by rw[me k 1,me,Nat.mod_eq_of_lt (show k+1<18446744073709551616 by omega),Nat.mod_eq_of_lt aa]
 grind [gF,IQ,nf,Z4]
theorem Vi:∀(l:List Nat) (s k:Nat),s<18446744073709551616->(∀w∈l,w<9223372036854775808)->k+l.length<4611686018427387904->T (DB s k l) λr=>r<18446744073709551616
 |[],s,k,hs,_,_=>⟨s,rfl,hs⟩
 |w::r,s,k,hs,hw,hk=>by simp only[List.length_cons] at hk;obtain⟨s',h1,h2,h3⟩:=CU (s:=s) (k:=k) (w:=w) hs (hw w aC) aa;unfold DB;exact .eqb h2 (Vi r s' (k+1) aa (by grind) aa)
theorem Au:∀(l m:List Nat) (s k:Nat),DB s k (l++m)=(DB s k l).bind λs'=>DB s' (k+l.length) m
 |[],m,s,k=>rfl
 |w::r,m,s,k=>by show(kE s k w).bind (λs'=>DB s' (k+1) (r++m))=((kE s k w).bind λs'=>DB s' (k+1) r).bind _;rw[Option.bind_assoc];congr 1;funext s';rw[Au r m s' (k+1),List.length_cons,Nat.add_assoc,Nat.add_comm 1]
def xi:List UInt8->Nat
 |[]=>0
 |x::r=>x.toNat+256*xi r
theorem Gy:∀l:List UInt8,xi l<256^l.length
 |[]=>dL
 |x::r=>by have:=Gy r;grind [UInt8.toNat_lt,xi]
theorem MR:∀(l m:List UInt8),xi (l++m)=xi l+256^l.length*xi m
 |[],m=>by simp[xi]
 |x::r,m=>by show x.toNat+256*xi (r++m)=x.toNat+256*xi r+256^(r.length+1)*xi m;rw[MR r m,Nat.pow_succ,Nat.mul_add,Nat.mul_comm (256^r.length) 256,Nat.mul_assoc,Nat.add_assoc]
theorem WP{l:List UInt8}(h:l.length<=7):xi l<72057594037927936:=Nat.lt_of_lt_of_le (Gy l) (Nat.le_trans (Nat.pow_le_pow_right dL h) dL)
def ws(b:List UInt8):List Nat:=match b with
 |[]=>[]
 |x::r=>xi ((x::r).take 7)::ws ((x::r).drop 7)
 termination_by b.length
 decreasing_by simp;omega
theorem Gz(h:0<b.length):ws b=xi (b.take 7)::ws (b.drop 7):=by cases b<;>grind [ws]
theorem vc:ws []=[]:=by rw[ws]
theorem CV:∀(n:Nat) (b:List UInt8),b.length<=n->(ws b).length<=b.length
 |0,b,h=>by grind [vc]
 |n+1,b,h=>by
  by_cases hb:0<b.length
  .rw[Gz hb,List.length_cons];have:=CV n (b.drop 7) (by rw[List.length_drop];omega);rw[List.length_drop] at this;omega
  grind [vc]
theorem Rx:∀(n:Nat) (b:List UInt8),b.length<=n->∀w∈ws b,w<9223372036854775808
 |0,b,h,w,hw=>by grind [vc]
 |n+1,b,h,w,hw=>by
  by_cases hb:0<b.length
  .rw[Gz hb] at hw;rcases List.mem_cons.1 hw with rfl|hw
   .grind [WP]
   .exact Rx n (b.drop 7) (by rw[List.length_drop];omega) w hw
  grind [vc]
theorem WQ{a b k:Nat}(h:a<2^k):a|||b*2^k=a+b*2^k:=by grind [Nat.two_pow_add_eq_or_of_lt,Nat.mul_comm]
theorem Zm(k:Nat):256^k=2^(8*k):=by rw[Nat.pow_mul]
theorem IR{q:List UInt8}(hq:q.length<=7):bo (oD q) (0,0)=some (xi q):=by
 refine T.eq (T.loop (λs=>∃i:Nat,s.2=(i:Int)/\i<=q.length/\s.1=xi (q.take i)) (λs=>q.length-s.2.toNat) (by grind [xi]) (by show q.length-_<_;omega) ?_);rintro⟨w,j⟩ ⟨i,rfl,h2,rfl⟩;unfold oD;dsimp only;refine .dec (λh=>?_) λh=>?_
 .unfold ah at h;have hi:i<q.length:=aa;refine .bind (.ix aa (x:=q[i]) (by rw[Int.toNat_natCast,fy hi]) ?_);have e8:wI (8*(i:Int))=((8*i:Nat):Int):=by grind [bM]
  refine .bind (x:=wJ _) ⟨8*i,by grind [wJ],?_⟩;refine .some ⟨⟨i+1,aq aa,hi,?_⟩,?_⟩
  .show gM (xi (q.take i)) (lB (wU ((q[i].toNat:Nat):Int)) (8*i))=xi (q.take (i+1));have hx:=q[i].toNat_lt;have hl:=Gy (q.take i);rw[List.length_take,Nat.min_eq_left h2,Zm] at hl;have hp:(2:Nat)^(8*i)<=2^48:=Nat.pow_le_pow_right dL aa;rw[List.take_succ_eq_append_getElem hi,MR,List.length_take,Nat.min_eq_left h2,Zm];unfold gM lB;rw[gP,Nat.min_eq_left (by omega:8*i<=64),Nat.mod_eq_of_lt (a:=q[i].toNat) aa];have hb:q[i].toNat*2^(8*i)<=255*2^48:=Nat.mul_le_mul aa hp;grind [xi,WQ,Nat.mul_comm]
  grind [aq]
 .unfold ah at h;have hi:i=q.length:=aa;refine .some ?_;show xi (q.take i)=_;rw[hi,List.take_length]
theorem WR:iI 7 (n:Int)=((min 7 n:Nat):Int):=by unfold iI;omega
theorem yr{i:Nat}(hb:b.length<=1099511627776)(hi:i<b.length):mc b (i:Int)=some (b.drop i)/\tq b (wI ((i:Int)+iI 7 (ah (b.drop i))))=some (b.take (i+min 7 (b.length-i)))/\mc (b.take (i+min 7 (b.length-i))) (i:Int)=some ((b.drop i).take 7)/\wI ((i:Int)+7)=((i+7:Nat):Int):=by
 refine⟨?_,?_,?_,?_⟩
 .grind [mc]
 .grind [ah,WR,bM,tq]
 .unfold mc;grind
 grind [bM]
theorem Ry{i:Nat}(hi:i<b.length):ws (b.drop i)=xi ((b.drop i).take 7)::ws (b.drop (i+7)):=by grind [Gz,List.drop_drop]
theorem Vj:((b.take 7)).length<=7:=by rw[List.length_take];omega
theorem WS(hb:b.length<=1099511627776){r:Nat}(hk:k+b.length<4611686018427387904)(h:DB s k (ws b)=some r):bo (F1 b) ((s,k),0)=some (r,k+(ws b).length):=by
 refine T.eq (T.loop (λx=>∃i:Nat,x.2=(i:Int)/\i<=b.length+6/\x.1.2<=k+i/\DB x.1.1 x.1.2 (ws (b.drop i))=some r/\x.1.2+(ws (b.drop i)).length=k+(ws b).length) (λx=>b.length+7-x.2.toNat) (by grind) (by show b.length+7-_<_;omega) ?_);rintro⟨⟨s1,a⟩,z⟩ ⟨i,rfl,h2,h3,h4,h5⟩;dsimp only at h3 h4 h5;unfold F1;dsimp only;refine .dec (λh=>?_) λh=>?_
 .unfold ah at h;have hi:i<b.length:=aa;obtain⟨c1,c2,c3,c4⟩:=yr hb hi;rw[Ry hi] at h4 h5;refine .eqb c1 (.eqb c2 (.eqb c3 (.eqb (IR Vj) ?_)));unfold DB at h4;obtain⟨s',e1,e2⟩:=bS h4;refine .eqb e1 (.some ⟨⟨i+7,c4,aa,?_,?_,?_⟩,?_⟩)
  .show k1 a<=_;unfold k1;rw[me a 1,Nat.mod_eq_of_lt aa];omega
  .show DB s' (k1 a) _=_;unfold k1;rw[me a 1,Nat.mod_eq_of_lt aa];exact e2
  .show k1 a+_=_;unfold k1;rw[me a 1,Nat.mod_eq_of_lt aa,<-h5,List.length_cons];omega
  grind
 .unfold ah at h;have e:b.drop i=[]:=List.drop_eq_nil_of_le aa;rw[e,vc] at h4 h5;refine .some ?_;show(s1,a)=_;rw[<-h5,<-cP h4];rfl
theorem OB(hb:b.length<=1099511627776):Cj b=some (ws b):=by
 have hln:=CV _ b (Nat.le_refl _);refine T.eq (T.loop (λx=>∃i:Nat,x.2=(i:Int)/\i<=b.length+6/\x.1++ws (b.drop i)=ws b) (λx=>b.length+7-x.2.toNat) ⟨0,rfl,aa,rfl⟩ (by show b.length+7-_<_;omega) ?_);rintro⟨acc,z⟩ ⟨i,rfl,h2,h3⟩;dsimp only at h3;unfold xZ;dsimp only;refine .dec (λh=>?_) λh=>?_
 .unfold ah at h;have hi:i<b.length:=aa;obtain⟨c1,c2,c3,c4⟩:=yr hb hi;rw[Ry hi] at h3;have hl:=congrArg List.length h3;rw[List.length_append,List.length_cons] at hl;refine .eqb c1 (.eqb c2 (.eqb c3 (.eqb (IR Vj) (.bind (.app cq (.some ⟨⟨i+7,c4,aa,?_⟩,?_⟩))))));all_goals grind
 .unfold ah at h;have e:b.drop i=[]:=List.drop_eq_nil_of_le aa;rw[e,vc,List.append_nil] at h3;exact .some h3
theorem zq(hb:b.length<=1099511627776):pW b=some (ws b):=by
 have hln:=CV _ b (Nat.le_refl _);unfold pW;refine T.eq (.bind (T.loop (λx=>∃i:Nat,x.2=(i:Int)/\i<=b.length+6/\x.1++ws (b.drop i)=ws b) (λx=>b.length+7-x.2.toNat) ⟨0,rfl,aa,rfl⟩ (by show b.length+7-_<_;omega) ?_));rintro⟨acc,z⟩ ⟨i,rfl,h2,h3⟩;dsimp only at h3;unfold qh;dsimp only;refine .dec (λh=>?_) λh=>?_
 .unfold ah at h;have hi:i<b.length:=aa;have c4:=(yr hb hi).2.2.2;rw[Ry hi] at h3;have hl:=congrArg List.length h3;rw[List.length_append,List.length_cons] at hl;generalize hq:(b.drop i).take 7=q at h3;have hq7:q.length=min 7 (b.length-i):=by rw[<-hq,List.length_take,List.length_drop]
  have em:iI (ah b) (((i+7:Nat):Int))=((i+q.length:Nat):Int):=by unfold iI ah;omega
  have inner:bo (my b (acc,(i:Int))) (0,wI (iI (ah b) (wI ((i:Int)+7))-1))=some (xi q):=by
   rw[c4,em,bM aa aa];refine T.eq (T.loop (λx=>∃j:Nat,x.2=((i+j:Nat):Int)-1/\j<=q.length/\x.1=xi (q.drop j)) (λx=>(x.2+1-i).toNat) ⟨q.length,aC,Nat.le_refl _,by rw[List.drop_length];rfl⟩ (by grind) ?_);rintro⟨w,y⟩ ⟨j,rfl,c,rfl⟩;unfold my;dsimp only;refine .dec (λhh=>?_) λhh=>?_
   .have hj:0<j:=aa;have hjq:j-1<q.length:=aa;have hx:b[i+(j-1)]?=some q[j-1]:=by grind
    refine .bind (.ix aa (x:=q[j-1]) (by rw[<-hx];congr 1;omega) (.some ⟨⟨j-1,?_,aa,?_⟩,?_⟩))
    .grind [bM]
    .show wU (((wU (((xi (q.drop j):Nat):Int)*((256:Nat):Int)):Nat):Int)+((wU ((q[j-1].toNat:Nat):Int):Nat):Int))=xi (q.drop (j-1));rw[List.drop_eq_getElem_cons hjq,show j-1+1=j by omega];show _=q[j-1].toNat+256*xi (q.drop j);have h6:=Gy (q.drop j);rw[List.length_drop] at h6;have h7:(256:Nat)^(q.length-j)<=256^6:=Nat.pow_le_pow_right dL aa;have hx:=q[j-1].toNat_lt;rw[K6,gP q[j-1].toNat,me,Nat.mod_eq_of_lt (a:=xi (q.drop j)*256) aa,Nat.mod_eq_of_lt (a:=q[j-1].toNat) aa,Nat.mod_eq_of_lt aa];omega
    grind [bM]
   .obtain rfl:j=0:=aa;exact .some rfl
  refine .eqb inner (.bind (.app cq (.some ⟨⟨i+7,c4,aa,?_⟩,?_⟩)));all_goals grind
 .unfold ah at h;have e:b.drop i=[]:=List.drop_eq_nil_of_le aa;rw[e,vc,List.append_nil] at h3;exact .some (.some h3)
theorem WT{l:List Nat}(hl:l.length<=1099511627776)(hw:∀w∈l,w<18446744073709551616){r:Nat}(hk:k+l.length<4611686018427387904)(h:DB s k (l.map (·%PF))=some r):bo (F3 l) ((s,k),0)=some (r,k+l.length):=by
 refine T.eq (T.loop (λx=>∃i:Nat,x.2=(i:Int)/\i<=l.length/\x.1.2=k+i/\DB x.1.1 x.1.2 ((l.drop i).map (·%PF))=some r) (λx=>l.length-x.2.toNat) (by grind) (by show l.length-_<_;omega) ?_);rintro⟨⟨s1,a⟩,z⟩ ⟨i,rfl,h2,h3,h4⟩;dsimp only at h3 h4;subst h3;unfold F3;dsimp only;refine .dec (λh=>?_) λh=>?_
 .unfold ah at h;have hi:i<l.length:=aa;rw[List.drop_eq_getElem_cons hi,List.map_cons] at h4;unfold DB at h4;obtain⟨s',e1,e2⟩:=bS h4;refine .bind (.ix aa (x:=l[i]) (by rw[Int.toNat_natCast,fy hi]) ?_);refine .eqb (gF (hw _ (List.getElem_mem hi))) (.eqb e1 (.some ⟨⟨i+1,aq aa,hi,?_,?_⟩,?_⟩))
  .show k1 (k+i)=_;unfold k1;rw[me (k+i) 1,Nat.mod_eq_of_lt aa];omega
  .show DB s' (k1 (k+i)) _=_;unfold k1;rw[me (k+i) 1,Nat.mod_eq_of_lt aa];exact e2
  grind [aq]
 .unfold ah at h;obtain rfl:i=l.length:=aa;rw[List.drop_length] at h4;refine .some ?_;show(s1,k+l.length)=_;rw[<-cP h4]
theorem TT{w:Nat}(hs:s<18446744073709551616)(hw:w<9223372036854775808)(hk:k<4611686018427387904){r:Nat}(h:kE s k w=some r):((oQ 37 s).bind λa=>(qi w (k+1)).bind λb=>(qi a b).bind λc=>iK c 17)=some r:=by obtain⟨r',h1,h2,_⟩:=CU hs hw hk;rw[h] at h2;cases h2;rw[ll,aL,yq,aL,yq,aL];exact h1
theorem K7{l:List Nat}(hl:l.length<=2199023255552)(hw:∀w∈l,w<9223372036854775808){r:Nat}(hs:s<18446744073709551616)(h:DB s 0 l=some r):bo (qj l) (s,0)=some r:=by
 refine T.eq (T.loop (λx=>∃i:Nat,x.2=(i:Int)/\i<=l.length/\x.1<18446744073709551616/\DB x.1 i (l.drop i)=some r) (λx=>l.length-x.2.toNat) ⟨0,rfl,aa,hs,h⟩ (by show l.length-_<_;omega) ?_);rintro⟨s1,z⟩ ⟨i,rfl,h2,h3,h4⟩;dsimp only at h3 h4;unfold qj;dsimp only;refine .dec (λh=>?_) λh=>?_
 .unfold ah at h;have hi:i<l.length:=aa;rw[List.drop_eq_getElem_cons hi] at h4;unfold DB at h4;obtain⟨s',e1,e2⟩:=bS h4;have a:=hw _ (List.getElem_mem hi);obtain⟨r',_,e3,e4⟩:=CU h3 a (show i<4611686018427387904 by omega);rw[e1] at e3;cases e3;have key:=TT h3 a aa e1;have ek:wU (wI ((i:Int)+1))=i+1:=by rw[aq aa,gP];omega
  rw[ek];obtain⟨b,m1,key⟩:=bS key;obtain⟨c,m2,key⟩:=bS key;obtain⟨d,m3,key⟩:=bS key;refine .eqb m1 (.bind (.ix aa (x:=l[i]) (by rw[Int.toNat_natCast,fy hi]) (.eqb m2 (.eqb m3 (.eqb key (.some ⟨⟨i+1,aq aa,hi,by show s'<_;omega,e2⟩,?_⟩))))));show l.length-(wI ((i:Int)+1)).toNat<l.length-((i:Int)).toNat;rw[aq aa];omega
 .unfold ah at h;obtain rfl:i=l.length:=aa;rw[List.drop_length] at h4;refine .some ?_;show s1=r;exact cP h4
theorem K8{l v:List Nat}(hv:v.length+l.length<=2199023255552):bo (qk l) (v,0)=some (v++l.map (·%PF)):=by
 refine T.eq (T.loop (λx=>∃i:Nat,x.2=(i:Int)/\i<=l.length/\x.1=v++(l.take i).map (·%PF)) (λx=>l.length-x.2.toNat) (by grind) (by show l.length-_<_;omega) ?_);rintro⟨acc,z⟩ ⟨i,rfl,h2,rfl⟩;unfold qk;dsimp only;refine .dec (λh=>?_) λh=>?_
 .unfold ah at h;have hi:i<l.length:=aa;refine .bind (.ix aa (x:=l[i]) (by rw[Int.toNat_natCast,fy hi]) (.bind (.app cq (.some ⟨⟨i+1,aq aa,hi,?_⟩,?_⟩))));all_goals grind [List.take_succ_eq_append_getElem,aq]
 .unfold ah at h;obtain rfl:i=l.length:=aa;rw[List.take_length];exact .some rfl
theorem ET{label:List UInt8}{l:List Nat}(h1:label.length<=1000)(h2:l.length<=1099511627776)(hw:∀w∈l,w<18446744073709551616):T (x6 label l) λr=>yA label l=some r/\r<18446744073709551616:=by
 have hln:=CV _ label (Nat.le_refl _);have hwl:∀w∈ws label++[l.length]++l.map (·%PF)++[0],w<9223372036854775808:=λw hm=>by
  simp only[List.mem_append,List.mem_singleton,List.mem_map] at hm;rcases hm with((hm|rfl)|⟨x,_,rfl⟩)|rfl
  .exact Rx _ label (Nat.le_refl _) w hm
  all_goals grind
 obtain⟨r,e,hr⟩:=Vi (ws label++[l.length]++l.map (·%PF)++[0]) label.length 0 aa hwl cq;have ew:wU (ah label)=label.length:=by unfold ah;rw[gP];omega
 have el':wU (ah l)=l.length:=by unfold ah;rw[gP];omega
 have eb:Gk label=some label:=by unfold Gk;rw[if_pos aa]
 refine⟨r,?_,?_,hr⟩
 .have e:=e;rw[Au,Au,Au] at e;obtain⟨a3,e,b⟩:=bS e;obtain⟨a2,e,f2⟩:=bS e;obtain⟨a1,e,f1⟩:=bS e;unfold x6;rw[eb,aL,ew,el',WS aa aa e,aL];have f1':kE a1 (0+(ws label).length) l.length=some a2:=by unfold DB at f1;obtain⟨q,q1,a⟩:=bS f1;rw[q1];exact a
  dsimp only;rw[f1',aL];have ek:k1 (0+(ws label).length)=0+(ws label++[l.length]).length:=by unfold k1;rw[me _ 1,Nat.mod_eq_of_lt aa,List.length_append];simp
  rw[ek,WT h2 hw cq f2,aL];dsimp only;unfold DB at b;obtain⟨q,q1,a⟩:=bS b;rw[show 0+(ws label++[l.length]).length+l.length=0+(ws label++[l.length]++l.map (·%PF)).length by simp;omega,q1];exact a
 .unfold yA;rw[eb,aL,zq aa,aL,el',ew];grind [aT,K8,K7]
theorem xe{label b:List UInt8}(h1:label.length<=1000)(h2:b.length<=1073741824):T (pq label b) λr=>jI label b=some r/\r<18446744073709551616:=by
 have hln:=CV _ b (Nat.le_refl _);unfold pq jI;rw[OB aa,aL,zq aa,aL];have el':wU (ah b)=b.length:=by unfold ah;rw[gP];omega
 have a1:aT 8 (ws b) [b.length]=some (ws b++[b.length]):=by grind [aT]
 rw[el',a1,aL,aL];refine(ET h1 cq λw hw=>?_).mono (by grind);simp only[List.mem_append,List.mem_singleton] at hw;rcases hw with hw|rfl
 .have:=Rx _ b (Nat.le_refl _) w hw;omega
 .omega
theorem TU{o:DOp}(h:SmOp o):T (Rs o) λi=>pV o=some i:=by obtain⟨i,e,e1,e2,e3,_⟩:=wN h;obtain⟨v,f1,f2,_⟩:=xe (label:=[111,112]) (b:=qc o) dL (by have:=yY h;omega);refine⟨i,?_,e⟩;unfold Rs;rw[f1,aL];rw[f2] at e3;cases e3;rw[<-e1,<-e2]
def xh(pub:Nat)(d:Nat)(b:List UInt8):Option (Nat×Nat):=
 (pq [115,105,103,110,101,100] b).bind λa=>(x6 [115,105,103] ([d,pub,a]:List Nat)).bind λc=>some (a,c)
theorem I7{r_:Nat}{r:Nat×Nat}(h:xh pub r_ b=some r):ba prog gl 292 [uG pub,uG r_,aE cY b] (.tup [uG r.1,uG r.2]):=by unfold xh at h;refine Gh func292 ?_;obtain⟨a,e2,h⟩:=bS h;obtain⟨c,e4,h⟩:=bS h;obtain rfl:=cP h;exact Ar [hf 9 (xd gl e2),hq 15 [sG [115,105,103],aE cW ([r_,pub,a]:List Nat)] [hc (rW.al ([r_,pub,a]:List Nat))] (ES gl e4)] []
def lq(pub:Nat)(b:List UInt8)(s:DSig):Option Bool:=
 ((iB pub 1 2305843009213693950).bind λa=>bif(!a) then(some true) else((iB s.R 1 2305843009213693950).bind λc=>bif(!c) then(some true) else((iB s.S 0 2305843009213693949).bind λd=>some (!d)))).bind λg=>bif g then(some false) else((xh pub s.R b).bind λh=>(j7 37 s.S).bind λi=>(j7 pub h.2).bind λe=>(jZ s.R e).bind λf=>some (decide ((i:Int)=(f:Int))))
theorem GF{s:DSig}{r:Bool}(h:lq pub b s=some r):ba prog gl 219 [uG pub,aE cY b,.agg (yy s)] (bG r):=by
 unfold lq at h;refine Gh func219 ?_;refine pO 11100 (s0 46 gl [(0,uG pub),(1,aE cY b),(5,.ref 0 0),(7,.clo (.func 291) [] [])] [ob 0 42 (yy s)] 1 0) [] [hc (aG 20 (.clo (.func 291) [] []) aH)] ?_;obtain⟨j,e4,h⟩:=bS h;refine Ix 11100 (s0 46 gl [(0,uG pub),(1,aE cY b),(5,.ref 0 0),(27,bG j)] [ob 0 42 (yy s)] 1 0) ?_ λkk=>?_
 .rcases bC h with⟨b5,h⟩|⟨b5,h⟩
  .rw[b5];obtain rfl:=cP h;exact Ar [] []
  .rw[b5];obtain⟨p,e7,h⟩:=bS h;obtain⟨q,e9,h⟩:=bS h;obtain⟨k,f,h⟩:=bS h;obtain⟨l,g,h⟩:=bS h;obtain rfl:=cP h;exact Ar [hf 33 (I7 gl e7),hf 38 (mX gl e9),hf 43 (mX gl f),hf 44 (j0 gl g)] []
 obtain⟨m,c,e4⟩:=bS e4;rcases bC e4 with⟨a,e4⟩|⟨a,e4⟩
 .obtain rfl:=cP e4;exact yl 11100 [hf 12 (iY gl c),hr 13 a] [] kk
 .obtain⟨n,e,e4⟩:=bS e4;rcases bC e4 with⟨d,e4⟩|⟨d,e4⟩
  .obtain rfl:=cP e4;exact yl 11100 [hf 12 (iY gl c),hr 13 a,hf 18 (iY gl e),hr 20 d] [] kk
  .obtain⟨o,i,e4⟩:=bS e4;obtain rfl:=cP e4;exact yl 11100 [hf 12 (iY gl c),hr 13 a,hf 18 (iY gl e),hr 20 d,hf 25 (iY gl i)] [] kk
def rU(o:DOp):List (Nat×Bool):=[(1,decide (o.Device≠0)),(2,decide (o.Old≠0)),(4,decide (o.Member≠0)),(8,decide (o.Role≠0)),(16,decide (0<ah o.Path)),(32,!decide (o.Epoch=⟨0,0,0⟩)),(64,decide (o.N≠0)),(128,decide (0<ah o.Body)),(256,decide (0<ah o.Refs)),(512,!decide (o.Of=⟨0,0,0⟩)),(1024,decide (0<ah o.Guards)),(2048,decide (o.Need≠0)),(4096,decide (o.Wait≠0)),(8192,decide (0<ah o.Boxes)),(16384,decide ((o.Pub:Int)≠((0:Nat):Int))),(32768,decide (0<ah o.Hist))]
def K9(q:Nat×Bool):Value×G:=(.int .i64 (.ofNat q.1),bG q.2)
def La:List (Nat×Bool)->Nat
 |[]=>0
 |q::r=>(bif q.2 then q.1 else 0)|||La r
noncomputable def WU:List Oper:=IF (bq 11100 (ai Tryz.f210))
noncomputable abbrev stP(o:DOp):St:=(s0 75 gl [(1,.ptr (aJ o) 0),(3,iG 0)] [] 0 0)
def hsP(o:DOp):List HP:=[hV 26 (dy o.Epoch ⟨0,0,0⟩ rfl),hV 41 (dy o.Of ⟨0,0,0⟩ rfl)]
theorem Zn(o:DOp):WU.filterMap (mM (iH (stP gl o) (U3 prog (bK (hsP o)) (stP gl o) WU)))=(rU o).map K9:=aH
theorem sY(h:∀q∈L,q.1<1048576){q:Value×G}(hq:q∈L.map K9):∃m b,q.1= .int .i64 (.ofNat m)/\m<1048576/\q.2=bG b:=by obtain⟨x,hx,rfl⟩:=List.mem_map.1 hq;exact⟨x.1,x.2,rfl,h x hx,rfl⟩
theorem MS(i:Nat):∀(l:List (Nat×Bool)),(La l).testBit i=true↔∃q∈l,(bif q.2 then q.1 else 0).testBit i=true
 |[]=>by simp[La]
 |q::r=>by unfold La;rw[Nat.testBit_or,Bool.or_eq_true,MS i r];simp
theorem EU(i:Nat):∀(es:oE),(Ck es).testBit i=true↔∃e∈es,(If e.1 e.2.1).testBit i=true
 |[]=>by simp[Ck]
 |e::r=>by unfold Ck;rw[Nat.testBit_or,Bool.or_eq_true,EU i r];simp
theorem IS(q:Nat×Bool):If (K9 q).1 (K9 q).2=bif q.2 then q.1 else 0:=by obtain⟨n,b⟩:=q;cases b<;>rfl
theorem Lb{es:oE}{clock:Nat}(h:MapOf (L.map K9) es clock):Ck es=La L:=by
 refine Nat.eq_of_testBit_eq λi=>?_;rw[Bool.eq_iff_iff,EU,MS];constructor
 .grind [MapOf,IS]
 .rintro⟨q,hq,hb⟩;obtain⟨n,hn⟩:=h.sup (K9 q) (List.mem_map.2 ⟨q,hq,rfl⟩);grind [IS]
abbrev O3:TypeId:=133
abbrev Sj(clock:Nat)(seen:List Nat):Option Ob:=some ⟨O3,[],some (.iter (some 0) clock seen clock)⟩
abbrev Vk(es:oE)(clock:Nat):Option Ob:=some ⟨O3,[],some (.map es clock)⟩
theorem Zo{P:Program}{t:TypeId}{b:Nat}(ha:a<1048576)(hb:b<1048576):∀p q:Operand,b8 P .or t p q (iG (a:Int)) (.lit (.int .i64 (.ofNat b)))=some (iG ((a|||b:Nat):Int)):=by grind [SS]
theorem TV(o:DOp):ba prog gl 210 [.agg (aJ o)] (iG ((La (rU o):Nat):Int)):=by
 refine Gh func210 ?_;refine pO 11100 (stP gl o) [] [hc (eB (gs:=aJ o) aH)] ?_ [] [];refine dMl O3 3 4 74 (hsP o) λes clock hM=>?_;rw[show IF (bq 11100 (ai Tryz.f210))=WU from rfl,Zn gl o] at hM;have hb:∀q∈rU o,q.1<1048576:=λq hq=>by simp only[rU,List.mem_cons,List.not_mem_nil,or_false] at hq;rcases hq with rfl|rfl|rfl|rfl|rfl|rfl|rfl|rfl|rfl|rfl|rfl|rfl|rfl|rfl|rfl|rfl<;>exact gX rfl
 have him:∀q∈es,bB q.2.1:=by grind [MapOf,sY,mN]
 have hk:∀e∈es,Wa e.1<2^20:=λe he=>by obtain⟨m,b,e1,e2,_⟩:=sY hb (hM.sub e he);have e1:e.1=_:=e1;rw[e1];exact e2
 have hlt:∀seen,iC seen es<1048576:=λseen=>Ig hk;refine dNx 11101 ?_;refine dRe (s0 75 gl [(3,iG 0),(64,.ref 1 0)] [(1,Sj clock []),(0,Vk es clock)] 2 0) [hc him] ?_ [] [(0,0),(1,1)];refine dMw 64 65 66 0 (iti:=1) (mi:=0) (clock:=clock) (since:=clock) (T:=O3) (ty:=O3) (es:=es) (λseen=>(s0 75 gl [(3,iG ((iC seen es:Nat):Int)),(64,.ref 1 0)] [(1,Sj clock seen),(0,Vk es clock)] 2 0)) (λ_=>True) trivial hM.lt rfl ?_ (λseen=>rfl) (λseen=>rfl) (by grind) (λB seen k g n _ hm hn a=>?_) (λseen _ hs=>?_)
 .rw[Ex];exact Le.refl _
 .obtain⟨m,b,e1,e2,e3⟩:=sY hb (hM.sub _ hm);have e1:k=_:=e1;have e3:g=_:=e3;subst e1 e3;have hge:jr [(1,Sj clock (seen++[n])),(1,Sj clock seen),(0,Vk es clock)] (.ref 1 0)=some (.tup [db (.int .i64 (.ofNat m)),bG b]):=yo (iti:=1) (mi:=0) (since:=clock) (clock:=clock) (T:=O3) (ty:=O3) (seen:=seen) rfl rfl hM.nd hm;have a:=a trivial;rw[Ev hn hm hM.nd] at a;cases b
  .exact jw [YT 67 hge] [hc him] (show B (s0 75 gl [(3,iG ((iC seen es:Nat):Int)),(64,.ref 1 0)] [(1,Sj clock (seen++[n])),(0,Vk es clock)] 2 0) by rw[show iC seen es|||If (.int .i64 (.ofNat m)) (bG false)=iC seen es from Nat.or_zero _] at a;exact a) [] [(0,0),(1,1)]
  .exact jw [YT 67 hge,hV 73 (Zo (P:=prog) (t:=3) (hlt seen) e2)] [hc him] a [] [(0,0),(1,1)]
 .have e:iC seen es=La (rU o):=by rw[Ew hs,Lb hM]
  rw[<-e];exact Ar [] []
def xj(n a b:Int):Bool:=decide (a<=n)&&decide (n<=b)
theorem ib(n a b:Int):FV n a b=some (xj n a b):=by grind [FV,xj]
theorem inT(n a b:Int)(h:xj n a b=true):FV n a b=some true:=by rw[ib,h]
def WV(n:Nat):Bool:=decide ((n:Int)<((2305843009213693951:Nat):Int))
def Rz(i:DIdent):Bool:=xj i.By 1 12&&(xj i.Seq 1 2147483647&&WV i.Sum)
theorem GA(n:Nat):Kq n=some (WV n):=by unfold Kq WV;rfl
theorem Zp(x y z:Bool):(((some x).bind λb=>bif b then((some y).bind λc=>bif c then((some z).bind λa=>some a) else(some false)) else(some false)).bind λd=>some d)=some (x&&(y&&z)):=by cases x<;>cases y<;>rfl
theorem pS(i:DIdent):Al i=some (Rz i):=by have h:=Zp (xj i.By 1 12) (xj i.Seq 1 2147483647) (WV i.Sum);rw[<-ib,<-ib,<-GA] at h;exact h
def Z5(n:Nat):Bool:=decide (((1:Nat):Int)<=(n:Int))&&decide ((n:Int)<((2305843009213693951:Nat):Int))
theorem Zq(y z:Bool):((bif y then(some z) else(some false)).bind λa=>some a)=some (y&&z):=by cases y<;>rfl
theorem rV(n:Nat):rJ n=some (Z5 n):=Zq _ _
def GB(o:DOp):Bool:=bif decide (o.Kind=3) then(xj o.Member 1 8&&decide (o.Device=0))||(decide (o.Member=0)&&decide (o.Device≠0)) else xj o.Member 1 8
def GH(o:DOp):Int:=bif decide (o.Kind=3) then 0 else 1
def Sk(o:DOp):Int:=bif decide (o.Kind=1) then 0 else 1
def Sl(o:DOp):Int:=bif decide (o.Kind=1) then 20 else ah o.Guards
def OC(o:DOp):List (Nat×Bool):=[(1,xj o.Device (GH o) 12),(2,xj o.Old 1 12),(4,GB o),(8,xj o.Role 1 3),(64,xj o.N 0 2147483647),(4096,xj o.Wait 0 2147483647),(2048,xj o.Need (Sk o) (Sl o)),(32,Rz o.Epoch),(512,Rz o.Of),(16384,Z5 o.Pub)]
noncomputable def RA:List Oper:=IF (bq 111111100 (ai Tryz.f211))
noncomputable abbrev Zr(o:DOp)(k:Nat):St:=(s0 136 gl [(1,iG (k:Int)),(2,.ptr (aJ o) 0),(5,iG (GH o)),(6,iG (Sk o)),(7,iG (Sl o)),(8,bG (GB o))] [] 0 0)
def hsR(o:DOp):List HP:=[hf 62 (eE gl (ib o.Device (GH o) 12)),hf 65 (eE gl (ib o.Old 1 12)),hf 69 (eE gl (ib o.Role 1 3)),hf 72 (eE gl (ib o.N 0 2147483647)),hf 75 (eE gl (ib o.Wait 0 2147483647)),hf 80 (eE gl (ib o.Need (Sk o) (Sl o))),hf 83 (pH gl (pS o.Epoch)),hf 86 (pH gl (pS o.Of)),hf 89 (iz gl (rV o.Pub))]
theorem aaY(o:DOp)(k:Nat):RA.filterMap (mM (iH (Zr gl o k) (U3 prog (bK (hsR gl o)) (Zr gl o k) RA)))=(OC o).map K9:=aH
theorem WW{P:Program}{t:TypeId}{b:Nat}(ha:a<1048576)(hb:b<1048576):∀p q:Operand,b8 P .and t p q (iG (a:Int)) (.lit (.int .i64 (.ofNat b)))=some (iG ((a&&&b:Nat):Int)):=λp q=>by have e:=V8 (P:=P) (t:=t) (a:Int) (b:Int) p q;refine Eq.trans e ?_;have h1:a&&&b<=a:=Nat.and_le_left;unfold Yn;rw[BitVec.toNat_and,BitVec.toNat_ofInt,BitVec.toNat_ofInt];grind [IntKind.bits,IntKind.wrap]
structure RgOk (o:DOp) (k:Nat):Prop where
 by_:xj o.By 1 12=true
 seq:xj o.Seq 1 2147483647=true
 at_:xj o.At 0 2147483647=true
 ents:∀q∈OC o,k&&&q.1≠0->q.2=true
 guards:tz o.Guards (λz=>uR z)=some true
 refs:tz o.Refs (λz=>Kq z)=some true
 past:tz o.Past (λz=>Al z)=some true
 path:tz o.Path (λz=>uP z)=some true
 boxes:tz o.Boxes (λz=>wB z)=some true
 hist:tz o.Hist (λz=>uQ z)=some true
theorem IT{o:DOp}(hk:k<1048576)(h:RgOk o k):ba prog gl 211 [.agg (aJ o),iG (k:Int)] (bG true):=by
 refine Gh func211 ?_;refine pO 1111100 (s0 136 gl [(1,iG (k:Int)),(2,.ptr (aJ o) 0),(5,iG 1),(6,iG 1),(7,iG (ah o.Guards)),(8,bG (xj o.Member 1 8))] [] 0 0) [hf 16 (eE gl (inT _ _ _ h.by_)),hf 21 (eE gl (inT _ _ _ h.seq)),hf 27 (eE gl (inT _ _ _ h.at_)),hf 35 (eE gl (ib o.Member 1 8))] [hc (eB (gs:=aJ o) aH)] ?_ [] [];refine Ix 111110 (s0 136 gl [(1,iG (k:Int)),(2,.ptr (aJ o) 0),(5,iG (GH o)),(6,iG 1),(7,iG (ah o.Guards)),(8,bG (GB o))] [] 0 0) ?_ λkk=>?_;rotate_left
 .unfold GH GB at kk;cases e:decide (o.Kind=3) with
  |false=>rw[e] at kk;exact yl 111110 [hr 38 e] [] kk [] []
  |true=>
   rw[e] at kk;simp only[aN] at kk;generalize hm0:xj o.Member 1 8=m0 at kk⊢;cases hD:decide (o.Device=0) with
   |false=>have hD':decide (o.Device≠0)=true:=decide_eq_true (of_decide_eq_false hD);rw[hD,hD'] at kk;cases hM:decide (o.Member=0)<;>rw[hM] at kk<;>cases m0<;>exact yl 111110 [hr 38 e,hr 43 hD,hr 48 hM,hr 52 hD'] [] kk [] []
   |true=>have hD':decide (o.Device≠0)=false:=decide_eq_false λh=>h (of_decide_eq_true hD);rw[hD,hD'] at kk;cases hM:decide (o.Member=0)<;>rw[hM] at kk<;>cases m0<;>exact yl 111110 [hr 38 e,hr 43 hD,hr 48 hM,hr 52 hD'] [] kk [] []
 refine pO 11111100 (s0 136 gl [(1,iG (k:Int)),(2,.ptr (aJ o) 0),(5,iG (GH o)),(6,iG 1),(7,iG (ah o.Guards)),(8,bG (GB o))] [] 0 0) [] [] ?_ [] [];refine Ix 1111110 (Zr gl o k) ?_ λkk=>?_;rotate_left
 .unfold Zr Sk Sl at kk;cases e:decide (o.Kind=1)<;>rw[e] at kk<;>exact yl 1111110 [hr 57 e] [] kk [] []
 refine pO 111111100 (Zr gl o k) [] [] ?_ [] [];refine dMl O3 3 4 43 (hsR gl o) λes clock hM=>?_;rw[show IF (bq 111111100 (ai Tryz.f211))=RA from rfl,aaY gl o k] at hM;have hb:∀q∈OC o,q.1<1048576:=λq hq=>by simp only[OC,List.mem_cons,List.not_mem_nil,or_false] at hq;grind
 have him:∀q∈es,bB q.2.1:=by grind [MapOf,sY,mN]
 refine dNx 111111101 ?_;refine dRe (s0 136 gl [(1,iG (k:Int)),(2,.ptr (aJ o) 0),(91,.ref 1 0)] [(1,Sj clock []),(0,Vk es clock)] 2 0) [hc him] ?_ [] [(0,0),(1,1)];refine dMw 91 92 93 0 (iti:=1) (mi:=0) (clock:=clock) (since:=clock) (T:=O3) (ty:=O3) (es:=es) (λseen=>(s0 136 gl [(1,iG (k:Int)),(2,.ptr (aJ o) 0),(91,.ref 1 0)] [(1,Sj clock seen),(0,Vk es clock)] 2 0)) (λ_=>True) trivial hM.lt rfl (Le.refl _) (λseen=>rfl) (λseen=>rfl) (by grind) (λB seen f g n _ hm hn d=>?_) (λseen _ hs=>?_)
 .have hmem:=hM.sub _ hm;obtain⟨⟨m,b⟩,hq,a⟩:=List.mem_map.1 hmem;have e1:(.int .i64 (.ofNat m):Value)=f:=congrArg Prod.fst a;have e3:bG b=g:=congrArg Prod.snd a;subst e1 e3;have hm2:m<1048576:=hb _ hq;have hent:=h.ents _ hq;dsimp only at hent;have hge:jr [(1,Sj clock (seen++[n])),(1,Sj clock seen),(0,Vk es clock)] (.ref 1 0)=some (.tup [db (.int .i64 (.ofNat m)),bG b]):=yo (iti:=1) (mi:=0) (since:=clock) (clock:=clock) (T:=O3) (ty:=O3) (seen:=seen) rfl rfl hM.nd hm;have hVa:∀p q:Operand,b8 prog .and 3 p q (iG (k:Int)) (.lit (.int .i64 (.ofNat m)))=some (iG ((k&&&m:Nat):Int)):=WW hk hm2;by_cases h0:k&&&m=0
  .exact jw [YT 94 hge,hV 99 hVa,hr 100 (show decide (((k&&&m:Nat):Int)≠0)=false from decide_eq_false aa)] [hc him] (d trivial) [] [(0,0),(1,1)]
  .obtain rfl:b=true:=hent h0;exact jw [YT 94 hge,hV 99 hVa,hr 100 (show decide (((k&&&m:Nat):Int)≠0)=true from decide_eq_true aa)] [hc him] (d trivial) [] [(0,0),(1,1)]
 .exact Ar [hz 108 [] (jf (c:=2) aH (FW gl (⟨aH,bf,eB aH,λ_ _ e=>Dw gl e⟩) h.guards) (eB aH)),
   hz 112 [] (jf (c:=2) aH (zL gl (⟨aH,bf,eB aH,λ_ _ e=>Ak gl e⟩) h.refs) (eB aH)),
   hz 117 [] (jf (c:=2) aH (Ch gl (⟨aH,bf,eB aH,λ_ _ e=>pH gl e⟩) h.past) (eB aH)),
   hz 123 [] (jf (c:=2) aH (tK gl (⟨aH,bf,eB aH,λ_ _ e=>Du gl e⟩) h.path) (eB aH)),
   hz 128 [] (jf (c:=2) aH (wA gl (⟨aH,bf,eB aH,λ_ _ e=>Cf gl e⟩) h.boxes) (eB aH)),
   hz 134 [] (jf (c:=2) aH (pY gl (⟨aH,bf,eB aH,λ_ _ e=>Dv gl e⟩) h.hist) (eB aH))] []
def nG:List Int:=[0,2064,32793,21,16,12,480,640,512,31744,8704,8705,512,33299]
def Sn(n:Nat):G:= .clo (.func n) [] []
def IU:List G:=[.lit .nilFunc,.lit .nilFunc,Sn 386,Sn 388,.lit .nilFunc,Sn 389,Sn 390,.lit .nilFunc,Sn 391,Sn 392,Sn 394,Sn 395,Sn 394,Sn 396]
def fI:List (Nat×List G):=[(1,nG.flatMap cZ),(0,IU)]
theorem WX:ArrTy prog 277 3 14 1:=⟨aH,aH,aH⟩
theorem kIx{i x:Int}(h:aS nG i=some x):fh prog 277 (.ptr (nG.flatMap cZ) 0) i=some (.ptr (nG.flatMap cZ) (i.toNat*1)):=WX.ix h rfl
structure ChkOk (o:DOp) (kk:Nat):Prop where
 lo:decide (o.Kind<1)=false
 hi:decide (13<o.Kind)=false
 kind:aS nG o.Kind=some (kk:Int)
 kb:kk<1048576
 bits:wH ((La (rU o):Nat):Int) (kk:Int)=0
 rg:RgOk o kk
 long:FX o=some false
 nPast:o.Past.length<=1000000
 nGuards:o.Guards.length<=1000000
 past:∀(k:Nat) (a b:DIdent),o.Past[k]?=some a->o.Past[k+1]?=some b->pE a b=some true
 guards:∀(k:Nat) (a b:Int),o.Guards[k]?=some a->o.Guards[k+1]?=some b->a<b
 create:decide (ah o.Past=0)=decide (o.Kind=1)
def Lc(l:List DIdent)(i:Int):Option (Int⊕Unit):=bif decide (i<wI (ah l-1)) then(aS l i).bind λa=>(aS l (wI (i+1))).bind λb=>(pE a b).bind λv=>bif v then some (.inl (wI (i+1))) else none else some (.inr ())
def Ld(l:List Int)(i:Int):Option (Int⊕Unit):=bif decide (i<wI (ah l-1)) then(aS l i).bind λa=>(aS l (wI (i+1))).bind λb=>bif decide (a<b) then some (.inl (wI (i+1))) else none else some (.inr ())
theorem Zs{o:DOp}(h:ChkOk o kk):bo (Lc o.Past) 0=some ():=by
 have hn:=h.nPast;have hw:wI (ah o.Past-1)=(o.Past.length:Int)-1:=by grind [bM,ah]
 refine T.eq (T.loop (λi=>∃k:Nat,i=(k:Int)/\k<=o.Past.length) (λi=>o.Past.length-i.toNat) ⟨0,rfl,aa⟩ (by show o.Past.length-_<_;omega) ?_);rintro i ⟨k,rfl,hk⟩;unfold Lc;rw[hw];refine .dec (λhh=>?_) λhh=> .some rfl;have h1:k<o.Past.length:=aa;have h2:k+1<o.Past.length:=aa;have ew:wI ((k:Int)+1)=((k+1:Nat):Int):=aq aa;refine .bind (.ix aa (x:=o.Past[k]) (by rw[Int.toNat_natCast,fy h1]) (.bind (.ix (by rw[ew];omega) (x:=o.Past[k+1]) (by rw[ew,Int.toNat_natCast,fy h2]) (.eqb (h.past k _ _ (fy h1) (fy h2)) (.some ⟨⟨k+1,ew,aa⟩,?_⟩)))));grind
theorem Zt{o:DOp}(h:ChkOk o kk):bo (Ld o.Guards) 0=some ():=by
 have hn:=h.nGuards;have hw:wI (ah o.Guards-1)=(o.Guards.length:Int)-1:=by grind [bM,ah]
 refine T.eq (T.loop (λi=>∃k:Nat,i=(k:Int)/\k<=o.Guards.length) (λi=>o.Guards.length-i.toNat) ⟨0,rfl,aa⟩ (by show o.Guards.length-_<_;omega) ?_);rintro i ⟨k,rfl,hk⟩;unfold Ld;rw[hw];refine .dec (λhh=>?_) λhh=> .some rfl;have h1:k<o.Guards.length:=aa;have h2:k+1<o.Guards.length:=aa;have ew:wI ((k:Int)+1)=((k+1:Nat):Int):=aq aa;refine .bind (.ix aa (x:=o.Guards[k]) (by rw[Int.toNat_natCast,fy h1]) (.bind (.ix (by rw[ew];omega) (x:=o.Guards[k+1]) (by rw[ew,Int.toNat_natCast,fy h2]) ?_)));rw[decide_eq_true (h.guards k _ _ (fy h1) (fy h2)),aN];refine .some ⟨⟨k+1,ew,aa⟩,?_⟩;grind
theorem IW{o:DOp}(h:ChkOk o kk):ba prog fI 125 [.agg (aJ o)] (iG 0):=by
 refine Gh func125 ?_;refine pO 111100 (s0 93 fI [(1,.ptr (aJ o) 0),(3,bG true)] [] 0 0) [hr 8 h.lo,hr 12 h.hi,hf 16 (TV fI o),bR 19 (kIx h.kind),bR 20 (rZ.p1Z tZ h.kind),hV 21 (NW (P:=prog) (t:=3) ((La (rU o):Nat):Int) (kk:Int)),hr 22 (show decide (wH ((La (rU o):Nat):Int) (kk:Int)≠0)=false from decide_eq_false λe=>e h.bits)] [hc (eB (gs:=aJ o) aH)] ?_ [] [];refine Ix 111101 (s0 93 fI [(1,.ptr (aJ o) 0),(3,bG true)] [] 0 0) ?_ λkk1=>?_;rotate_left
 .refine pN (λi:Int=>(s0 93 fI [(1,.ptr (aJ o) 0),(3,bG true),(27,iG (wI (ah o.Past-1))),(28,iG i)] [] 0 0)) 11110122 (Zs h) [] [] (λB i w hs k5 c=>?_) [] [];unfold Lc at hs;rcases bC hs with⟨b1,hs⟩|⟨b1,hs⟩
  .obtain⟨a,ea,hs⟩:=bS hs;obtain⟨b,eb,hs⟩:=bS hs;obtain⟨v,ev,hs⟩:=bS hs;cases v
   .cases hs
   .obtain rfl:=cP hs;exact jw [hr 29 b1,bR 36 (ac.ixZ ea),bR 37 (ac.ptZ aW ea),bR 42 (ac.ixZ eb),bR 43 (ac.ptZ aW eb),hf 44 (sF fI ev)] [] (k5 _ rfl) [] []
  .obtain rfl:=cP hs;exact yl 111101 [hr 29 b1] [] kk1 [] []
 refine pO 1111100 (s0 93 fI [(1,.ptr (aJ o) 0),(3,bG true)] [] 0 0) [] [] ?_ [] [];refine Ix 1111101 (s0 93 fI [(1,.ptr (aJ o) 0),(3,bG true)] [] 0 0) ?_ λkk1=>?_;rotate_left
 .refine pN (λi:Int=>(s0 93 fI [(1,.ptr (aJ o) 0),(3,bG true),(50,iG (wI (ah o.Guards-1))),(51,iG i)] [] 0 0)) 111110122 (Zt h) [] [] (λB i w hs k5 c=>?_) [] [];unfold Ld at hs;rcases bC hs with⟨b1,hs⟩|⟨b1,hs⟩
  .obtain⟨a,ea,hs⟩:=bS hs;obtain⟨b,eb,hs⟩:=bS hs;rcases bC hs with⟨b2,hs⟩|⟨b2,hs⟩
   .obtain rfl:=cP hs;exact jw [hr 52 b1,bR 59 (rZ.ixZ ea),bR 60 (rZ.p1Z tZ ea),bR 65 (rZ.ixZ eb),bR 66 (rZ.p1Z tZ eb),hr 67 b2] [] (k5 _ rfl) [] []
   .cases hs
  .obtain rfl:=cP hs;exact yl 1111101 [hr 52 b1] [] kk1 [] []
 have hc:=h.create;cases e:decide (o.Kind=1) with
 |false=>rw[e] at hc;exact Ar [bR 74 (kIx h.kind),bR 75 (rZ.p1Z tZ h.kind),hf 76 (IT fI h.kb h.rg),hf 80 (Es fI h.long),hr 88 hc,hr 91 e] []
 |true=>rw[e] at hc;exact Ar [bR 74 (kIx h.kind),bR 75 (rZ.p1Z tZ h.kind),hf 76 (IT fI h.kb h.rg),hf 80 (Es fI h.long),hr 88 hc,hr 91 e] []
theorem sc1{b:Nat}(h1:a<=n)(h2:n<=b):iB n a b=some true:=by grind [iB]
theorem TW{s:DSig}(hb:b.length<=1073741824)(h:jJ pub b s=some true):lq pub b s=some true:=by
 unfold jJ at h;obtain⟨g,hj,h⟩:=bS h;rcases bC h with⟨rfl,h⟩|⟨rfl,h⟩
 .cases h
 rcases bC hj with⟨c1,hj⟩|⟨c1,hj⟩
 .cases hj
 rw[show fV=some 2305843009213693950 from rfl,aL] at hj;rcases bC hj with⟨c2,hj⟩|⟨c2,hj⟩
 .cases hj
 rcases bC hj with⟨c3,hj⟩|⟨c3,hj⟩
 .cases hj
 rw[aL] at hj;rcases bC hj with⟨c4,hj⟩|⟨c4,hj⟩
 .cases hj
 rw[aL] at hj;have c5:=cP hj;have c1:=of_decide_eq_false c1;have c2:=of_decide_eq_false c2;have c3:=of_decide_eq_false c3;have c4:=of_decide_eq_false c4;have c5:=of_decide_eq_false c5;obtain⟨i,h4,h⟩:=bS h;obtain⟨j,h6,h⟩:=bS h;obtain⟨k,h8,h⟩:=bS h;obtain⟨d,h10,h⟩:=bS h;have hpow:∀{a n r:Nat},n<18446744073709551616->iK a n=some r->r<2305843009213693951:=λhn e=>by obtain⟨q,e1,e2⟩:=ka _ hn;rw[e] at e1;cases e1;exact e2
 unfold lq;rw[sc1 aa aa,aL];simp only[Bool.not_true,cG];rw[sc1 aa aa,aL];simp only[Bool.not_true,cG];rw[sc1 aa aa,aL];simp only[Bool.not_true,aL,cG];unfold Pi at h6;obtain⟨m,hm,h6⟩:=bS h6;obtain⟨e,he,h6⟩:=bS h6;cases h6;unfold Ph at hm;have hm':jI [115,105,103,110,101,100] b=some m:=by simp_all
 obtain⟨m2,f1,f2,o⟩:=xe (label:=[115,105,103,110,101,100]) (b:=b) dL hb;obtain rfl:m2=m:=cP (f2.symm.trans hm');obtain⟨e2,g1,g2,c⟩:=ET (label:=[115,105,103]) (l:=[s.R,pub,m2]) dL aC λw hw=>by simp only[List.mem_cons,List.not_mem_nil,or_false] at hw;rcases hw with rfl|rfl|rfl<;>omega
 rw[he] at g2;cases g2;unfold xh;rw[f1,aL,g1,aL,aL,nf dL aa h4,aL];dsimp only;rw[nf aa c h8,aL];have f:=hpow c h8;rw[vS aa aa,aL];rw[ll] at h10;cases h10;exact h
section
attribute [local irreducible] qc
theorem OD{o:DOp}(ho:SmOp o)(hb:o.By=c.Device)(h:lq c.Sign (qc o) o.Sig=some true):ba prog gl 128 [.agg (bv c),.agg (aJ o)] (bG true):=by
 have a:=yY ho;have e:decide (o.By=c.Device)=true:=decide_eq_true hb;refine Gh func128 ?_;refine pO [1,0] (s0 20 gl [(2,.ptr (bv c) 0),(3,.ptr (aJ o) 0)] [] 0 0) [] [hc (eB (gs:=bv c) aH),hc (eB (gs:=aJ o) aH)] ?_ [] [];exact Ar [hr 9 e,tN 14 [] 0 [] [.agg (aJ o)] [(0,oO 1 (qc o)),(1,oY (qc o))] (MP gl ho) trivial ⟨⟨rfl,.inl rfl⟩,⟨rfl,.inr ⟨rfl,rY.imm _⟩⟩,trivial⟩,
  tN 15 [0,1] 2 [(0,oO 1 (qc o)),(1,oY (qc o))] [.ref 0 0] [(0,oO 1 (qc o)),(1,oY (qc o)),(2,oY (qc o))] (rS gl (l:=qc o) aa) ⟨⟨rfl,.inl rfl⟩,⟨rfl,.inr ⟨rfl,rY.imm _⟩⟩,trivial⟩ ⟨⟨rfl,.inl rfl⟩,⟨rfl,.inr ⟨rfl,rY.imm _⟩⟩,⟨rfl,.inr ⟨rfl,rY.imm _⟩⟩,trivial⟩,
  hq 18 [uG c.Sign,aE cY (qc o),.agg (yy o.Sig)] [hc (rY.al (qc o))] (GF gl h)] []
end
def blT:List Nat:=[0,1,2,2,3,3,3,3,4,4,4,4,4,4,4,4,5,5,5,5,5,5,5,5,5,5,5,5,5,5,5,5]
def WZ(n:Nat):Nat:=blT.getD n 0
theorem RB(h:n<32):ba prog gl 231 [uG (n:Int)] (iG (WZ n:Int)):=by have e:n=0\/n=1\/n=2\/n=3\/n=4\/n=5\/n=6\/n=7\/n=8\/n=9\/n=10\/n=11\/n=12\/n=13\/n=14\/n=15\/n=16\/n=17\/n=18\/n=19\/n=20\/n=21\/n=22\/n=23\/n=24\/n=25\/n=26\/n=27\/n=28\/n=29\/n=30\/n=31:=aa;rcases e with rfl|rfl|rfl|rfl|rfl|rfl|rfl|rfl|rfl|rfl|rfl|rfl|rfl|rfl|rfl|rfl|rfl|rfl|rfl|rfl|rfl|rfl|rfl|rfl|rfl|rfl|rfl|rfl|rfl|rfl|rfl|rfl<;>(refine Gh func231 ?_;exact Ar [] [])
theorem RC{n:Nat}(h:n<32):ba prog gl 138 [uG (n:Int)] (iG (WZ n:Int)):=by refine Gh func138 ?_;exact Ar [hf 7 (RB gl h)] []
def Lf(l:List DCard)(i:Int):Option (Int⊕Unit):=bif decide (i<ah l) then(aS l i).bind λa=>(aS l (wI (i-1))).bind λb=>bif decide (0<i)&& !decide (wI (a.Device-b.Device)<0) then some (.inl (wI (i+1))) else none else some (.inr ())
def aa3(_:Unit):Option (Unit⊕Unit):=some (.inr ())
theorem Lg:bo aa3 ()=some ():=T.eq (T.loop (λ_=>True) (λ_=>0) trivial dL λ_ _=> .some rfl)
abbrev oC(l:List DCard):Option Ob:=some ⟨106,l.flatMap bv,none⟩
abbrev zP:G:= .clo (.func 124) [] []
def xf(l:List DCard):Prop:=l.length<=12/\∀(k:Nat) (a b:DCard),l[k]?=some a->l[k+1]?=some b->a.Device<=b.Device/\0<=a.Device/\b.Device<=1000000
theorem Zw{l:List DCard}(h:xf l):bo (Lf l) (wI (0+1))=some ():=by
 have hn:=h.1;refine T.eq (T.loop (λi=>∃k:Nat,i=((k+1:Nat):Int)/\k<=12) (λi=>14-i.toNat) ⟨0,rfl,aa⟩ (by show 14-_<_;omega) ?_);rintro i ⟨k,rfl,hk⟩;unfold Lf;refine .dec (λhh=>?_) λhh=> .some rfl;unfold ah at hh;have h1:k<l.length:=aa;have h2:k+1<l.length:=aa;have ew:wI (((k+1:Nat):Int)+1)=((k+1+1:Nat):Int):=aq aa;have em:wI (((k+1:Nat):Int)-1)=(k:Int):=by grind [bM]
 obtain⟨q1,a,b⟩:=h.2 k _ _ (fy h1) (fy h2);refine .bind (.ix aa (x:=l[k+1]) (by rw[Int.toNat_natCast,fy h2]) (.bind (.ix (by rw[em];omega) (x:=l[k]) (by rw[em,Int.toNat_natCast,fy h1]) ?_)));rw[bM (z:=l[k+1].Device-l[k].Device) aa aa,decide_eq_true (by grind),decide_eq_false (by grind)];refine .some ⟨⟨k+1,ew,aa⟩,?_⟩;grind
theorem OE{l:List DCard}(h:xf l):OU prog gl 267 [.rsl 0 0 l.length,iG 0,iG (ah l),zP] [(0,oC l)] 1 1 (.tup []) [(0,oC l)]:=by
 refine ZU func267 ?_ (λi hi=>by match i,hi with|0,_=>exact⟨_,rfl⟩);refine pN (λi:Int=>(s0 53 gl [(0,.rsl 0 0 l.length),(1,iG 0),(2,iG (ah l)),(3,zP),(8,iG i)] [(0,oC l)] 1 1)) 1122 (Zw h) [] [hc (el l),hc (aG 20 zP aH),hc (bT.imm l)] (λB i w hs k5 c=>?_) [] [(0,0)] [(0,.row)];unfold Lf at hs;rcases bC hs with⟨b1,hs⟩|⟨b1,hs⟩
 .obtain⟨a,ea,hs⟩:=bS hs;obtain⟨b,eb,hs⟩:=bS hs;rcases bC hs with⟨b2,hs⟩|⟨b2,hs⟩
  rotate_left
  .cases hs
  obtain rfl:=cP hs;simp only[bA,Bool.not_eq_true'] at b2;refine Ix 11221021 (s0 53 gl [(0,.rsl 0 0 l.length),(1,iG 0),(2,iG (ah l)),(3,zP),(8,iG i)] [(0,oC l)] 1 1) ?_ λkk=>?_
  .exact jw [] [hc (el l),hc (aG 20 zP aH),hc (bT.imm l)] (k5 _ rfl) [] [(0,0)] [(0,.row)]
  refine pN (λ_:Unit=>(s0 53 gl [(0,.rsl 0 0 l.length),(1,iG 0),(2,iG (ah l)),(3,zP),(8,iG i),(9,iG i)] [(0,oC l)] 1 1)) 1122102122 Lg [hr 14 b1] [hc (el l),hc (aG 20 zP aH),hc (bT.imm l)] (λd z v hz2 e f=>?_) [] [(0,0)] [(0,.row)];exact yl 11221021 [hr 20 b2.1,bR 25 (bT.ixrZ 0 ea),bR 26 (bT.pt0Z E2 ea),bR 30 (bT.ixrZ 0 eb),bR 31 (bT.pt0Z E2 eb),hf 32 (Dt gl (a:=a) (b:=b) rfl),hr 33 b2.2] [hc (el l),hc (aG 20 zP aH),hc (bT.imm l)] kk [] [(0,0)] [(0,.row)]
 .exact ZT [hr 14 b1] [hc (bT.imm l)] [(0,0)] [(0,.row)]
theorem zr{gs gs0:List G}{g0:G}{i:Nat}(h:CI i gs gs0)(hg:nF 20 g0=true:=by kernel_rfl):CI i (g0::gs) (g0::gs0):=CJ (aG 20 _ hg) h
theorem OF{l:List DCard}(h:xf l)(k:Int):OU prog gl 209 [.rsl 0 0 l.length,iG 0,iG (ah l),iG k,zP] [(0,oC l)] 1 1 (.tup []) [(0,oC l)]:=by
 have e:wI (ah l-0)=ah l:=by have:=h.1;grind [bM,ah]
 have hd:decide (wI (ah l-0)<=12)=true:=by rw[e];exact decide_eq_true (by have:=h.1;unfold ah;omega)
 refine ZU func209 ?_ (λi hi=>by match i,hi with|0,_=>exact⟨_,rfl⟩);refine pN (λ_:Unit=>(s0 148 gl [(0,.rsl 0 0 l.length),(1,iG 0),(2,iG (ah l)),(3,iG k),(4,zP)] [(0,oC l)] 1 1)) 11122 Lg [] [hc (el l),hc (aG 20 zP aH),hc (bT.imm l)] (λa z v hz2 b d=>?_) [] [(0,0)] [(0,.row)];exact ZT [hr 25 hd,hz 30 [0] (wS (i:=0) (c:=1) aH (OE gl h) (aG 20 _ aH) (bT.imm l) dL (by rfl) (w5 (zr (zr (zr wZ)))))] [hc (bT.imm l)] [(0,0)] [(0,.row)]
theorem Lh{l:List DCard}(h:xf l):OU prog gl 123 [.rsl 0 0 l.length,zP] [(0,oC l)] 1 1 (.tup []) [(0,oC l)]:=by
 have e:wU (ah l)=l.length:=by have:=h.1;unfold ah;rw[gP];omega
 have hl:ba prog gl 138 [uG (wU (ah l):Int)] (iG (WZ l.length:Int)):=by rw[e];exact RC gl (by have:=h.1;omega)
 refine ZU func123 ?_ (λi hi=>by match i,hi with|0,_=>exact⟨_,rfl⟩);exact ZT [bR 10 (C8 (ah l)),hf 11 hl,hz 13 [0] (wS (i:=0) (c:=1) aH (OF gl h (WZ l.length:Int)) (aG 20 _ aH) (bT.imm l) dL (by rfl) (w5 (zr (zr (zr (zr wZ))))))] [hc (bT.imm l)] [(0,0)] [(0,.row)]
abbrev oe(l:List Int):Option Ob:=some ⟨3,l.flatMap cZ,none⟩
def I4(s:List Int×Int):Option ((List Int×Int)⊕(List Int)):=
 bif decide (0<s.2) then(aS s.1 s.2).bind λa=>(aS s.1 (wI (s.2-1))).bind λb=>bif decide (a<b) then(ji s.1 s.2 b).bind λc=>(ji c (wI (s.2-1)) a).bind λd=>some (.inl (d,wI (s.2-1))) else some (.inr s.1) else some (.inr s.1)
def Nr(n:Int)(s:List Int×Int):Option ((List Int×Int)⊕(List Int)):=
 bif decide (s.2<n) then(bo I4 (s.1,s.2)).bind λl=>some (.inl (l,wI (s.2+1))) else some (.inr s.1)
def R3(l:List Int):Option (List Int):=bo (Nr (ah l)) (l,wI (0+1))
theorem Y4(a b:Int):ba prog gl 312 [iG a,iG b] (bG (decide (a<b))):=DV gl (by unfold BX g7;simp)
theorem agm{l c d:List Int}{i j a b:Int}(h1:ji l i b=some c)(h2:ji c j a=some d):fh prog 22 (.rsl 0 0 l.length) j=some (.ref 0 (0+j.toNat*1)):=by rw[hZ h1];exact rZ.ixsZ 0 h2
theorem Y5{l r:List Int}(h:R3 l=some r):jg prog gl 306 [.rsl 0 0 l.length,iG 0,iG (ah l)] [(0,oe l)] 1 (.tup []) [(0,oe r)] 1:=by
 unfold R3 at h;refine pP func306 ?_;refine pN (λs:List Int×Int=>(s0 49 gl [(0,.rsl 0 0 s.1.length),(1,iG 0),(2,iG (ah l)),(6,iG s.2)] [(0,oe s.1)] 1 1)) 1122 h [] [hc (el l),hc (rZ.imm l)] (λB s w hs k5 f=>?_) [] [(0,0)] [(0,.row)];obtain⟨l1,i⟩:=s;unfold Nr at hs;dsimp only at hs;rcases bC hs with⟨b1,hs⟩|⟨b1,hs⟩
 .obtain⟨l2,e2,hs⟩:=bS hs;obtain rfl:=cP hs;refine Ix 11221021 (s0 49 gl [(0,.rsl 0 0 l2.length),(1,iG 0),(2,iG (ah l)),(6,iG i)] [(0,oe l2)] 1 1) ?_ λkk=>?_
  .exact jw [] [hc (el l2),hc (rZ.imm l2)] (k5 _ rfl) [] [(0,0)] [(0,.row)]
  refine pN (λs:List Int×Int=>(s0 49 gl [(0,.rsl 0 0 s.1.length),(1,iG 0),(2,iG (ah l)),(6,iG i),(7,iG s.2)] [(0,oe s.1)] 1 1)) 1122102122 e2 [hr 12 b1] [hc (el l1),hc (rZ.imm l1)] (λm z v hz g d=>?_) [] [(0,0)] [(0,.row)];obtain⟨l3,j⟩:=z;unfold I4 at hz;dsimp only at hz;rcases bC hz with⟨b2,hz⟩|⟨b2,hz⟩
  .obtain⟨a,ea,hz⟩:=bS hz;obtain⟨b,eb,hz⟩:=bS hz;have c:=Y4 gl a b;rcases bC hz with⟨b3,hz⟩|⟨b3,hz⟩
   .obtain⟨k,e1,hz⟩:=bS hz;obtain⟨e,e3,hz⟩:=bS hz;obtain rfl:=cP hz;rw[b3] at c;exact jw [hr 18 b2,bR 22 (rZ.ixrZ 0 ea),bR 23 (rZ.p10Z tZ ea),bR 27 (rZ.ixrZ 0 eb),bR 28 (rZ.p10Z tZ eb),hf 29 c,bR 41 (rZ.ixrZ 0 eb),bR 42 (rZ.p10Z tZ eb),bR 45 (rZ.ixrZ 0 ea),bR 46 (rZ.p10Z tZ ea),bR 47 (rZ.ixsZ 0 e1),hw 47 (k.flatMap cZ) (rZ.putZ e1),bR 48 (agm e1 e3),hw 48 (e.flatMap cZ) (rZ.putZ e3)] [hc ((hZ e1).trans (hZ e3)),hc (rZ.imm e)] (g _ rfl) [] [(0,0)] [(0,.row)]
   .obtain rfl:=cP hz;obtain rfl:=d _ rfl;rw[b3] at c;exact yl 11221021 [hr 18 b2,bR 22 (rZ.ixrZ 0 ea),bR 23 (rZ.p10Z tZ ea),bR 27 (rZ.ixrZ 0 eb),bR 28 (rZ.p10Z tZ eb),hf 29 c] [hc (el l3),hc (rZ.imm l3)] kk [] [(0,0)] [(0,.row)]
  .obtain rfl:=cP hz;obtain rfl:=d _ rfl;exact yl 11221021 [hr 18 b2] [hc (el l3),hc (rZ.imm l3)] kk [] [(0,0)] [(0,.row)]
 .obtain rfl:=cP hs;obtain rfl:=f _ rfl;exact mt .normal (s0 49 gl [] [(0,oe l1)] 1 1) [] [hr 12 b1] [hc (rZ.imm l1)] (ρ:=[(0,0)]) (kd:=[(0,.row)])
theorem Y6{l r:List Int}(hl:l.length<=12)(h:R3 l=some r)(k:Int):jg prog gl 249 [.rsl 0 0 l.length,iG 0,iG (ah l),iG k] [(0,oe l)] 1 (.tup []) [(0,oe r)] 1:=by
 have e:wI (ah l-0)=ah l:=by grind [bM,ah]
 have hd:decide (wI (ah l-0)<=12)=true:=by grind [ah]
 refine pP func249 ?_;refine pN (λ_:Unit=>(s0 134 gl [(0,.rsl 0 0 l.length),(1,iG 0),(2,iG (ah l)),(3,iG k)] [(0,oe l)] 1 1)) 11122 Lg [] [hc (el l),hc (rZ.imm l)] (λa z v hz2 b c=>?_) [] [(0,0)] [(0,.row)];exact mt .ret (s0 134 gl [] [(0,oe r)] 1 1) [] [hr 23 hd,tN 27 [0] 1 [(0,oe l)] [.rsl 0 0 l.length,iG 0,iG (ah l)] [(0,oe r)] (Y5 gl h) ⟨⟨rfl,.inr ⟨rfl,rZ.imm l⟩⟩,trivial⟩ ⟨⟨rfl,.inr ⟨rfl,rZ.imm r⟩⟩,trivial⟩] [hc (rZ.imm r)] (ρ:=[(0,0)]) (kd:=[(0,.row)])
theorem vX{l r:List Int}(hl:l.length<=12)(h:R3 l=some r):jg prog gl 163 [.rsl 0 0 l.length] [(0,oe l)] 1 (.tup []) [(0,oe r)] 1:=by
 have e:wU (ah l)=l.length:=by unfold ah;rw[gP];omega
 have hb:ba prog gl 138 [uG (wU (ah l):Int)] (iG (WZ l.length:Int)):=by rw[e];exact RC gl aa
 refine pP func163 ?_;exact mt .normal (s0 11 gl [] [(0,oe r)] 1 1) [] [bR 8 (C8 (ah l)),hf 9 hb,tN 10 [0] 1 [(0,oe l)] [.rsl 0 0 l.length,iG 0,iG (ah l),iG (WZ l.length:Int)] [(0,oe r)] (Y6 gl hl h (WZ l.length:Int)) ⟨⟨rfl,.inr ⟨rfl,rZ.imm l⟩⟩,trivial⟩ ⟨⟨rfl,.inr ⟨rfl,rZ.imm r⟩⟩,trivial⟩] [hc (rZ.imm r)] (ρ:=[(0,0)]) (kd:=[(0,.row)])
theorem Ux{A B:List α}{x:α}:(A++x::B)[A.length]?=some x:=aC
def vY(l:List Int):Prop:=l.Pairwise λa b=>a<=b
theorem Uy{S R:List Int}{x:Int}(hn:(S++x::R).length<=1000)(hs:vY S):T (bo I4 (S++x::R,(S.length:Int))) λr=>∃S',r=S'++R/\S'.length=S.length+1/\vY S'/\S'.Perm (x::S):=by
 have hl:S.length+R.length+1<=1000:=by simp at hn;omega
 refine T.loop (λs=>∃b a,s.1=b++x::(a++R)/\s.2=(b.length:Int)/\S=b++a/\∀y∈a,x<=y) (λs=>s.2.toNat) ⟨S,[],rfl,rfl,aC,aC⟩ (by show((S.length:Int)).toNat<_;omega) ?_;rintro⟨l,j⟩ ⟨b,a,e1,e2,e3,e4⟩;dsimp only at e1 e2;subst e1 e2 e3;have fin:(∀y∈b,y<=x)->∃S',b++x::(a++R)=S'++R/\S'.length=(b++a).length+1/\vY S'/\S'.Perm (x::(b++a)):=λh=>by refine⟨b++x::a,aC,by simp;omega,?_,List.perm_middle⟩;grind [vY,List.pairwise_cons]
 unfold I4;dsimp only;rcases List.eq_nil_or_concat b with rfl|⟨A,y,rfl⟩
 .rw[decide_eq_false aC,cG];exact .some (fin aC)
 .have hA:((A++[y]).length:Int)=((A.length+1:Nat):Int):=aC;have hAl:A.length<=1000:=by simp at hl;omega
  have ew:wI (((A.length+1:Nat):Int)-1)=(A.length:Int):=by grind [bM]
  rw[List.concat_eq_append] at*;rw[hA,decide_eq_true aa,aN,au,ew,au];have eq1:A++[y]++x::(a++R)=A++y::x::(a++R):=aC;have g1:(A++[y]++x::(a++R))[A.length+1]?=some x:=by simp
  have g2:(A++[y]++x::(a++R))[A.length]?=some y:=by rw[eq1];exact Ux
  rw[g1,g2];simp only[aL];refine .dec (λc=>?_) λh=> .some (fin λz hz=>?_)
  .have s1:ji (A++[y]++x::(a++R)) ((A.length+1:Nat):Int) y=some (A++[y]++y::(a++R)):=by unfold ji;rw[if_pos ⟨aa,aC⟩,Int.toNat_natCast];simp_all
   have s2:ji (A++[y]++y::(a++R)) (A.length:Int) x=some (A++x::(y::a++R)):=by unfold ji;simp_all
   rw[s1,aL,s2,aL];refine .some ⟨⟨A,y::a,rfl,rfl,aC,λz hz=>?_⟩,?_⟩
   .grind
   simp_all
  .have hyx:y<=x:=aa;rcases List.mem_append.1 hz with hz|hz
   .have hs':=hs;unfold vY at hs';rw[List.append_assoc,List.pairwise_append] at hs';exact Int.le_trans (hs'.2.2 z hz y aC) hyx
   grind
theorem Pp{l:List Int}(hn:l.length<=1000):T (R3 l) λr=>r.Perm l/\vY r:=by
 unfold R3;refine T.loop (λs=>∃S R,s.1=S++R/\vY S/\(S++R).Perm l/\((S.length:Int)=s.2\/(l=[]/\S=[]/\R=[]/\s.2=1))) (λs=>1002-s.2.toNat) ?_ (by show 1002-_<_;omega) ?_
 .cases l with
  |nil=>exact⟨[],[],rfl,.nil,.refl _,.inr ⟨rfl,rfl,rfl,rfl⟩⟩
  |cons a r=>exact⟨[a],r,rfl,List.pairwise_singleton _ _,.refl _,.inl rfl⟩
 rintro⟨l1,i⟩ ⟨S,R,e1,e2,e3,e4⟩;dsimp only at e1 e4;subst e1;have hlen:=e3.length_eq;unfold Nr;dsimp only;refine .dec (λhlt=>?_) λhge=> .some ⟨e3,?_⟩
 .unfold ah at hlt;rcases e4 with rfl|⟨rfl,rfl,rfl,rfl⟩
  rotate_left
  .simp at hlt
  cases R with
  |nil=>simp at hlen;omega
  |cons x R=>refine .bind ((Uy (by rw[hlen];exact hn) e2).mono λr ⟨S',b,d,c,r4⟩=> .some ⟨⟨S',R,b,c,?_,.inl ?_⟩,?_⟩);all_goals grind [bM]
 .unfold ah at hge;rcases e4 with rfl|⟨rfl,rfl,rfl,rfl⟩
  .have:R=[]:=List.eq_nil_of_length_eq_zero (by simp at hlen;omega);subst this;simpa using e2
  .exact .nil
theorem Pr{ks:List Int}(hs:vY srt)(hp:ks.Perm srt)(hn:srt.length<=1000):R3 ks=some srt:=by obtain⟨r,e,p,s⟩:=Pp (l:=ks) (by rw[hp.length_eq];exact hn);rw[e];refine congrArg some ?_;refine List.Perm.eq_of_pairwise (le:=λa b=>a<=b) (λa b _ _ h1 h2=>?_) s hs (p.trans hp);exact Int.le_antisymm h1 h2
def Q6{K V:Type}(m:FM K V)(seen:List Nat):List K:=seen.filterMap λn=>(m.es.find? λe=>Nat.beq e.2.2 n).map (·.1)
theorem Ps(hm:FxOk m){seen:List Nat}(he:e∈m.es):Q6 m (seen++[e.2.2])=Q6 m seen++[e.1]:=by
 unfold Q6;rw[List.filterMap_append];have:∀{es:List (K×V×Nat)},(es.map (·.2.2)).Nodup->e∈es->es.find? (λx=>Nat.beq x.2.2 e.2.2)=some e:=by
  intro es;induction es with
  |nil=>intro _ h;cases h
  |cons x r ih=>
   intro hd h;rw[List.map_cons,List.nodup_cons] at hd;rcases List.mem_cons.1 h with rfl|h
   .simp
   grind [bc]
 simp[this hm.nd he]
def UA{K V:Type}(m:FM K V)(seen:List Nat):Prop:=seen.Nodup/\∀n∈seen,n∈m.es.map (·.2.2)
theorem xF{l m:List Nat}(hd:l.Nodup)(hs:∀x∈l,x∈m):l.length<=m.length:=by
 induction l generalizing m with
 |nil=>exact Nat.zero_le _
 |cons a r ih=>rw[List.nodup_cons] at hd;have ha:=hs a aC;have:=ih (m:=m.erase a) hd.2 λx hx=>(List.mem_erase_of_ne (λe:x=a=>hd.1 (by rw[<-e];exact hx))).2 (hs x (by simp[hx]));grind
theorem Pt{seen:List Nat}(h:UA m seen):(Q6 m seen).length<=m.es.length:=by have h1:=xF h.1 h.2;grind [Q6]
theorem I6:UA m []:=⟨.nil,aC⟩
theorem I9{seen:List Nat}(h:UA m seen)(he:e∈m.es)(hn:e.2.2∉seen):UA m (seen++[e.2.2]):=by
 refine⟨?_,λn hx=>?_⟩
 .rw[List.nodup_append];exact⟨h.1,aC,(by grind)⟩
 .rcases List.mem_append.1 hx with hx|hx
  .exact h.2 n hx
  grind
theorem UB(hm:FxOk m)(h:UA m seen)(ha:∀e∈m.es,e.2.2∈seen):(Q6 m seen).Perm (m.es.map (·.1)):=by
 have hp:seen.Perm (m.es.map (·.2.2)):=(List.perm_ext_iff_of_nodup h.1 hm.nd).2 λn=>⟨h.2 n,(by grind)⟩;have h1:(Q6 m seen).Perm (Q6 m (m.es.map (·.2.2))):=hp.filterMap _;have h2:∀es:List (K×V×Nat),(∀e∈es,e∈m.es)->Q6 m (es.map (·.2.2))=es.map (·.1):=by
  intro es;induction es with
  |nil=>intro _;rfl
  |cons e r ih=>intro hh;have:=Ps hm (seen:=[]) (hh e aC);grind [Q6]
 grind
abbrev Gu:TypeId:=133
abbrev Bv(m:FM Int Bool):Option Ob:=some (sn Gu mJ bG m)
abbrev uv(i:Nat):G:= .clo (.func 164) [] [.ref i 0]
abbrev Hi:Option Ob:=some ⟨Gu,[.mref 1],none⟩
abbrev LA(g:G):Option Ob:=some ⟨22,[g],none⟩
abbrev KSZ(m:FM Int Bool):Type:={ks:List Int//ks.Perm (m.es.map (·.1))}
noncomputable abbrev Zb:Code:=bq 11012 (ai Tryz.f248)
noncomputable abbrev UC(st:LoopState):Option Ob:=some ⟨0,[],some (.loop st none 13 [(2,.ref 2 0)] (Dy Zb) (Dz Zb) (DA Zb))⟩
abbrev acs(clock:Nat)(seen:List Nat):Option Ob:=some ⟨Gu,[],some (.iter (some 1) clock seen clock)⟩
theorem GE(m:FM Int Bool):∀e∈JR mJ bG m,bB e.2.1:=xD λv=>mN _
abbrev UD:Fr:=[(0,.yld 3),(5,.ref 4 0)]
noncomputable abbrev σKZ(m:FM Int Bool)(seen:List Nat)(l:List Int):aQ:=[(0,Hi),(1,Bv m),(2,LA (.rsl 5 0 l.length)),(3,UC .ready),(4,acs m.clk seen),(5,oe l)]
noncomputable abbrev σKY(m:FM Int Bool)(seen:List Nat)(a:List Int):aQ:=[(0,Hi),(1,Bv m),(2,LA (.rsl 6 0 a.length)),(3,UC .busy),(4,acs m.clk seen),(6,oe a)]
theorem Nt{m:FM Int Bool}(hm:FxOk m)(hn:m.es.length<=1000):Xx prog gl 248 [.lit (.slice none 0 0),uv 0] [(0,Hi),(1,Bv m)] 2 (ι:=KSZ m) (λx=> .rsl 2 0 x.1.length) (λx=>[(0,Hi),(1,Bv m),(2,oe x.1)]) (λ_=>3):=by
 refine dMF func248 ?_;refine YR [1,0,1,2] (s0 13 gl [(2,.ref 2 0),(6,uv 0)] [(2,LA (.lit (.slice none 0 0))),(0,Hi),(1,Bv m)] 3 2) [] ?_;refine Xt (fst:=[]) (cap:=[.ref 0 0]) Tryz.f164 func164 ?_;refine pO [0] (s0 14 gl [(0,.yld 3),(1,.ref 0 0)] [(0,Hi),(1,Bv m),(2,LA (.lit (.slice none 0 0))),(3,UC .ready)] 4 4) [] [hc (GE m)] ?_ [] [(0,0),(1,1),(2,2),(3,3)];refine yl (Bs':=[]) [0] (J:=(s0 14 gl UD (σKZ m [] []) 6 4)) [] [hc (GE m),hc (rZ.imm [])] ?_ (vs:=[3]) (ρ:=rI 6) (kd:=[(5,.row)]);refine dNx [1] ?_;refine dMw 5 6 7 0 (iti:=4) (mi:=1) (clock:=m.clk) (since:=m.clk) (T:=Gu) (ty:=Gu) (es:=JR mJ bG m) (λseen=>(s0 14 gl UD (σKZ m seen (Q6 m seen)) 6 4)) (UA m) I6 (by grind [FxOk]) rfl (Le.refl _) (λseen=>rfl) (λseen=>rfl) (by grind) (λB seen k g n hI hme hns c=>?_) (λseen hI hs=>?_)
 .obtain⟨e,he,d⟩:=List.mem_map.1 hme;simp only[Prod.mk.injEq] at d;obtain⟨rfl,rfl,rfl⟩:=d;have hl:=Pt hI;have c:=c (I9 hI he hns);rw[Ps hm he] at c;generalize Q6 m seen=l at hl c⊢;have hge:jr ((4,acs m.clk (seen++[e.2.2]))::σKZ m seen l) (.ref 4 0)=some (.tup [db (mJ e.1),bG e.2.1]):=yo (iti:=4) (mi:=1) (since:=m.clk) (clock:=m.clk) (T:=Gu) (ty:=Gu) (seen:=seen) rfl rfl (by rw[List.map_map];exact hm.nd) hme;refine pO 112211210 (s0 14 gl ((3,iG e.1)::UD) (σKZ m (seen++[e.2.2]) l) 6 4) [YT 8 hge] [hc (GE m),hc (rfl:l.length=l.length),hc (rZ.imm l)] ?_ [] [(0,0),(1,1),(2,2),(3,3),(4,4),(5,5)] [(5,.row)];refine Xw (i:=3) (j:=2) (n:=13) (t:=0) (t2:=0) (pe:=none) (fr:=[(2,.ref 2 0)]) (ps:=Dy Zb) (a:=Dz Zb) (b:=DA Zb) (s1:=(s0 14 gl ([(11,iG e.1),(10,.yld 3),(3,iG e.1)]++UD) (σKZ m (seen++[e.2.2]) l) 6 4))
   (s3:=(s0 14 gl ([(13,bG false),(12,bG true),(11,iG e.1),(10,.yld 3),(3,iG e.1)]++UD) ((3,UC .ready)::σKY m (seen++[e.2.2]) (l++[e.1])) 7 4))
   (σKY m (seen++[e.2.2]) (l++[e.1])) 7 (.loop .ready none 13 [(2,.ref 2 0)] (Dy Zb) (Dz Zb) (DA Zb)) [] [] ?_ ?_
  .refine C9 .normal ⟨13,gl,[(2,.ref 2 0),(5,iG e.1)],σKZ m (seen++[e.2.2]) l,6,6,true⟩ [] [hc (GE m),hc (rfl:l.length=l.length),hc (rZ.imm l)] (Xv Tryz.f248 ?_ rfl) (ρ:=rI 6) (kd:=[(5,.row)]);exact C9 .normal ⟨13,gl,[],σKY m (seen++[e.2.2]) (l++[e.1]),7,6,true⟩ [Tn 11 rZ 8 l e.1 aa] [hc (GE m),hc (el (l++[e.1])),hc (rZ.imm (l++[e.1]))] (by grind [jy]) (ρ:=rI 6++[(6,7)]) (kd:=[(6,.row)])
  .exact jw [] [hc (GE m),hc (el (l++[e.1])),hc (rZ.imm (l++[e.1]))] c (ρ:=rI 5++[(5,6)]) (kd:=[(5,.row)])
 .have hp:=UB hm hI λe he=>hs _ (List.mem_map.2 ⟨e,he,rfl⟩);generalize Q6 m seen=l at hp⊢;refine C9 .normal (s0 14 gl [] [(0,Hi),(1,Bv m),(2,LA (.rsl 5 0 l.length)),(3,UC .ready),(5,oe l)] 6 4) [] [hc (GE m),hc (rfl:l.length=l.length),hc (rZ.imm l)] (Xu ?_ rfl) (ρ:=rI 4++[(5,5)]) (kd:=[(5,.row)]);exact C9 .ret (s0 13 gl [(4,.rsl 2 0 l.length)] [(0,Hi),(1,Bv m),(2,oe l)] 3 2) [] [hc (rfl:l.length=l.length),hc (GE m),hc (rZ.imm l)] (YY ⟨l,hp⟩ (Wo (gs:=[.rsl 2 0 l.length]) rfl aH rfl rfl rfl rfl)) (ρ:=[(0,0),(1,1),(2,5)]) (kd:=[(2,.row)])
theorem LB{m:FM Int Bool}(hm:FxOk m)(hn:m.es.length<=1000):Xx prog gl 162 [uv 0] [(0,Hi),(1,Bv m)] 2 (ι:=KSZ m) (λx=> .rsl 2 0 x.1.length) (λx=>[(0,Hi),(1,Bv m),(2,oe x.1)]) (λ_=>3):=by refine dMF func162 ?_;refine pO [1,0] (s0 5 gl [(0,uv 0)] [(0,Hi),(1,Bv m)] 2 2) [] [hc (GE m)] ?_ [] [(0,0),(1,1)] [(999999,.clo)];refine dCl 3 4 2 (fst:=[]) (cap:=[]) (gs:=[.lit (.slice none 0 0),uv 0]) (U6 (g:=λx:KSZ m=> .rsl 2 0 x.1.length) (c:=2) (c':=λ_=>3) (σR:=[(0,Hi),(1,Bv m)]) [0,1] (λx:KSZ m=>[(0,Hi),(1,Bv m),(2,oe x.1)]) (Nt gl hm hn) ⟨⟨rfl,.inl rfl⟩,⟨rfl,rfl,rfl,rfl,.inr ⟨rfl,GE m⟩⟩,trivial⟩ (λx=>⟨⟨rfl,.inl rfl⟩,⟨rfl,rfl,rfl,rfl,.inr ⟨rfl,GE m⟩⟩,⟨rfl,.inr ⟨rfl,rZ.imm x.1⟩⟩,trivial⟩) (hcov:=λ_=>rfl) (hg:=λ_=>rfl) (hc:=λ_=>rfl)) λx=>?_;exact C9 .ret (s0 5 gl [(2,.rsl 2 0 x.1.length)] [(0,Hi),(1,Bv m),(2,oe x.1)] 3 2) [] [hc (rfl:x.1.length=x.1.length),hc (GE m),hc (rZ.imm x.1)] (YY x (Wo (gs:=[.rsl 2 0 x.1.length]) rfl aH rfl rfl rfl rfl))
theorem Nu{m:FM Int Bool}(hm:FxOk m)(hn:m.es.length<=12)(hs:∀a:List Int,a.Perm (m.es.map (·.1))->R3 a=some srt)(hsl:srt.length=m.es.length):jg prog gl 86 [uv 0] [(0,Hi),(1,Bv m)] 2 (.rsl 2 0 srt.length) [(0,Hi),(1,Bv m),(2,oe srt)] 3:=by
 refine pP func86 ?_;refine pO [1,0] (s0 9 gl [(0,uv 0)] [(0,Hi),(1,Bv m)] 2 2) [] [hc (GE m)] ?_ [] [(0,0),(1,1)] [(999999,.clo)];refine dCl 4 5 3 (fst:=[]) (cap:=[]) (gs:=[uv 0]) (U6 (g:=λx:KSZ m=> .rsl 2 0 x.1.length) (c:=2) (c':=λ_=>3) (σR:=[(0,Hi),(1,Bv m)]) [0,1] (λx:KSZ m=>[(0,Hi),(1,Bv m),(2,oe x.1)]) (LB gl hm aa) ⟨⟨rfl,.inl rfl⟩,⟨rfl,rfl,rfl,rfl,.inr ⟨rfl,GE m⟩⟩,trivial⟩ (λx=>⟨⟨rfl,.inl rfl⟩,⟨rfl,rfl,rfl,rfl,.inr ⟨rfl,GE m⟩⟩,⟨rfl,.inr ⟨rfl,rZ.imm x.1⟩⟩,trivial⟩) (hcov:=λ_=>rfl) (hg:=λ_=>rfl) (hc:=λ_=>rfl)) λx=>?_;have hx:=hs x.1 x.2;have hxl:x.1.length<=12:=by rw[x.2.length_eq,List.length_map];exact hn
 have hsl:srt.length=x.1.length:=by rw[hsl,x.2.length_eq,List.length_map]
 rw[show(G.rsl 2 0 srt.length)= .rsl 2 0 x.1.length by rw[hsl]];exact mt .ret (s0 9 gl [(2,.rsl 2 0 x.1.length)] [(0,Hi),(1,Bv m),(2,oe srt)] 3 2) [.rsl 2 0 x.1.length] [tN 7 [2] 3 [(2,oe x.1)] [.rsl 2 0 x.1.length] [(0,oe srt)] (vX gl hxl hx) ⟨⟨rfl,.inr ⟨rfl,rZ.imm x.1⟩⟩,trivial⟩ ⟨⟨rfl,.inr ⟨rfl,rZ.imm srt⟩⟩,trivial⟩] [hc (rfl:x.1.length=x.1.length),hc (GE m),hc (rZ.imm srt)]
theorem UE(m:FM Int Bool):jg prog gl 87 [.mref 0] [(0,Bv m)] 1 (uv 1) [(0,Bv m),(1,some ⟨Gu,[.mref 0],none⟩)] 2:=by refine pP func87 ?_;exact mt .ret (s0 4 gl [(2,uv 1)] [(0,Bv m),(1,some ⟨Gu,[.mref 0],none⟩)] 2 1) [uv 1] [] [hc (GE m)] (kd:=[(999999,.clo)])
def mI(R:DRollRoll):List Int:=(R3 (R.in_.es.map (·.1))).getD []
theorem le6{l:List Int}(hd:l.Nodup)(h:∀x∈l,1<=x/\x<=6):l.length<=6:=by
 have hs:∀x∈l.map Int.toNat,x∈List.range' 1 6:=by grind
 have hn:(l.map Int.toNat).Nodup:=by clear hs;induction l<;>grind
 have:=xF hn hs;grind
theorem RlOk.len{R:DRollRoll}(hR:RlOk R):R.in_.es.length<=6:=by
 have:=le6 hR.ci.kd λx hx=>by obtain⟨e,he,rfl⟩:=List.mem_map.1 hx;exact hR.i6 e he
 rwa [List.length_map] at this
theorem wa(hR:RlOk R):vY (mI R)/\(mI R).Perm (R.in_.es.map (·.1))/\∀a:List Int,a.Perm (R.in_.es.map (·.1))->R3 a=some (mI R):=by have hl:=hR.len;obtain⟨r,e,p,s⟩:=Pp (l:=R.in_.es.map (·.1)) (by rw[List.length_map];omega);grind [mI,Pr,List.Perm.length_eq,List.length_map]
abbrev bx2:Option Ob:=some ⟨Gu,[.mref 2],none⟩
theorem EY(hR:RlOk R):CO prog gl 33 [.ref 0 0] (dT f0 R) 14 14 (aE cZ (mI R)) (dT f0 R):=by
 obtain⟨h1,h2,h3⟩:=wa hR;have hl:=hR.len;have hsl:(mI R).length=R.in_.es.length:=by rw[h2.length_eq,List.length_map]
 generalize mI R=srt at h1 h2 h3 hsl⊢;refine JJ func33 ?_;exact ZT [tN 7 [2] 14 [(2,Bv R.in_)] [.mref 2] [(0,Bv R.in_),(1,bx2)] (UE gl R.in_) ⟨⟨rfl,rfl,rfl,rfl,.inr ⟨rfl,GE R.in_⟩⟩,trivial⟩ ⟨⟨rfl,rfl,rfl,rfl,.inr ⟨rfl,GE R.in_⟩⟩,⟨rfl,.inl rfl⟩,trivial⟩,tN 8 [14,2] 15 [(14,bx2),(2,Bv R.in_)] [uv 14] [(0,bx2),(1,Bv R.in_),(2,oe srt)] (Nu gl hR.ci.1 aa h3 hsl) ⟨⟨rfl,.inl rfl⟩,⟨rfl,rfl,rfl,rfl,.inr ⟨rfl,GE R.in_⟩⟩,trivial⟩ ⟨⟨rfl,.inl rfl⟩,⟨rfl,rfl,rfl,rfl,.inr ⟨rfl,GE R.in_⟩⟩,⟨rfl,.inr ⟨rfl,rZ.imm srt⟩⟩,trivial⟩] (hc (⟨rZ.len srt,rZ.imm srt,rfl⟩:(srt.flatMap cZ).length=srt.length*1/\(∀g∈srt.flatMap cZ,bB g)/\srt.length=srt.length)::rlA hR) (iA f0) tp
def qZ(n k:Nat):Option (Nat⊕Unit):=if k<n then some (.inl (k+1)) else if k=n then some (.inr ()) else none
theorem iw{n:Nat}(h:n<=1000000):bo (qZ n) 0=some ():=T.eq (T.loop (λk=>k<=n) (λk=>n-k) aa aa λk hk=>by
 unfold qZ;split
 .exact .some ⟨aa,aa⟩
 .rw[if_pos aa];exact .some rfl)
def Bf(m:Int)(Q:DRollRoll)(d:Int):DRollRoll:=bif decide (eL Q d=m) then jh Q d else Q
def UF(R:DRollRoll)(o:DOp):DRollRoll:=(mI R).foldl (Bf o.Member) R
theorem Pu{Q:DRollRoll}(hQ:RlOk Q)(m d:Int):RlOk (Bf m Q d):=by grind [Bf,oc]
theorem DH{m:Int}:∀{l:List Int} {Q:DRollRoll},RlOk Q->RlOk (l.foldl (Bf m) Q)
 |[],Q,h=>h
 |d::r,Q,h=>DH (l:=r) (Pu h m d)
abbrev ρW:List (Nat×Nat):=[(0,0),(1,1),(2,2),(3,3),(4,4),(5,16),(6,17),(7,18),(8,19),(9,20),(10,21),(11,22),(12,23),(13,24),(14,14),(15,15)]
theorem Nv(hR:RlOk R){o:DOp}(hk:o.Kind=3)(hd:o.Device=0):C7 gl R o i (UF R o):=by
 have a1:decide (o.Kind=1)=false:=by rw[hk];rfl
 have a2:decide (o.Kind=2)=false:=by rw[hk];rfl
 have a3:decide (o.Kind=3)=true:=by rw[hk];rfl
 have ad:decide (o.Device≠0)=false:=decide_eq_false (by rw[hd];simp);have hdv:=EY gl hR;have hn:(mI R).length<=6:=by have:=(wa hR).2.1.length_eq;rw[List.length_map] at this;rw[this];exact hR.len
 refine vW gl hR ?_;unfold UF;generalize mI R=l at hdv hn⊢;have hQ:∀k,RlOk ((l.take k).foldl (Bf o.Member) R):=λk=>DH hR;refine pN (λk:Nat=>(s0 259 gl [(0,.ref 0 0),(4,.ref 14 0),(69,aE cZ l),(70,iG (ah l)),(71,iG (k:Int))] (Ue ((l.take k).foldl (Bf o.Member) R) o i) 16 5)) 111121414131122 (iw (n:=l.length) aa) [hr 29 a1,hr 52 a2,hr 60 a3,hr 63 ad,hrr 69 f0 16 [] hR hdv] (JP ρD f0 hR) (λB k v hs k5 a=>?_) [] ρD tp;unfold qZ at hs;split at hs
 .rename_i hlt;obtain rfl:=cP hs;obtain⟨x,hx⟩:∃x,l[k]?=some x:=⟨_,fy hlt⟩;have hz:=cQ hx;have k5:=k5 _ rfl;have hq:=hQ k;rw[List.take_add_one,hx,Option.toList_some,List.foldl_append,List.foldl_cons,List.foldl_nil] at k5;generalize (l.take k).foldl (Bf o.Member) R=Q at hq k5⊢;unfold Bf at k5;cases hm:decide (eL Q x=o.Member) with
  |false=>rw[hm] at k5;exact jw [hr 72 (fp hx),bR 73 (rZ.ixZ hz),bR 74 (rZ.p1Z tZ hz),hof gl 77 hq x 16,hr 80 hm,hbb 84 (Xl (q:=k) aa)] (JP ρD f0 hq) k5 [] ρD tp
  |true=>rw[hm] at k5;exact jw [hr 72 (fp hx),bR 73 (rZ.ixZ hz),bR 74 (rZ.p1Z tZ hz),hof gl 77 hq x 16,hr 80 hm,It 83 f0 16 [iG x] hq (oc hq x) (IO_q gl hq x),hbb 84 (Xl (q:=k) aa)] (JP ρW WG (oc hq x)) k5 [] ρW tp
 .split at hs
  .rename_i he;subst he;rw[List.take_length];exact kn f0 _ (DH hR) [hr 72 (gz (s:=l))] (Lw (f:=f0) (R:=l.foldl (Bf o.Member) R))
  .cases hs
def Dd(R:DRollRoll)(o:DOp)(i:DIdent):DRollRoll:=
 if o.Kind=1 then Ly R o else if o.Kind=2 then lT R o.Device o.Role else if o.Kind=3 then(if o.Device=0 then UF R o else jh R o.Device) else if o.Kind=5 then CD R o else if o.Kind=9 then Gq R o i else if o.Kind=11 then Gf R o else if o.Kind=12 then EO R o else if o.Kind=13 then I3 R o else R
structure OpD (o:DOp) (i:DIdent):Prop where
 i:i.By=o.By
 g:o.Guards.length<=1000000
 n:o.Kind=9->1<=o.Need/\o.Need<=1000000
 b:1<=o.By/\o.By<=6
theorem yK(hR:RlOk R){o:DOp}(ho:OpD o i):RlOk (Dd R o i):=by
 unfold Dd;split
 .exact Uu hR o
 split
 .exact lI hR _ _
 split
 .split
  .exact DH hR
  .exact oc hR _
 grind [Po,Ur,OpD.i,OpD.g,OpD.n,Uo,OpD.b,Un,Uv]
theorem UG(hR:RlOk R){o:DOp}(ho:OpD o i):C7 gl R o i (Dd R o i):=by
 unfold Dd;split
 .exact Q4 gl hR (by assumption)
 split
 .exact ack gl hR (by assumption)
 split
 .split
  .grind [Nv]
  grind [QM]
 split
 .exact Nk gl hR (by assumption)
 split
 .grind [Us,OpD.i,OpD.g,OpD.n]
 split
 .exact Uq gl hR (by assumption) ho.b
 split
 .exact Q1 gl hR (by assumption)
 split
 .exact Np gl hR (by assumption)
 grind [Y0]
def act(l:List DCard):FM Int DCard:=l.foldl (λm c=>ee m c.Device c) ⟨[],0⟩
def jR(l:List DCard):DRollRoll:=⟨act l,⟨[],0⟩,⟨[],0⟩,⟨[],0⟩,0⟩
structure CdOk (l:List DCard):Prop where
 n:l.length<=1000
 r:∀c∈l,1<=c.Device/\c.Device<=6/\1<=c.Member/\c.Member<=3
theorem LC{d:Int}{c:DCard}:∀{l:List DCard} {m:FM Int DCard},(l.foldl (λm c=>ee m c.Device c) m).get d=some c->(c∈l/\c.Device=d)\/m.get d=some c
 |[],m,h=> .inr h
 |x::r,m,h=>by
  rcases LC (l:=r) h with⟨h1,h2⟩|h
  all_goals grind [dD]
theorem pn{l:List DCard}(h:∀c∈l,1<=c.Device/\c.Device<=6/\1<=c.Member/\c.Member<=3):RlOk (jR l):=by
 have e:∀{K V:Type},FxK (⟨[],0⟩:FM K V):=by grind [FxK,FxOk]
 have hc:∀d,(fD ((jR l).cards.get d)).Member=0\/∃c∈l,c.Device=d/\fD ((jR l).cards.get d)=c:=λd=>by
  cases hg:(jR l).cards.get d with
  |none=>exact .inl rfl
  |some c=>
   rcases LC (l:=l) hg with⟨h1,h2⟩|h1
   .exact .inr ⟨c,h1,h2,rfl⟩
   .cases h1
 refine⟨e,e,e,λe he=>(by cases he),λd=>?_,λk x g h1=>(by cases h1),λk x g h1=>(by cases h1),λk x g h1=>(by cases h1),λk x g h1=>(by cases h1),λe he=>(by cases he),λd hd=>?_,λk x g h1=>(by cases h1)⟩;all_goals grind
abbrev ρN:List (Nat×Nat):=[(0,4),(1,0),(2,1),(3,2),(4,3),(5,5),(6,6),(7,7),(8,8),(9,9),(10,10),(11,11),(12,12),(13,13)]
def fN0(k:Nat):Nat:=match k with
 |0=>4
 |1=>0
 |2=>1
 |3=>2
 |4=>3
 |k=>k
theorem UH{l:List DCard}(hl:CdOk l):CO prog gl 70 [aE bv l] [] 0 0 (.ref 0 0) (dT f0 (jR l)):=by
 have hQ:∀k,RlOk (jR (l.take k)):=λk=>pn λc hc=>hl.r c (List.mem_of_mem_take hc);refine JJ func70 ?_;refine pN (λk:Nat=>(s0 27 gl [(3,.ref 0 0),(12,aE bv l),(13,iG (ah l)),(14,iG (k:Int))] (dT f0 (jR (l.take k))) 14 0)) 1110122 (iw (n:=l.length) (by have:=hl.n;omega)) [] (JP ρN fN0 (hQ 0)) (λB k v hs k5 b=>?_) [] ρN tp;unfold qZ at hs;split at hs
 .rename_i hlt;obtain rfl:=cP hs;obtain⟨x,hx⟩:∃x,l[k]?=some x:=⟨_,fy hlt⟩;have hz:=cQ hx;have k5:=k5 _ rfl;have e:jR (l.take (k+1))={jR (l.take k) with cards:=ee (jR (l.take k)).cards x.Device x}:=by unfold jR act;rw[List.take_add_one,hx,Option.toList_some,List.foldl_append];rfl
  have hq:=hQ k;have a:=hQ (k+1);rw[e] at k5 a;have hn:=hl.n;have hp:=Uz (P:=prog) (σ:=[(1,some (sn tMc mJ cdG (jR (l.take k)).cards))]) (i:=1) (t:=tMc) (t':=tMc) (vg:=cdG) (et:=106) vO Pl aH (k:=x.Device) (gk:=iG x.Device) rfl (m:=(jR (l.take k)).cards) rfl x;generalize jR (l.take k)=Q at hq a hp k5⊢;exact jw [hr 15 (fp hx),bR 16 (bT.ixZ hz),bR 17 (bT.ptZ E2 hz),hmr 15 hp,hbb 25 (Xl (q:=k) aa)] (JP (iA f0) f0 a) k5 [] (iA f0) tp
 .split at hs
  .rename_i he;subst he;rw[List.take_length];exact ZT [hr 15 (gz (s:=l))] (JP (iA f0) f0 (pn hl.r)) (iA f0) tp
  .cases hs
def lU(R:DRollRoll)(m:Int):Bool:=decide (rf R m=3)
def UI(R:DRollRoll)(o:DOp)(m:Int):Int:=bif f6 R o.Device then(bif lU R m then 0 else bif decide (eL R o.Device≠m) then 14 else 0) else 17
def Q9(R:DRollRoll)(o:DOp)(m:Int):Int:=bif decide (o.Device≠0) then(bif xy R o.Device then(bif lU R m then 0 else bif decide (eL R o.Device≠m) then 14 else 0) else 17) else match R.members.get o.Member with
 |none=>16
 |some _=>bif lU R m then 0 else bif decide (o.Member≠m) then 14 else 0
def UJ(R:DRollRoll)(o:DOp)(m:Int):Int:=bif lU R m then(match R.members.get o.Member with
 |none=>16
 |some _=>0) else 14
def UK(R:DRollRoll)(m:Int):Int:=bif decide (rf R m<2) then 14 else 0
def UM(R:DRollRoll)(o:DOp)(m:Int):Int:=bif lU R m then 0 else bif decide (eL R o.Of.By≠m) then 14 else 0
def LD(R:DRollRoll)(o:DOp)(m:Int):Int:=match R.members.get m with
 |none=>25
 |some x=>match x.guard with
  |none=>25
  |some g=>bif decide (g.id=o.Of) then 0 else 25
theorem Bg(R:DRollRoll)(m:Int):ba prog gl 387 [.ptr (dY R) 0,iG m] (bG (lU R m)):=Gh func387 (Ar [hf 7 (DF gl R m)] [])
theorem agp(R:DRollRoll)(d:Int):∀σ,bL prog σ He false (FM.g mJ bG R.in_) (iG d)=some (bG (xy R d)):=Ad R.in_ d
theorem Zu(R:DRollRoll)(o:DOp)(m:Int):ba prog gl 386 [.ptr (dY R) 0,.agg (aJ o),iG m] (iG (UI R o m)):=by
 have h1:=Lu gl R o.Device;have h2:=Bg gl R m;have h3:=Lq gl R o.Device;unfold UI;refine Gh func386 ?_;cases b1:f6 R o.Device with
 |false=>rw[b1] at h1;exact Ar [hf 11 h1] []
 |true=>
  rw[b1] at h1;cases b2:lU R m with
  |true=>rw[b2] at h2;exact Ar [hf 11 h1,hf 16 h2] []
  |false=>
   rw[b2] at h2;cases b3:decide (eL R o.Device≠m) with
   |true=>exact Ar [hf 11 h1,hf 16 h2,hf 22 h3,hr 24 b3] []
   |false=>exact Ar [hf 11 h1,hf 16 h2,hf 22 h3,hr 24 b3] []
theorem Zv(R:DRollRoll)(o:DOp)(m:Int):ba prog gl 388 [.ptr (dY R) 0,.agg (aJ o),iG m] (iG (Q9 R o m)):=by
 have h2:=Bg gl R m;have h3:=Lq gl R o.Device;have h4:=agp R o.Device;have h5:=Y1 R o.Member;unfold Q9;refine Gh func388 ?_;cases b1:decide (o.Device≠0) with
 |true=>
  cases b4:xy R o.Device with
  |false=>rw[b4] at h4;exact Ar [hr 12 b1,hm 19 h4] []
  |true=>
   rw[b4] at h4;cases b2:lU R m with
   |true=>rw[b2] at h2;exact Ar [hr 12 b1,hm 19 h4,hf 24 h3,hf 35 h2] []
   |false=>
    rw[b2] at h2;cases b3:decide (eL R o.Device≠m) with
    |true=>exact Ar [hr 12 b1,hm 19 h4,hf 24 h3,hf 35 h2,hr 40 b3] []
    |false=>exact Ar [hr 12 b1,hm 19 h4,hf 24 h3,hf 35 h2,hr 40 b3] []
 |false=>
  cases b5:R.members.get o.Member with
  |none=>rw[b5] at h5;exact Ar [hr 12 b1,hm 31 h5] []
  |some x=>
   rw[b5] at h5;cases b2:lU R m with
   |true=>rw[b2] at h2;exact Ar [hr 12 b1,hm 31 h5,hf 35 h2] []
   |false=>
    rw[b2] at h2;cases b3:decide (o.Member≠m) with
    |true=>exact Ar [hr 12 b1,hm 31 h5,hf 35 h2,hr 40 b3] []
    |false=>exact Ar [hr 12 b1,hm 31 h5,hf 35 h2,hr 40 b3] []
theorem ZH(R:DRollRoll)(o:DOp)(m:Int):ba prog gl 389 [.ptr (dY R) 0,.agg (aJ o),iG m] (iG (UJ R o m)):=by
 have h2:=Bg gl R m;have h5:=Y1 R o.Member;unfold UJ;refine Gh func389 ?_;cases b2:lU R m with
 |false=>rw[b2] at h2;exact Ar [hf 10 h2] []
 |true=>
  rw[b2] at h2;cases b5:R.members.get o.Member with
  |none=>rw[b5] at h5;exact Ar [hf 10 h2,hm 19 h5] []
  |some x=>rw[b5] at h5;exact Ar [hf 10 h2,hm 19 h5] []
theorem ZI(R:DRollRoll)(o:DOp)(m:Int):ba prog gl 390 [.ptr (dY R) 0,.agg (aJ o),iG m] (iG (UK R m)):=by
 unfold UK;refine Gh func390 ?_;cases b:decide (rf R m<2) with
 |true=>exact Ar [hf 9 (DF gl R m),hr 10 b] []
 |false=>exact Ar [hf 9 (DF gl R m),hr 10 b] []
theorem ZJ(R:DRollRoll)(o:DOp)(m:Int):ba prog gl 391 [.ptr (dY R) 0,.agg (aJ o),iG m] (iG (UM R o m)):=by
 have h2:=Bg gl R m;have h3:=Lq gl R o.Of.By;unfold UM;refine Gh func391 ?_;cases b2:lU R m with
 |true=>rw[b2] at h2;exact Ar [hf 9 h2] []
 |false=>
  rw[b2] at h2;cases b3:decide (eL R o.Of.By≠m) with
  |true=>exact Ar [hf 9 h2,hf 16 h3,hr 18 b3] []
  |false=>exact Ar [hf 9 h2,hf 16 h3,hr 18 b3] []
theorem Pv(R:DRollRoll)(o:DOp)(m:Int):ba prog gl 394 [.ptr (dY R) 0,.agg (aJ o),iG m] (iG (LD R o m)):=by
 have h5:=Y1 R m;unfold LD;refine Gh func394 ?_;cases b5:R.members.get m with
 |none=>rw[b5] at h5;exact Ar [hm 13 h5] []
 |some x=>
  rw[b5] at h5;obtain⟨role,gd⟩:=x;cases gd with
  |none=>exact Ar [hm 13 h5] []
  |some g=>
   dsimp only;cases b:decide (g.id=o.Of) with
   |true=>exact Ar [hm 13 h5,hV 33 (dy g.id o.Of (r:=false) (by rw[b];rfl))] []
   |false=>exact Ar [hm 13 h5,hV 33 (dy g.id o.Of (r:=true) (by rw[b];rfl))] []
def eQ{K V:Type}(m:FM K V)(seen:List Nat):List (K×V×Nat):=seen.filterMap λn=>m.es.find? λe=>Nat.beq e.2.2 n
theorem zx{K V:Type}:∀{es:List (K×V×Nat)} {e:K×V×Nat},(es.map (·.2.2)).Nodup->e∈es->es.find? (λx=>Nat.beq x.2.2 e.2.2)=some e
 |[],e,_,h=>by cases h
 |x::r,e,hd,h=>by
  rw[List.map_cons,List.nodup_cons] at hd;rcases List.mem_cons.1 h with rfl|h
  .simp
  .have hb:Nat.beq x.2.2 e.2.2=false:=by grind [bc]
   rw[List.find?_cons,hb];exact zx hd.2 h
theorem UO(hm:FxOk m)(he:e∈m.es):eQ m (seen++[e.2.2])=eQ m seen++[e]:=by unfold eQ;rw[List.filterMap_append];simp[zx hm.nd he]
theorem abr{K V:Type}{m:FM K V}(hm:FxOk m):∀es:List (K×V×Nat),(∀e∈es,e∈m.es)->eQ m (es.map (·.2.2))=es
 |[],_=>rfl
 |e::r,h=>by have ih:=abr hm r (by grind);unfold eQ at ih⊢;rw[List.map_cons,List.filterMap_cons,zx hm.nd (h e aC),ih]
theorem Pw(hm:FxOk m)(h:UA m seen)(ha:∀e∈m.es,e.2.2∈seen):(eQ m seen).Perm m.es:=by have hp:seen.Perm (m.es.map (·.2.2)):=(List.perm_ext_iff_of_nodup h.1 hm.nd).2 λn=>⟨h.2 n,(by grind)⟩;have h1:(eQ m seen).Perm (eQ m (m.es.map (·.2.2))):=hp.filterMap _;rwa [abr hm m.es λe h=>h] at h1
theorem acu(h:e∈eQ m seen):e∈m.es:=by grind [eQ]
theorem aev:∀{seen:List Nat},UA m seen->(eQ m seen).Nodup
 |[],_=> .nil
 |n::r,h=>by grind [UA,eQ,bc]
abbrev Nw(d:Int)(l:List (DRollVouched×Int×Nat)):List Int:=(l.filter λe=>decide (e.1.device=d)).map (·.2.1)
theorem Ja{m:FM DRollVouched Int}(hk:(m.es.map (·.1)).Nodup)(hb:∀e∈m.es,1<=e.1.by_/\e.1.by_<=6){l:List (DRollVouched×Int×Nat)}(hn:l.Nodup)(hs:∀e∈l,e∈m.es)(d:Int):(Nw d l).length<=6:=by
 unfold Nw;rw[List.length_map];have key:∀l:List (DRollVouched×Int×Nat),l.Nodup->(∀e∈l,e∈m.es/\e.1.device=d)->(l.map (·.1.by_)).Nodup:=by
  intro l;induction l with
  |nil=>intro _ _;exact .nil
  |cons a r ih=>
   intro hn hs;rw[List.nodup_cons] at hn;rw[List.map_cons,List.nodup_cons];refine⟨λhm=>?_,(by grind)⟩;obtain⟨b,hb,e⟩:=List.mem_map.1 hm;obtain⟨a1,a2⟩:=hs a aC;obtain⟨b1,b2⟩:=hs b (by simp[hb]);have:a.1=b.1:=by cases h1:a.1;cases h2:b.1;grind
   grind [tb]
 have h2:=le6 (key _ (hn.sublist List.filter_sublist) λe he=>⟨hs e (List.mem_filter.1 he).1,of_decide_eq_true (List.mem_filter.1 he).2⟩) λx hx=>by obtain⟨e,he,rfl⟩:=List.mem_map.1 hx;exact hb e (hs e (List.mem_filter.1 he).1)
 rwa [List.length_map] at h2
def Ny(g:DRollGuard)(d:Int):List Int:=(R3 (Nw d g.vouches.es)).getD []
def GI(R:DRollRoll)(m d:Int):Int×Int:=match R.members.get m with
 |none=>(0,4)
 |some x=>match x.guard with
  |none=>(0,4)
  |some g=>bif decide (ah (Ny g d)<g.need) then(0,26) else bif g.objected&&decide ((Ny g d).getD 0 0<=g.last) then(0,28) else(wI ((Ny g d).getD (g.need.toNat-1) 0+g.wait),0)
abbrev frV(a:Nat){R:DRollRoll}{k:Int}{x:DRollMember}(_:R.members.get k=some x):Fr:=[(a,.ref (3+nM k) 0)]
abbrev miV{R:DRollRoll}{k:Int}{x:DRollMember}(_:R.members.get k=some x):Nat:=6+nM k
abbrev ZK(ρ:List (Nat×Nat)){R:DRollRoll}(hR:RlOk R){l:List (Nat×Ob)}(hl:∀q∈l,dh f0 R q.1=some q.2)(h:okR ρ f0=true:=by kernel_rfl):List HP:=L0.map λk=>hc (show Ge (lE ρ) (tg R l k) (tg R l k) from(Hg hl k).symm▸vV (κ:=lE ρ) (f:=f0) (f':=f0) (λk ⟨ob,hk⟩=>Iu h (fL hk)) hR k)
abbrev ρV:List (Nat×Nat):=iA f0++[(14,14),(15,18)]
abbrev kdV:List (Nat×Rk):=tp++[(15,.row)]
abbrev frD{R:DRollRoll}{k:Int}{x:DRollMember}(hx:R.members.get k=some x)(d:Int)(a:List Int):Fr:=frV 9 hx++[(2,iG d),(10,.rsl 15 0 a.length),(36,.ref 14 0)]
abbrev stD{R:DRollRoll}{k:Int}{x:DRollMember}(hx:R.members.get k=some x){l:List (Nat×Ob)}(hl:∀q∈l,dh f0 R q.1=some q.2)(g:DRollGuard)(seen:List Nat)(a:List Int):aQ:=JQ hl++[(14,IK Md (miV hx) g.vouches.clk seen),(15,oe a)]
theorem acv(hR:RlOk R)(m d:Int):CO prog gl 397 [.ref 0 0,iG m,iG d] (dT f0 R) 14 14 (.tup [iG (GI R m d).1,iG (GI R m d).2]) (dT f0 R):=by
 have hr2:∀a b:Int,bB (.tup [iG a,iG b]):=λa b=>L7 λg hg=>by simp only[List.mem_cons,List.not_mem_nil,or_false] at hg;rcases hg with rfl|rfl<;>exact mN _
 refine JJ func397 ?_;unfold GI;cases hx:R.members.get m with
 |none=>have hr:=hr2 0 4;exact kn f0 _ hR [oz 18 (Ef hx)] (kQ R hr)
 |some x=>
  have hlk:=zf hx;obtain⟨j,hj,o⟩:∃j:Nat,m=(j:Int)/\(j=1\/j=2\/j=3):=by grind [YD]
  subst hj;obtain⟨role,gd⟩:=x;cases gd with
  |none=>
   have hl:=hl1 o hx;have hr:=hr2 0 4;rcases o with rfl|rfl|rfl
   all_goals
    refine pO 11100 (s0 88 gl (frP 8 hx++[(2,iG d)]) (JQ hl) 14 14) [oz 18 hlk] (Mh (iA f0) f0 hR hl) ?_ (ρ:=iA f0) (kd:=tp)
    exact kn f0 _ hR [] (EH hl hr)
  |some g=>
   have hl:=Um o hx;have hv:=hR.cv _ _ g hx rfl;obtain⟨u,v⟩:=hR.gN _ _ g hx rfl;have hb:=hR.vb _ _ g hx rfl;have h6:=Ja hv.kd hb (List.Pairwise.of_map (λx=>x.1) (λa b h e=>h (by rw[e])) hv.kd) (λe he=>he) d;obtain⟨srt,e1,p,s1⟩:=Pp (l:=Nw d g.vouches.es) aa;have hsr:∀q:List Int,q.Perm (Nw d g.vouches.es)->R3 q=some srt:=λq hk=>Pr s1 (hk.trans p.symm) (by rw[p.length_eq];omega);have hda:Ny g d=srt:=by unfold Ny;rw[e1];rfl
   dsimp only;rw[hda];have hadd:∀seen (e:DRollVouched×Int×Nat),e∈g.vouches.es->Nw d (eQ g.vouches (seen++[e.2.2]))=Nw d (eQ g.vouches seen)++(if e.1.device=d then[e.2.1] else[]):=λseen e he=>by grind [UO,FxK.toFxOk]
   rcases o with rfl|rfl|rfl
   all_goals
    refine pO 11100 (s0 88 gl (frP 8 hx++[(2,iG d)]) (JQ hl) 14 14) [oz 18 hlk] (Mh (iA f0) f0 hR hl) ?_ (ρ:=iA f0) (kd:=tp)
    refine pO 11111100 (s0 88 gl (frV 9 hx++[(2,iG d),(10,Iy)]) (JQ hl) 14 14) [] (ZK (iA f0) hR hl) ?_ (ρ:=iA f0) (kd:=tp)
    refine yl (Bs':=[]) [1,1,1,1,1,0,0] (J:=(s0 88 gl (frD hx d []) (stD hx hl g [] []) 16 14)) [] (ZK ρD hR hl++[hc (rZ.imm [])]) ?_ (vs:=[3]) (ρ:=ρD) (kd:=kdV)
    refine dNx 11111101 ?_
    refine dMw 36 37 38 0 (iti:=14) (mi:=miV hx) (clock:=g.vouches.clk) (since:=g.vouches.clk) (T:=Md) (ty:=Md) (es:=JR dQ iG g.vouches) (λseen=>(s0 88 gl (frD hx d (Nw d (eQ g.vouches seen))) (stD hx hl g seen (Nw d (eQ g.vouches seen))) 16 14)) (UA g.vouches) I6 (λe he=>by obtain⟨x,hx,rfl⟩:=List.mem_map.1 he;exact hv.1.lt x hx) rfl (Le.refl _) (λseen=>aH) (λseen=>aH) (λseen=>⟨show 37<88 by decide,show 38<88 by decide⟩) (λB seen k w n hI JO hns c=>?_) (λseen hI hs=>?_)
    .obtain⟨e,he,s⟩:=List.mem_map.1 JO
     simp only[Prod.mk.injEq] at s
     obtain⟨rfl,rfl,rfl⟩:=s
     have hla:=Ja hv.kd hb (aev hI) (λe he=>acu he) d
     have c:=c (I9 hI he hns)
     rw[hadd seen e he] at c
     generalize Nw d (eQ g.vouches seen)=a at hla c⊢
     have hge:jr ((14,IK Md (miV hx) g.vouches.clk (seen++[e.2.2]))::stD hx hl g seen a) (.ref 14 0)=some (.tup [db (dQ e.1),iG e.2.1]):=yo (iti:=14) (mi:=miV hx) (since:=g.vouches.clk) (clock:=g.vouches.clk) (T:=Md) (ty:=Md) (seen:=seen) aH aH (by rw[List.map_map];exact hv.1.nd) JO
     cases hdv:decide (e.1.device=d) with
     |false=>
      rw[if_neg (of_decide_eq_false hdv),List.append_nil] at c
      exact jw [YT 39 hge,hr 45 hdv] (hc (rfl:a.length=a.length)::ZK ρD hR hl++[hc (rZ.imm a)]) c [] ρD kdV
     |true=>
      rw[if_pos (of_decide_eq_true hdv)] at c
      exact jw [YT 39 hge,hr 45 hdv,Tn 49 rZ 8 a e.2.1 aa] (hc (el (a++[e.2.1]))::ZK ρV hR hl++[hc (rZ.imm (a++[e.2.1]))]) c [] ρV kdV
    .have hp:=Pw hv.1 hI λe he=>hs (dQ e.1,iG e.2.1,e.2.2) (List.mem_map.2 ⟨e,he,rfl⟩)
     have hpa:(Nw d (eQ g.vouches seen)).Perm (Nw d g.vouches.es):=(hp.filter _).map _
     generalize Nw d (eQ g.vouches seen)=a at hpa⊢
     have hi:=hsr a hpa
     have hsl:srt.length=a.length:=by rw[p.length_eq,hpa.length_eq]
     have hal:a.length<=6:=by rw[hpa.length_eq];exact h6
     have hlz:decide ((a.length:Int)<g.need)=decide (ah srt<g.need):=by unfold ah;rw[hsl]
     cases c1:decide (ah srt<g.need) with
     |true=>
      have hr:=hr2 0 26
      exact kn f0 _ hR [tN 51 [15] 16 [(15,oe a)] [.rsl 15 0 a.length] [(0,oe srt)] (vX gl aa hi) ⟨⟨rfl,.inr ⟨rfl,rZ.imm a⟩⟩,trivial⟩ ⟨⟨rfl,.inr ⟨rfl,rZ.imm srt⟩⟩,trivial⟩,Go.Proofs.YtaiecngnppbhlaaGreatDoor.hr 59 (hlz.trans c1)] (EH hl hr)
     |false=>
      have hge:g.need<=ah srt:=by have:=of_decide_eq_false c1;omega
      have hz0:aS srt 0=some (srt.getD 0 0):=by grind [au]
      have h71:fh prog 22 (.rsl 15 0 a.length) 0=some (.ref 15 (0+(0:Int).toNat*1)):=by rw[<-hsl];exact rZ.ixrZ 15 hz0
      have f:=rZ.p10Z tZ hz0
      have hw1:wI (g.need-1)=((g.need.toNat-1:Nat):Int):=by grind [bM]
      have hz1:aS srt (wI (g.need-1))=some (srt.getD (g.need.toNat-1) 0):=by grind [au]
      have h81:fh prog 22 (.rsl 15 0 a.length) (wI (g.need-1))=some (.ref 15 (0+(wI (g.need-1)).toNat*1)):=by rw[<-hsl];exact rZ.ixrZ 15 hz1
      have i:=rZ.p10Z tZ hz1
      obtain⟨y,gg,gn,t,z,go,r⟩:=g
      dsimp only at*
      cases go with
      |false=>
       have hr:=hr2 (wI (srt.getD (gn.toNat-1) 0+t)) 0
       exact kn f0 _ hR [tN 51 [15] 16 [(15,oe a)] [.rsl 15 0 a.length] [(0,oe srt)] (vX gl aa hi) ⟨⟨rfl,.inr ⟨rfl,rZ.imm a⟩⟩,trivial⟩ ⟨⟨rfl,.inr ⟨rfl,rZ.imm srt⟩⟩,trivial⟩,Go.Proofs.YtaiecngnppbhlaaGreatDoor.hr 59 (hlz.trans c1),bR 81 h81,bR 82 i] (EH hl hr)
      |true=>
       cases c2:decide (srt.getD 0 0<=r) with
       |true=>
        have hr:=hr2 0 28
        exact kn f0 _ hR [tN 51 [15] 16 [(15,oe a)] [.rsl 15 0 a.length] [(0,oe srt)] (vX gl aa hi) ⟨⟨rfl,.inr ⟨rfl,rZ.imm a⟩⟩,trivial⟩ ⟨⟨rfl,.inr ⟨rfl,rZ.imm srt⟩⟩,trivial⟩,Go.Proofs.YtaiecngnppbhlaaGreatDoor.hr 59 (hlz.trans c1),bR 71 h71,bR 72 f,Go.Proofs.YtaiecngnppbhlaaGreatDoor.hr 73 c2] (EH hl hr)
       |false=>
        have hr:=hr2 (wI (srt.getD (gn.toNat-1) 0+t)) 0
        exact kn f0 _ hR [tN 51 [15] 16 [(15,oe a)] [.rsl 15 0 a.length] [(0,oe srt)] (vX gl aa hi) ⟨⟨rfl,.inr ⟨rfl,rZ.imm a⟩⟩,trivial⟩ ⟨⟨rfl,.inr ⟨rfl,rZ.imm srt⟩⟩,trivial⟩,Go.Proofs.YtaiecngnppbhlaaGreatDoor.hr 59 (hlz.trans c1),bR 71 h71,bR 72 f,Go.Proofs.YtaiecngnppbhlaaGreatDoor.hr 73 c2,bR 81 h81,bR 82 i] (EH hl hr)
def UQ(R:DRollRoll)(o:DOp):Int:=bif o.Guards.any λd=> !xy R d then 17 else 0
def Re(R:DRollRoll)(o:DOp):Int:=bif decide ((eI R o).2≠0) then(eI R o).2 else bif decide (eL R o.Device≠(eI R o).1) then 16 else bif f6 R o.Device then 0 else 17
def acw(R:DRollRoll)(o:DOp)(w:Int):Bool:=bif xy R o.Old then(bif decide (eL R o.Old≠w) then true else bif f6 R o.Device then decide (eL R o.Device≠w) else true) else true
def Rf(R:DRollRoll)(o:DOp):Int:=bif decide ((eI R o).2≠0) then(eI R o).2 else bif acw R o (eI R o).1 then 17 else bif decide ((GI R (eI R o).1 o.Device).2=0) then(bif decide (o.At<(GI R (eI R o).1 o.Device).1) then 27 else 0) else(GI R (eI R o).1 o.Device).2
theorem ZL(R:DRollRoll){o:DOp}(hg:o.Guards.length<=1000000)(m:Int):ba prog gl 392 [.ptr (dY R) 0,.agg (aJ o),iG m] (iG (UQ R o)):=Gd gl (by grind [DY,Uw,tA,xy,UQ])
theorem ZM(hR:RlOk R)(o:DOp)(m:Int):CO prog gl 395 [.ref 0 0,.agg (aJ o),iG m] (dT f0 R) 14 14 (iG (Re R o)) (dT f0 R):=by
 refine JJ func395 ?_;have hg:=Bu gl hR o;unfold Re;generalize eI R o=we at hg⊢;obtain⟨w,e⟩:=we;dsimp only at hg⊢;have hre:bB (iG e):=mN _;have hr16:bB (iG 16):=mN _;have hr17:bB (iG 17):=mN _;have hr0:bB (iG 0):=mN _;cases c1:decide (e≠0) with
 |true=>exact kn f0 _ hR [hrr 12 f0 15 [.agg (aJ o)] hR hg,hr 17 c1] (kQ R hre)
 |false=>
  cases c2:decide (eL R o.Device≠w) with
  |true=>exact kn f0 _ hR [hrr 12 f0 15 [.agg (aJ o)] hR hg,hr 17 c1,hof gl 23 hR o.Device 15,hr 25 c2] (kQ R hr16)
  |false=>
   cases c3:f6 R o.Device with
   |true=>exact kn f0 _ hR [hrr 12 f0 15 [.agg (aJ o)] hR hg,hr 17 c1,hof gl 23 hR o.Device 15,hr 25 c2,Lv gl 30 hR c3 15] (kQ R hr0)
   |false=>exact kn f0 _ hR [hrr 12 f0 15 [.agg (aJ o)] hR hg,hr 17 c1,hof gl 23 hR o.Device 15,hr 25 c2,Lv gl 30 hR c3 15] (kQ R hr17)
theorem ZN(hR:RlOk R)(o:DOp)(m:Int):CO prog gl 396 [.ref 0 0,.agg (aJ o),iG m] (dT f0 R) 14 14 (iG (Rf R o)) (dT f0 R):=by
 refine JJ func396 ?_;have hg:=Bu gl hR o;have hin:=YZ R o.Old;unfold Rf;generalize eI R o=we at hg⊢;obtain⟨w,e⟩:=we;dsimp only at hg⊢;have hre:bB (iG e):=mN _;have hr17:bB (iG 17):=mN _;have hr27:bB (iG 27):=mN _;have hr0:bB (iG 0):=mN _;cases c1:decide (e≠0) with
 |true=>exact kn f0 _ hR [hrr 13 f0 15 [.agg (aJ o)] hR hg,hr 18 c1] (kQ R hre)
 |false=>
  unfold acw;cases c2:xy R o.Old with
  |false=>rw[c2] at hin;exact kn f0 _ hR [hrr 13 f0 15 [.agg (aJ o)] hR hg,hr 18 c1,oz 27 hin] (kQ R hr17)
  |true=>
   rw[c2] at hin;cases c3:decide (eL R o.Old≠w) with
   |true=>exact kn f0 _ hR [hrr 13 f0 15 [.agg (aJ o)] hR hg,hr 18 c1,oz 27 hin,hof gl 33 hR o.Old 15,hr 35 c3] (kQ R hr17)
   |false=>
    cases c4:f6 R o.Device with
    |false=>exact kn f0 _ hR [hrr 13 f0 15 [.agg (aJ o)] hR hg,hr 18 c1,oz 27 hin,hof gl 33 hR o.Old 15,hr 35 c3,Lv gl 40 hR c4 15] (kQ R hr17)
    |true=>
     cases c5:decide (eL R o.Device≠w) with
     |true=>exact kn f0 _ hR [hrr 13 f0 15 [.agg (aJ o)] hR hg,hr 18 c1,oz 27 hin,hof gl 33 hR o.Old 15,hr 35 c3,Lv gl 40 hR c4 15,hof gl 46 hR o.Device 15,hr 48 c5] (kQ R hr17)
     |false=>
      have hd:=acv gl hR w o.Device;generalize GI R w o.Device=de at hd⊢;obtain⟨a,e2⟩:=de;dsimp only[cG,aN] at hd⊢;have hre2:bB (iG e2):=mN _;cases c6:decide (e2=0) with
      |false=>exact kn f0 _ hR [hrr 13 f0 15 [.agg (aJ o)] hR hg,hr 18 c1,oz 27 hin,hof gl 33 hR o.Old 15,hr 35 c3,Lv gl 40 hR c4 15,hof gl 46 hR o.Device 15,hr 48 c5,hrr 55 f0 15 [iG w,iG o.Device] hR hd,hr 59 c6] (kQ R hre2)
      |true=>
       cases c7:decide (o.At<a) with
       |true=>exact kn f0 _ hR [hrr 13 f0 15 [.agg (aJ o)] hR hg,hr 18 c1,oz 27 hin,hof gl 33 hR o.Old 15,hr 35 c3,Lv gl 40 hR c4 15,hof gl 46 hR o.Device 15,hr 48 c5,hrr 55 f0 15 [iG w,iG o.Device] hR hd,hr 59 c6,hr 64 c7] (kQ R hr27)
       |false=>have:e2=0:=of_decide_eq_true c6;subst this;exact kn f0 _ hR [hrr 13 f0 15 [.agg (aJ o)] hR hg,hr 18 c1,oz 27 hin,hof gl 33 hR o.Old 15,hr 35 c3,Lv gl 40 hR c4 15,hof gl 46 hR o.Device 15,hr 48 c5,hrr 55 f0 15 [iG w,iG o.Device] hR hd,hr 59 c6,hr 64 c7] (kQ R hr0)
def Nz(R:DRollRoll)(o:DOp)(m:Int):Int:=if o.Kind=2 then UI R o m else if o.Kind=3 then Q9 R o m else if o.Kind=5 then UJ R o m else if o.Kind=6 then UK R m else if o.Kind=8 then UM R o m else if o.Kind=9 then UQ R o else if o.Kind=10 then LD R o m else if o.Kind=11 then Re R o else if o.Kind=12 then LD R o m else if o.Kind=13 then Rf R o else 0
def Bw(R:DRollRoll)(o:DOp):Int:=if o.Kind=1 then(bif decide (eL R o.By=0) then 17 else bif decide (0<(R.was.es.length:Int)) then 5 else 0) else bif xy R o.By then Nz R o (eL R o.By) else 15
abbrev tAs:TypeId:=138
theorem ags{z:Int}(hz:z=(k:Int))(hk:k<14):fh prog tAs (.ptr IU 0) z=some (.ptr IU k):=by
 subst hz;rcases(by omega:k=0\/k=1\/k=2\/k=3\/k=4\/k=5\/k=6\/k=7\/k=8\/k=9\/k=10\/k=11\/k=12\/k=13) with rfl|rfl|rfl|rfl|rfl|rfl|rfl|rfl|rfl|rfl|rfl|rfl|rfl|rfl
 all_goals kernel_rfl
abbrev aew(R:DRollRoll)(o:DOp)(i:DIdent)(r:Int):Prop:=CO prog fI 28 [.ref 0 0,.agg (aJ o),.agg (aj i)] (dT f0 R) 14 14 (iG r) (dT f0 R)
theorem agt{o:DOp}{m:Int}:∀x∈[G.agg (aJ o),iG m],bB x:=λx hx=>by
 simp only[List.mem_cons,List.not_mem_nil,or_false] at hx;rcases hx with rfl|rfl
 .exact aG 20 _ aH
 .exact mN _
abbrev hla(d:Nat){R:DRollRoll}(hR:RlOk R){f:FuncId}{o:DOp}{m r:Int}(h:ba prog fI f [.ptr (dY R) 0,.agg (aJ o),iG m] (iG r))(hc:aK prog f=true:=by kernel_rfl):HP:=hrl d f0 16 hR h agt (lR _) (hc:=hc)
theorem UR(hR:RlOk R){o:DOp}{i:DIdent}(hg:o.Guards.length<=1000000):aew R o i (Bw R o):=by
 refine JJ func28 ?_;have hi0:∀r:Int,bB (iG r):=λr=>mN _;have hin:=YZ R o.By;unfold Bw;split
 .rename_i hk;have a1:decide (o.Kind=1)=true:=decide_eq_true hk;have hle:decide (0<((JR mJ bG R.was).length:Int))=decide (0<(R.was.es.length:Int)):=by rw[List.length_map]
  have c:=hi0 17;have h5:=hi0 5;have h0:=hi0 0;cases c1:decide (eL R o.By=0) with
  |true=>exact kn f0 _ hR [hr 9 a1,hof fI 14 hR o.By 16,hr 15 c1] (kQ R c)
  |false=>
   cases c2:decide (0<(R.was.es.length:Int)) with
   |true=>exact kn f0 _ hR [hr 9 a1,hof fI 14 hR o.By 16,hr 15 c1,hr 22 (hle.trans c2)] (kQ R h5)
   |false=>exact kn f0 _ hR [hr 9 a1,hof fI 14 hR o.By 16,hr 15 c1,hr 22 (hle.trans c2)] (kQ R h0)
 .rename_i hk1;have a1:decide (o.Kind=1)=false:=decide_eq_false hk1;cases hb:xy R o.By with
  |false=>rw[hb] at hin;have d:=hi0 15;exact kn f0 _ hR [hr 9 a1,oz 29 hin] (kQ R d)
  |true=>
   rw[hb] at hin;rw[aN];have h0:=hi0 0;by_cases hlo:o.Kind<0
   .have:Nz R o (eL R o.By)=0:=by unfold Nz;repeat rw[if_neg aa]
    rw[this];exact kn f0 _ hR [hr 9 a1,oz 29 hin,hr 33 (decide_eq_true hlo)] (kQ R h0)
   by_cases hhi:14<=o.Kind
   .have:Nz R o (eL R o.By)=0:=by unfold Nz;repeat rw[if_neg aa]
    rw[this];exact kn f0 _ hR [hr 9 a1,oz 29 hin,hr 33 (decide_eq_false hlo),hr 37 (show decide (14<=o.Kind)=true from decide_eq_true hhi)] (kQ R h0)
   have a33:decide (o.Kind<0)=false:=decide_eq_false hlo;have a37:decide (14<=o.Kind)=false:=decide_eq_false hhi;unfold Nz;obtain⟨k,hk,b⟩:∃k:Nat,o.Kind=(k:Int)/\k<14:=⟨o.Kind.toNat,aa,aa⟩;have a:=ags hk b;rcases(by omega:k=0\/k=1\/k=2\/k=3\/k=4\/k=5\/k=6\/k=7\/k=8\/k=9\/k=10\/k=11\/k=12\/k=13) with rfl|rfl|rfl|rfl|rfl|rfl|rfl|rfl|rfl|rfl|rfl|rfl|rfl|rfl
   .repeat rw[if_neg aa]
    exact kn f0 _ hR [hr 9 a1,oz 29 hin,hr 33 a33,hr 37 a37,bR 42 a] (kQ R h0)
   .exact absurd hk hk1
   .rw[if_pos aa];have hr0:=hi0 (UI R o (eL R o.By));exact kn f0 _ hR [hr 9 a1,oz 29 hin,hr 33 a33,hr 37 a37,bR 42 a,bR 48 a,hof fI 55 hR o.By 16,hla 56 hR (Zu fI R o (eL R o.By))] (kQ R hr0)
   .repeat rw[if_neg aa]
    rw[if_pos aa];have hr0:=hi0 (Q9 R o (eL R o.By));exact kn f0 _ hR [hr 9 a1,oz 29 hin,hr 33 a33,hr 37 a37,bR 42 a,bR 48 a,hof fI 55 hR o.By 16,hla 56 hR (Zv fI R o (eL R o.By))] (kQ R hr0)
   .repeat rw[if_neg aa]
    exact kn f0 _ hR [hr 9 a1,oz 29 hin,hr 33 a33,hr 37 a37,bR 42 a] (kQ R h0)
   .repeat rw[if_neg aa]
    rw[if_pos aa];have hr0:=hi0 (UJ R o (eL R o.By));exact kn f0 _ hR [hr 9 a1,oz 29 hin,hr 33 a33,hr 37 a37,bR 42 a,bR 48 a,hof fI 55 hR o.By 16,hla 56 hR (ZH fI R o (eL R o.By))] (kQ R hr0)
   .repeat rw[if_neg aa]
    rw[if_pos aa];have hr0:=hi0 (UK R (eL R o.By));exact kn f0 _ hR [hr 9 a1,oz 29 hin,hr 33 a33,hr 37 a37,bR 42 a,bR 48 a,hof fI 55 hR o.By 16,hla 56 hR (ZI fI R o (eL R o.By))] (kQ R hr0)
   .repeat rw[if_neg aa]
    exact kn f0 _ hR [hr 9 a1,oz 29 hin,hr 33 a33,hr 37 a37,bR 42 a] (kQ R h0)
   .repeat rw[if_neg aa]
    rw[if_pos aa];have hr0:=hi0 (UM R o (eL R o.By));exact kn f0 _ hR [hr 9 a1,oz 29 hin,hr 33 a33,hr 37 a37,bR 42 a,bR 48 a,hof fI 55 hR o.By 16,hla 56 hR (ZJ fI R o (eL R o.By))] (kQ R hr0)
   .repeat rw[if_neg aa]
    rw[if_pos aa];have hr0:=hi0 (UQ R o);exact kn f0 _ hR [hr 9 a1,oz 29 hin,hr 33 a33,hr 37 a37,bR 42 a,bR 48 a,hof fI 55 hR o.By 16,hla 56 hR (ZL fI R hg (eL R o.By))] (kQ R hr0)
   .repeat rw[if_neg aa]
    rw[if_pos aa];have hr0:=hi0 (LD R o (eL R o.By));exact kn f0 _ hR [hr 9 a1,oz 29 hin,hr 33 a33,hr 37 a37,bR 42 a,bR 48 a,hof fI 55 hR o.By 16,hla 56 hR (Pv fI R o (eL R o.By))] (kQ R hr0)
   .repeat rw[if_neg aa]
    rw[if_pos aa];have hr0:=hi0 (Re R o);exact kn f0 _ hR [hr 9 a1,oz 29 hin,hr 33 a33,hr 37 a37,bR 42 a,bR 48 a,hof fI 55 hR o.By 16,hrr 56 f0 16 [.agg (aJ o),iG (eL R o.By)] hR (ZM fI hR o (eL R o.By))] (kQ R hr0)
   .repeat rw[if_neg aa]
    rw[if_pos aa];have hr0:=hi0 (LD R o (eL R o.By));exact kn f0 _ hR [hr 9 a1,oz 29 hin,hr 33 a33,hr 37 a37,bR 42 a,bR 48 a,hof fI 55 hR o.By 16,hla 56 hR (Pv fI R o (eL R o.By))] (kQ R hr0)
   .repeat rw[if_neg aa]
    rw[if_pos aa];have hr0:=hi0 (Rf R o);exact kn f0 _ hR [hr 9 a1,oz 29 hin,hr 33 a33,hr 37 a37,bR 42 a,bR 48 a,hof fI 55 hR o.By 16,hrr 56 f0 16 [.agg (aJ o),iG (eL R o.By)] hR (ZN fI hR o (eL R o.By))] (kQ R hr0)
structure Gi where
 op:DIdent->Option DOp
 bef:DIdent->DIdent->Bool
 lev:DIdent->Int
 cards:List DCard
 card:Int->Option DCard
def Gi.o(I:Gi)(x:DIdent):DOp:=(I.op x).getD ip
def EZ:DCard:=⟨0,0,0,0,0⟩
structure GiOk (gl:List (Nat×List G)) (gg:DGraphGraph) (I:Gi):Prop where
 op:∀x,ba prog gl 73 [.ptr (av gg) 0,.agg (aj x)] (.tup [.agg (aJ (I.o x)),bG (I.op x).isSome])
 bef:∀x y,ba prog gl 198 [.ptr (av gg) 0,.agg (aj x),.agg (aj y)] (bG (I.bef x y))
 lev:∀x,ba prog gl 64 [.ptr (av gg) 0,.agg (aj x)] (iG (I.lev x))
 cards:ba prog gl 71 [.ptr (av gg) 0] (aE bv I.cards)
 card:∀d,ba prog gl 127 [.ptr (av gg) 0,iG d] (.tup [.agg (bv ((I.card d).getD EZ)),bG (I.card d).isSome])
def LE(I:Gi)(x:DOp)(d:Int):Bool:=bif decide (x.Kind=13) then decide (d=x.Old) else bif decide (x.Device≠0) then decide (d=x.Device) else bif(I.card d).isSome then decide (((I.card d).getD EZ).Member=x.Member) else false
def acx(I:Gi)(a b:DOp):Bool:=bif decide (a.Kind=3) then LE I a b.By else bif decide (a.Kind=13) then(bif decide (b.Kind=12)&&decide (a.Of=b.Of) then false else LE I a b.By) else bif decide (a.Kind=12) then(decide (b.Kind=13)&&decide (b.Of=a.Of)&&decide (a.At<=b.At)) else false
def mf(I:Gi)(x y:DIdent):Bool:=(I.op x).isSome&&(I.op y).isSome&& !decide (x=y)&& !I.bef y x&& !I.bef x y&&acx I (I.o x) (I.o y)
section
variable {gl:List (Nat×List G)} {gg:DGraphGraph} {I:Gi} (h:GiOk gl gg I)
include h
theorem US(x:DOp)(d:Int):ba prog gl 302 [.ptr (av gg) 0,.agg (aJ x),iG d] (bG (LE I x d)):=by
 have hc:=h.card d;unfold LE;refine Gh func302 ?_;cases b1:decide (x.Kind=13) with
 |true=>exact Ar [hr 11 b1] []
 |false=>
  cases b2:decide (x.Device≠0) with
  |true=>exact Ar [hr 11 b1,hr 18 b2] []
  |false=>
   cases b3:(I.card d).isSome with
   |false=>rw[b3] at hc;exact Ar [hr 11 b1,hr 18 b2,hf 26 hc] []
   |true=>rw[b3] at hc;exact Ar [hr 11 b1,hr 18 b2,hf 26 hc] []
theorem Hj(x y:DIdent):ba prog gl 238 [.ptr (av gg) 0,.agg (aj x),.agg (aj y)] (bG (mf I x y)):=by
 have h1:=h.op x;have h2:=h.op y;have h3:=h.bef y x;have h4:=h.bef x y;have hg:=US h (I.o x) (I.o y).By;unfold mf;generalize I.o x=a at h1 hg⊢;generalize I.o y=b at h2 hg⊢;refine Gh func238 ?_;cases c1:(I.op x).isSome with
 |false=>rw[c1] at h1;exact Ar [hf 15 h1,hf 21 h2] []
 |true=>
  rw[c1] at h1;cases c2:(I.op y).isSome with
  |false=>rw[c2] at h2;exact Ar [hf 15 h1,hf 21 h2] []
  |true=>
   rw[c2] at h2;cases c3:decide (x=y) with
   |true=>exact Ar [hf 15 h1,hf 21 h2,hV 33 (dU x y c3)] []
   |false=>
    cases c4:I.bef y x with
    |true=>rw[c4] at h3;exact Ar [hf 15 h1,hf 21 h2,hV 33 (dU x y c3),hf 39 h3] []
    |false=>
     rw[c4] at h3;cases c5:I.bef x y with
     |true=>rw[c5] at h4;exact Ar [hf 15 h1,hf 21 h2,hV 33 (dU x y c3),hf 39 h3,hf 45 h4] []
     |false=>
      rw[c5] at h4;unfold acx;cases k3:decide (a.Kind=3) with
      |true=>
       have k13:decide (a.Kind=13)=false:=by rw[of_decide_eq_true k3];rfl
       exact Ar [hf 15 h1,hf 21 h2,hV 33 (dU x y c3),hf 39 h3,hf 45 h4,hr 50 k3,hr 54 k13,hf 74 hg] []
      |false=>
       cases k13:decide (a.Kind=13) with
       |true=>
        cases j12:decide (b.Kind=12) with
        |false=>exact Ar [hf 15 h1,hf 21 h2,hV 33 (dU x y c3),hf 39 h3,hf 45 h4,hr 50 k3,hr 51 k13,hr 54 k13,hr 58 j12,hf 74 hg] []
        |true=>
         cases jo:decide (a.Of=b.Of) with
         |true=>exact Ar [hf 15 h1,hf 21 h2,hV 33 (dU x y c3),hf 39 h3,hf 45 h4,hr 50 k3,hr 51 k13,hr 54 k13,hr 58 j12,hV 65 (dU a.Of b.Of jo)] []
         |false=>exact Ar [hf 15 h1,hf 21 h2,hV 33 (dU x y c3),hf 39 h3,hf 45 h4,hr 50 k3,hr 51 k13,hr 54 k13,hr 58 j12,hV 65 (dU a.Of b.Of jo),hf 74 hg] []
       |false=>
        cases k12:decide (a.Kind=12) with
        |false=>exact Ar [hf 15 h1,hf 21 h2,hV 33 (dU x y c3),hf 39 h3,hf 45 h4,hr 50 k3,hr 51 k13,hr 77 k12] []
        |true=>
         cases j13:decide (b.Kind=13) with
         |false=>exact Ar [hf 15 h1,hf 21 h2,hV 33 (dU x y c3),hf 39 h3,hf 45 h4,hr 50 k3,hr 51 k13,hr 77 k12,hr 80 j13] []
         |true=>
          cases jo:decide (b.Of=a.Of) with
          |false=>exact Ar [hf 15 h1,hf 21 h2,hV 33 (dU x y c3),hf 39 h3,hf 45 h4,hr 50 k3,hr 51 k13,hr 77 k12,hr 80 j13,hV 86 (dU b.Of a.Of jo)] []
          |true=>exact Ar [hf 15 h1,hf 21 h2,hV 33 (dU x y c3),hf 39 h3,hf 45 h4,hr 50 k3,hr 51 k13,hr 77 k12,hr 80 j13,hV 86 (dU b.Of a.Of jo)] []
end
def xG(c k:Nat):Nat:=c+k
theorem ZO(hR:RlOk R)(c:Nat):KS (kO [] [] 0 14 c) (dT f0 R) (dT (xG c) R):=λi o h0=>by
 rw[kD] at h0;obtain⟨k,hk,e,h⟩:=pU h0;subst e;have hκ:∀k,(∃ob,dh f0 R k=some ob)->kO [] [] 0 14 c (f0 k)=some (xG c k):=λk ⟨ob,h⟩=>by have:=fL h;show(bif Nat.blt k 0 then _ else bif Nat.blt k (0+14) then some (c+(k-0)) else none)=_;rw[show Nat.blt k 0=false from by cases hb:Nat.blt k 0 with|false=>rfl|true=>simp_all,show Nat.blt k (0+14)=true from Nat.ble_eq_true_of_le aa];rfl
 obtain⟨a,h1,h2⟩:=vV hκ hR k o h;grind [nt]
theorem UT{κ:Nat->Option Nat}:InP κ [] [] []:=λk o0 h=>by cases h
def hrn(d c:Nat)(args:List G){P:Program}{gl:List (Nat×List G)}{fid:FuncId}{args0:List G}{R:DRollRoll}(hR:RlOk R)(hM:CO P gl fid args0 [] 0 0 (.ref 0 0) (dT f0 R))(hc:aK P fid=true:=by kernel_rfl)(hgs:args.map (qg (vi []) 20)=args0:=by kernel_rfl):HP:=
 hfm d [] 0 14 c [] args (dT (xG c) R) hM UT (ZO hR c) hc rfl rfl hgs
def Bh(I:Gi)(id:DIdent)(R:DRollRoll)(x:DIdent):DRollRoll:=bif I.bef x id then Dd R (I.o x) x else R
def E0(I:Gi)(l:List DIdent)(id:DIdent):DRollRoll:=l.foldl (Bh I id) (jR I.cards)
structure LsOk (gl:List (Nat×List G)) (l:DAuthList) (I:Gi):Prop where
 g:GiOk gl l.g I
 c:CdOk I.cards
 o:∀x∈l.row,OpD (I.o x) x
 n:l.row.length<=1000
theorem ZP{I:Gi}(hR:RlOk R)(hx:OpD (I.o x) x):RlOk (Bh I id R x):=by grind [Bh,yK]
theorem Px{I:Gi}{id:DIdent}:∀{l:List DIdent} {R:DRollRoll},RlOk R->(∀x∈l,OpD (I.o x) x)->RlOk (l.foldl (Bh I id) R)
 |[],R,h,_=>h
 |x::r,R,h,hx=>Px (l:=r) (ZP h (hx x aC)) (by grind)
theorem NN{I:Gi}(hc:CdOk I.cards)(h:∀x∈l,OpD (I.o x) x)(id:DIdent):RlOk (E0 I l id):=Px (pn hc.r) h
section
variable {gl:List (Nat×List G)}
end
abbrev dm(l:List DIdent):Option Ob:=some ⟨36,l.flatMap aj,none⟩
def aex(ρ:List (Nat×Nat))(f f':Nat->Nat):Bool:=L0.all λk=>match lE ρ (f k) with|some j=>Nat.beq j (f' k)|none=>false
theorem ZQ{ρ:List (Nat×Nat)}{f f':Nat->Nat}(h:aex ρ f f'=true)(hk:k<14):lE ρ (f k)=some (f' k):=by have:=List.all_eq_true.1 h k (by have:k∈List.range 14:=List.mem_range.2 hk;exact this);grind [bc]
abbrev rlC(ρ:List (Nat×Nat))(f f':Nat->Nat){R:DRollRoll}(hR:RlOk R)(h:aex ρ f f'=true:=by kernel_rfl):List HP:=L0.map λk=>hc (vV (κ:=lE ρ) (f:=f) (f':=f') (λk ⟨ob,hk⟩=>ZQ h (fL hk)) hR k)
abbrev kd1:List (Nat×Rk):=(0,.row)::L0.map λk=>(k+1,.any)
abbrev stO(l:List DIdent)(c:Nat)(R:DRollRoll):aQ:=(0,dm l)::dT (xG c) R
abbrev ρe0:List (Nat×Nat):=[(0,0),(1,2),(2,3),(3,4),(4,5),(5,6),(6,7),(7,8),(8,9),(9,10),(10,11),(11,12),(12,13),(13,14),(14,15),(15,1)]
abbrev ρe1:List (Nat×Nat):=[(0,0),(1,1),(2,2),(3,3),(4,4),(5,5),(6,6),(7,7),(8,8),(9,9),(10,10),(11,11),(12,12),(13,13),(14,14),(15,15)]
abbrev ρe2:List (Nat×Nat):=[(0,0),(1,1),(2,2),(3,3),(4,4),(5,5),(6,18),(7,19),(8,20),(9,21),(10,22),(11,23),(12,24),(13,25),(14,26),(15,15)]
abbrev ρe3:List (Nat×Nat):=[(0,0),(1,1),(2,2),(3,3),(4,4),(5,5),(6,6),(7,7),(8,8),(9,9),(10,10),(11,11),(12,12),(13,13),(14,14)]
section
variable {gl:List (Nat×List G)}
theorem ZR{gg:DGraphGraph}{I:Gi}(h:GiOk gl gg I)(hc:CdOk I.cards){al:DAuthList}(hal:al.g=gg)(hl:∀x∈l,OpD (I.o x) x)(hn:l.length<=1000)(id:DIdent):CO prog gl 240 [.ptr (dF al) 0,.rsl 0 0 l.length,.agg (aj id)] [(0,dm l)] 1 1 (.ref 1 0) (stO l 1 (E0 I l id)):=by
 subst hal;have hQ:∀k,RlOk (E0 I (l.take k) id):=λk=>NN hc (λx hx=>hl x (List.mem_of_mem_take hx)) id;refine JJ func240 ?_;refine pN (λk:Nat=>(s0 46 gl [(0,.ptr (dF al) 0),(5,.ref 15 0),(7,.ref 1 0),(18,.rsl 0 0 l.length),(19,iG (ah l)),(20,iG (k:Int))] (stO l 1 (E0 I (l.take k) id)++[(15,Fs id)]) 16 1)) 1110122 (iw (n:=l.length) aa) [hf 16 h.cards,hrn 17 2 [aE bv I.cards] (pn hc.r) (UH gl hc)] (Go.Proofs.YtaiecngnppbhlaaGreatDoor.hc (el l)::Go.Proofs.YtaiecngnppbhlaaGreatDoor.hc (ac.imm l)::rlC ρe0 (xG 2) (xG 1) (hQ 0)) (λB k v hs k5 c=>?_) [] ρe0 kd1;unfold qZ at hs;split at hs
 .rename_i hlt;obtain rfl:=cP hs;obtain⟨x,hx⟩:∃x,l[k]?=some x:=⟨_,fy hlt⟩;have hz:=cQ hx;have k5:=k5 _ rfl;have hq:=hQ k;have a:=hl x (bO hx);have hb:=h.bef x id;unfold E0 at k5 hq⊢;rw[List.take_add_one,hx,Option.toList_some,List.foldl_append,List.foldl_cons,List.foldl_nil] at k5;generalize (l.take k).foldl (Bh I id) (jR I.cards)=Q at hq k5⊢;unfold Bh at k5;cases c1:I.bef x id with
  |false=>rw[c1] at hb k5;exact jw [hr 21 (fp hx),bR 22 (ac.ixrZ 0 hz),bR 23 (ac.pt0Z aW hz),hf 30 hb,hbb 44 (Xl (q:=k) aa)] (Go.Proofs.YtaiecngnppbhlaaGreatDoor.hc (el l)::Go.Proofs.YtaiecngnppbhlaaGreatDoor.hc (ac.imm l)::rlC ρe1 (xG 1) (xG 1) hq) k5 [] ρe1 kd1
  |true=>rw[c1] at hb k5;have b:=yK hq a;exact jw [hr 21 (fp hx),bR 22 (ac.ixrZ 0 hz),bR 23 (ac.pt0Z aW hz),hf 30 hb,hf 37 (h.op x),It 43 (xG 1) 18 [.agg (aJ (I.o x)),.agg (aj x)] hq b (UG gl hq a),hbb 44 (Xl (q:=k) aa)] (Go.Proofs.YtaiecngnppbhlaaGreatDoor.hc (el l)::Go.Proofs.YtaiecngnppbhlaaGreatDoor.hc (ac.imm l)::rlC ρe2 (fW (xG 1) 18) (xG 1) b) k5 [] ρe2 kd1
 .split at hs
  .rename_i he;subst he;rw[List.take_length];exact ZT [hr 21 (gz (s:=l))] (Go.Proofs.YtaiecngnppbhlaaGreatDoor.hc (ac.imm l)::rlC ρe3 (xG 1) (xG 1) (NN hc hl id)) ρe3 kd1
  .cases hs
def pi(I:Gi)(vd:FM DIdent Bool)(out:List DIdent)(x:DIdent):List DIdent:=bif bU (vd.get x) then out else bif decide (Bw (E0 I out x) (I.o x)=0) then out++[x] else out
def mR(I:Gi)(al:DAuthList):List DIdent:=al.row.foldl (pi I al.void) []
theorem Rh{I:Gi}{vd:FM DIdent Bool}{out:List DIdent}{y:DIdent}(h:y∈pi I vd out x):y∈out\/y=x:=by grind [pi]
theorem RG{I:Gi}{vd:FM DIdent Bool}{out:List DIdent}:(pi I vd out x).length<=out.length+1:=by grind [pi]
theorem E1{I:Gi}{vd:FM DIdent Bool}:∀{l out:List DIdent},(∀y∈l.foldl (pi I vd) out,y∈out\/y∈l)/\(l.foldl (pi I vd) out).length<=out.length+l.length
 |[],out=>(by grind)
 |x::r,out=>by obtain⟨h1,h2⟩:=E1 (I:=I) (vd:=vd) (l:=r) (out:=pi I vd out x);grind [Rh,RG]
end
theorem UU{κ:Nat->Option Nat}(l:List DIdent):InP κ [0] [(0,dm l)] [(0,dm l)]:=λk o0 h=>by
 rw[bj] at h;split at h
 .rename_i e;subst e;exact⟨0,o0,rfl,by rw[bj,if_pos rfl];exact h,by cases h;exact⟨rfl,.inr ⟨rfl,ac.imm l⟩⟩⟩
 .cases h
theorem ZW{c b:Nat}(h:xG c a=xG c b):a=b:=Nat.add_left_cancel h
theorem PA(hR:RlOk R)(l:List DIdent)(c:Nat):KS (kO [(0,dm l)] [0] 1 14 c) (stO l 1 R) ((0,dm l)::dT (xG c) R):=λi o h0=>by
 rw[bj] at h0;split at h0
 .rename_i e;subst e;exact⟨0,o,rfl,by grind,by cases h0;exact⟨rfl,.inr ⟨rfl,ac.imm l⟩⟩⟩
 .rw[kD] at h0;obtain⟨k,hk,e,h⟩:=pU h0;subst e;have hκ:∀k,(∃ob,dh (xG 1) R k=some ob)->kO [(0,dm l)] [0] 1 14 c (xG 1 k)=some (xG c k):=λk ⟨ob,h⟩=>by have:=fL h;unfold kO xG;rw[show Nat.blt (1+k) 1=false from by cases hb:Nat.blt (1+k) 1 with|false=>rfl|true=>simp_all,show Nat.blt (1+k) (1+14)=true from Nat.ble_eq_true_of_le aa,Nat.add_sub_cancel_left];rfl
  obtain⟨d,h1,h2⟩:=vV hκ hR k o h;refine⟨xG 1 k,d,hκ k ⟨d,h1⟩,?_,h2⟩;show ag ((0,dm l)::dT (xG 1) R) (xG 1 k)=_;rw[bj,if_neg (by unfold xG;omega),kD,pA (λa _ b _ e=>ZW e) hk];exact h1
abbrev oGd(al:DAuthList)(I:Gi)(k:Nat):List DIdent:=(al.row.take k).foldl (pi I al.void) []
abbrev aey(al:DAuthList)(l:List DIdent)(k:Nat):St:=(s0 49 fI [(0,.ptr (dF al) 0),(3,.rsl 0 0 l.length),(11,aE aj al.row),(12,iG (ah al.row)),(13,iG (k:Int))] [(0,dm l)] 1 0)
theorem PB{al:DAuthList}{I:Gi}(h:LsOk fI al I):iV prog fI 142 [.ptr (dF al) 0] 36 (mR I al).length ((mR I al).flatMap aj):=by
 have hn:=h.n;refine OW func142 ?_;refine pN (λk:Nat=>aey al (oGd al I k) k) [1,1,0,1,2,2] (iw (n:=al.row.length) aa) [] [hc (ac.imm [])] (λB k v hs k5 b=>?_) [36] [(0,0)] [(0,.row)];unfold qZ at hs;split at hs
 .rename_i hlt;obtain rfl:=cP hs;obtain⟨x,hx⟩:∃x,al.row[k]?=some x:=⟨_,fy hlt⟩;have hz:=cQ hx;have k5:=k5 _ rfl;have hsub:=E1 (I:=I) (vd:=al.void) (l:=al.row.take k) (out:=[]);have a:=h.o x (bO hx);have hle:(oGd al I k).length<=1000:=Nat.le_trans hsub.2 (by rw[List.length_take];simp;omega);have hO:∀y∈oGd al I k,OpD (I.o y) y:=λy hy=>by
   rcases hsub.1 y hy with h1|h1
   .cases h1
   .exact h.o y (List.mem_of_mem_take h1)
  unfold oGd at k5 hle hO⊢;rw[List.take_add_one,hx,Option.toList_some,List.foldl_append,List.foldl_cons,List.foldl_nil] at k5;generalize (al.row.take k).foldl (pi I al.void) []=l at k5 hle hO⊢;have hd:=ZR h.g h.c (al:=al) rfl hO hle x;have hq:=NN h.c hO x;unfold pi at k5;have hw:=Aj al.void x;cases c1:bU (al.void.get x) with
  |true=>rw[c1] at k5 hw;exact jw [hr 14 (fp hx),bR 15 (ac.ixZ hz),bR 16 (ac.ptZ aW hz),hf 23 (h.g.op x),hm 31 hw,hbb 47 (Xl (q:=k) aa)] [hc (el l),hc (ac.imm l)] k5 [] [(0,0)] [(0,.row)]
  |false=>
   rw[c1,cG] at k5;rw[c1] at hw;have hm:=UR (i:=x) hq a.g;generalize E0 I l x=R at hd hq hm k5;cases c2:decide (Bw R (I.o x)=0) with
   |false=>rw[c2] at k5;exact jw [hr 14 (fp hx),bR 15 (ac.ixZ hz),bR 16 (ac.ptZ aW hz),hf 23 (h.g.op x),Go.Proofs.YtaiecngnppbhlaaGreatDoor.hm 31 hw,hfm 37 [0] 1 14 3 [(0,dm l)] [.ptr (dF al) 0,.rsl 0 0 l.length,.agg (aj x)] ((0,dm l)::dT (xG 3) R) hd (UU l) (PA hq l 3),hrr 40 (xG 3) 17 [.agg (aJ (I.o x)),.agg (aj x)] hq hm,hr 41 c2,hbb 47 (Xl (q:=k) aa)] [hc (el l),hc (ac.imm l)] k5 [] [(0,0)] [(0,.row)]
   |true=>rw[c2] at k5;exact jw [hr 14 (fp hx),bR 15 (ac.ixZ hz),bR 16 (ac.ptZ aW hz),hf 23 (h.g.op x),Go.Proofs.YtaiecngnppbhlaaGreatDoor.hm 31 hw,hfm 37 [0] 1 14 3 [(0,dm l)] [.ptr (dF al) 0,.rsl 0 0 l.length,.agg (aj x)] ((0,dm l)::dT (xG 3) R) hd (UU l) (PA hq l 3),hrr 40 (xG 3) 17 [.agg (aJ (I.o x)),.agg (aj x)] hq hm,hr 41 c2,Tn 46 ac 24 l x aa,hbb 47 (Xl (q:=k) aa)] [hc (el (l++[x])),hc (ac.imm (l++[x]))] k5 [] [(0,18)] [(0,.row)]
 .split at hs
  .rename_i he;subst he;unfold mR;show Gp _ _ _ _ _ _ (aey al ((al.row.take al.row.length).foldl (pi I al.void) []) _);rw[List.take_length];generalize al.row.foldl (pi I al.void) []=l;exact EI [hr 14 (gz (s:=al.row))] (ac.imm l)
  .cases hs
def E5(I:Gi)(x y z:DIdent):Bool:=bif decide (z=x)||I.bef z x then mf I y z else false
def fT(I:Gi)(row:List DIdent)(x y:DIdent):Bool:= !decide (x=y)&&row.any (E5 I x y)
section
variable {gl:List (Nat×List G)} {al:DAuthList} {I:Gi} (h:GiOk gl al.g I)
include h
theorem U0(x y z:DIdent):ba prog gl 303 [.agg (aj z),.ptr (aj x) 0,.ptr [.ptr (dF al) 0] 0,.ptr (aj y) 0] (bG (E5 I x y z)):=by
 have hb:=h.bef z x;have hk:=Hj h y z;unfold E5;refine Gh func303 ?_;cases c1:decide (z=x) with
 |true=>exact Ar [hV 8 (dU z x c1),hf 25 hk] []
 |false=>
  cases c2:I.bef z x with
  |true=>rw[c2] at hb;exact Ar [hV 8 (dU z x c1),hf 16 hb,hf 25 hk] []
  |false=>rw[c2] at hb;exact Ar [hV 8 (dU z x c1),hf 16 hb] []
theorem LF(hn:al.row.length<=1000)(x y:DIdent):ba prog gl 239 [.ptr (dF al) 0,.agg (aj x),.agg (aj y)] (bG (fT I al.row x y)):=by
 have hv:FnV prog gl 303 [] [.ptr (aj x) 0,.ptr [.ptr (dF al) 0] 0,.ptr (aj y) 0] (λz:DIdent=>[.agg (aj z)]) (λb:Bool=>bG b) (λz=>some (E5 I x y z)):=⟨aH,bf,eB aH,λz r e=>by cases e;exact U0 h x y z⟩;have hc:=kP gl hv (Uw (s:=al.row) (p:=E5 I x y) aa λ_ _=>rfl);unfold fT;refine Gh func239 ?_;refine pO [1,0] (s0 18 gl [(3,.ptr [.ptr (dF al) 0] 0),(4,.ptr (aj x) 0),(5,.ptr (aj y) 0)] [] 0 0) [] [Go.Proofs.YtaiecngnppbhlaaGreatDoor.hc (eB (gs:=[.ptr (dF al) 0]) aH),Go.Proofs.YtaiecngnppbhlaaGreatDoor.hc (eB (gs:=aj x) aH),Go.Proofs.YtaiecngnppbhlaaGreatDoor.hc (eB (gs:=aj y) aH)] ?_ [] [];cases c1:decide (x=y) with
 |true=>exact Ar [hV 9 (dy x y (r:=false) (by rw[c1];rfl))] []
 |false=>exact Ar [hV 9 (dy x y (r:=true) (by rw[c1];rfl)),hf 16 hc] []
end
theorem RT{r:G}:tH P fn r=tH P (unS fn) r:=by funext e s;unfold tH unS;rfl
def acy(p:DIdent->Bool)(l:List DIdent)(j:Nat):Option (Nat⊕Bool):=match l[j]? with
 |none=>some (.inr false)
 |some y=>bif p y then some (.inr true) else some (.inl (j+1))
theorem acz{p:DIdent->Bool}(hn:l.length<=1000):bo (acy p l) 0=some (l.any p):=T.eq (T.loop (λj=>j<=l.length/\∀y∈l.take j,p y=false) (λj=>l.length-j) ⟨aa,aC⟩ aa λj ⟨hj,hI⟩=>by
 unfold acy;cases hx:l[j]? with
 |none=>have:l.length<=j:=List.getElem?_eq_none_iff.1 hx;refine .some ?_;show false=l.any p;grind
 |some y=>
  have hlt:=(cr hx).1;dsimp only;cases hp:p y with
  |true=>exact .some (show true=l.any p from(by grind))
  |false=>refine .some ⟨⟨aa,λz hz=>?_⟩,aa⟩;grind [List.take_add_one])
def zG(sen:FM Int Int)(d:Int):Int:=(sen.get d).getD 0
def upB(sen:FM Int Int)(l:List DIdent)(b:Int)(k:Nat)(x:DIdent):Option Int:=bif decide (b<0) then some (k:Int) else(aS l b).bind λy=>bif decide (zG sen x.By<zG sen y.By) then some (k:Int) else some b
def U2(I:Gi)(row l:List DIdent)(sen:FM Int Int)(s:Nat×Int):Option ((Nat×Int)⊕Int):=match l[s.1]? with
 |none=>bif Nat.beq s.1 l.length then some (.inr s.2) else none
 |some x=>bif l.any (fT I row x) then(upB sen l s.2 s.1 x).bind λb=>some (.inl (s.1+1,b)) else some (.inr (s.1:Int))
section
variable {gl:List (Nat×List G)} {al:DAuthList} {I:Gi} (h:GiOk gl al.g I)
theorem Jb(m:FM Int Int)(k:Int):∀σ,bL prog σ 119 false (FM.g mJ iG m) (iG k)=some (iG (zG m k)):=FM.look1 (et:=3) vO aH aH m k rfl
abbrev abt(al:DAuthList)(l:List DIdent)(sen:FM Int Int)(k:Nat)(b:Int):Fr:=[(0,.ptr (dF al) 0),(1,aE aj l),(2,FM.g mJ iG sen),(7,iG b),(12,aE aj l),(13,iG (ah l)),(14,iG (k:Int))]
include h
theorem Vb(hn:al.row.length<=1000)(hl:l.length<=1000){sen:FM Int Int}{r:Int}(hr0:bo (U2 I al.row l sen) (0,-1)=some r):ba prog gl 236 [.ptr (dF al) 0,aE aj l,FM.g mJ iG sen] (iG r):=by
 refine Gh func236 ?_;refine pO [1] (s0 50 gl [(0,.ptr (dF al) 0),(1,aE aj l),(2,FM.g mJ iG sen)] [] 0 0) [] [] ?_ [] [];refine U1 (Q':=tH prog (unS Tryz.f236) (iG r)) aH (λl s hx=>by unfold tH at hx;rcases hx.1 with e|e<;>cases e) RT ?_;refine pN (λs:Nat×Int=>(s0 50 gl (abt al l sen s.1 s.2) [] 0 0)) 11110122 hr0 [] [] (λB s v hs k5 f=>?_) [] [];obtain⟨k,b⟩:=s;unfold U2 at hs;dsimp only at hs;split at hs
 .rename_i hx;cases c0:Nat.beq k l.length with
  |false=>rw[c0] at hs;cases hs
  |true=>rw[c0] at hs;obtain rfl:=cP hs;obtain rfl:=bc c0;obtain rfl:=f _ rfl;exact Ar [hr 15 (gz (s:=l))] []
 .rename_i x hx;have hz:=cQ hx;have hw:=λy=>LF h hn x y;refine pN (λj:Nat=>(s0 50 gl ([(8,iG (k:Int)),(9,.ref 0 0),(19,aE aj l),(20,iG (ah l)),(21,iG (j:Int))]++abt al l sen k b) [(0,Fs x)] 1 0)) 11110122110210122 (acz (p:=fT I al.row x) hl) [hr 15 (fp hx),bR 17 (ac.ixZ hz),bR 18 (ac.ptZ aW hz)] [] (λn j o c m i=>?_) [] [(0,0)];unfold acy at c;split at c
  .rename_i hy;obtain rfl:=cP c;have ha:=i _ rfl;rw[<-ha] at hs;obtain rfl:=cP hs;obtain rfl:=f _ rfl;have hle:l.length<=j:=List.getElem?_eq_none_iff.1 hy;exact Ar [hr 22 (show decide ((j:Int)<ah l)=false from decide_eq_false (by unfold ah;omega))] []
  .rename_i y hy;have a:=cQ hy;have hw:=hw y;cases c1:fT I al.row x y with
   |false=>rw[c1] at c hw;obtain rfl:=cP c;exact jw [hr 22 (fp hy),bR 23 (ac.ixZ a),bR 24 (ac.ptZ aW a),hf 28 hw,hbb 46 (Xl (q:=j) (by have:=(cr hy).1;omega))] [] (m _ rfl) [] [(0,0)]
   |true=>
    rw[c1] at c hw;obtain rfl:=cP c;have ha:=i _ rfl;rw[<-ha,aN] at hs;obtain⟨b',hb',hs⟩:=bS hs;obtain rfl:=cP hs;have k5:=k5 _ rfl;have hkk:k<1000:=by have:=(cr hx).1;omega
    unfold upB at hb';cases c2:decide (b<0) with
    |true=>rw[c2] at hb';obtain rfl:=cP hb';exact jw [hr 22 (fp hy),bR 23 (ac.ixZ a),bR 24 (ac.ptZ aW a),hf 28 hw,hr 30 c2,hbb 48 (Xl (q:=k) aa)] [] k5 [] []
    |false=>
     rw[c2,cG] at hb';obtain⟨z,d,hb'⟩:=bS hb';cases c3:decide (zG sen x.By<zG sen z.By) with
     |true=>rw[c3] at hb';obtain rfl:=cP hb';exact jw [hr 22 (fp hy),bR 23 (ac.ixZ a),bR 24 (ac.ptZ aW a),hf 28 hw,hr 30 c2,hm 35 (Jb sen x.By),bR 39 (ac.ixZ d),bR 41 (ac.fdZ tZ 0 d),hm 42 (Jb sen z.By),hr 43 c3,hbb 48 (Xl (q:=k) aa)] [] k5 [] []
     |false=>rw[c3] at hb';obtain rfl:=cP hb';exact jw [hr 22 (fp hy),bR 23 (ac.ixZ a),bR 24 (ac.ptZ aW a),hf 28 hw,hr 30 c2,hm 35 (Jb sen x.By),bR 39 (ac.ixZ d),bR 41 (ac.fdZ tZ 0 d),hm 42 (Jb sen z.By),hr 43 c3,hbb 48 (Xl (q:=k) aa)] [] k5 [] []
end
abbrev oA(s:A4W):Option Ob:=some ⟨198,FSq s,none⟩
def yv(s t:A4W):A4W:=⟨gM s.a0 t.a0,gM s.a1 t.a1,gM s.a2 t.a2,gM s.a3 t.a3⟩
def wiA(s t:A4W):Nat->A4W
 |0=>s
 |1=>⟨gM s.a0 t.a0,s.a1,s.a2,s.a3⟩
 |2=>⟨gM s.a0 t.a0,gM s.a1 t.a1,s.a2,s.a3⟩
 |3=>⟨gM s.a0 t.a0,gM s.a1 t.a1,gM s.a2 t.a2,s.a3⟩
 |_=>yv s t
def Zx(k:Nat):Option (Nat⊕Unit):=if k<4 then some (.inl (k+1)) else some (.inr ())
theorem Li:bo Zx 0=some ():=T.eq (T.loop (λ_=>True) (λk=>4-k) trivial dL λk _=>by
 unfold Zx;split
 .exact .some ⟨trivial,aa⟩
 .exact .some rfl)
theorem TX(s t:A4W):jg prog gl 131 [.ref 0 0,.agg (FSq t)] [(0,oA s)] 1 (.tup []) [(0,oA (yv s t))] 1:=by
 refine pP func131 ?_;refine pN (λk:Nat=>(s0 20 gl [(0,.ref 0 0),(3,.ptr (FSq t) 0),(5,iG (k:Int))] [(0,oA (wiA s t k))] 1 1)) 11122 Li [] [hc (eB (gs:=FSq t) aH)] (λB k v hs k5 a=>?_) [] [(0,0)] [];rcases k with _|_|_|_|k
 .cases hs;exact jw [hV 16 (jc (P:=prog) (t:=34) s.a0 t.a0)] [] (k5 _ rfl) [] [(0,0)] []
 .cases hs;exact jw [hV 16 (jc (P:=prog) (t:=34) s.a1 t.a1)] [] (k5 _ rfl) [] [(0,0)] []
 .cases hs;exact jw [hV 16 (jc (P:=prog) (t:=34) s.a2 t.a2)] [] (k5 _ rfl) [] [(0,0)] []
 .cases hs;exact jw [hV 16 (jc (P:=prog) (t:=34) s.a3 t.a3)] [] (k5 _ rfl) [] [(0,0)] []
 .exact mt .normal (s0 20 gl [] [(0,oA (yv s t))] 1 1) [] [hr 6 (show decide (((k+1+1+1+1:Nat):Int)<4)=false from decide_eq_false aa)] []
abbrev OG(x:DGraphNode):Option Ob:=some ⟨200,d7 x,none⟩
theorem RE(x:DGraphNode)(t:A4W):jg prog gl 131 [.ref 0 30,.agg (FSq t)] [(0,OG x)] 1 (.tup []) [(0,OG {x with past:=yv x.past t})] 1:=by
 refine pP func131 ?_;refine pN (λk:Nat=>(s0 20 gl [(0,.ref 0 30),(3,.ptr (FSq t) 0),(5,iG (k:Int))] [(0,OG {x with past:=wiA x.past t k})] 1 1)) 11122 Li [] [hc (eB (gs:=FSq t) aH)] (λB k v hs k5 a=>?_) [] [(0,0)] [];rcases k with _|_|_|_|k
 .cases hs;exact jw [hV 16 (jc (P:=prog) (t:=34) x.past.a0 t.a0)] [] (k5 _ rfl) [] [(0,0)] []
 .cases hs;exact jw [hV 16 (jc (P:=prog) (t:=34) x.past.a1 t.a1)] [] (k5 _ rfl) [] [(0,0)] []
 .cases hs;exact jw [hV 16 (jc (P:=prog) (t:=34) x.past.a2 t.a2)] [] (k5 _ rfl) [] [(0,0)] []
 .cases hs;exact jw [hV 16 (jc (P:=prog) (t:=34) x.past.a3 t.a3)] [] (k5 _ rfl) [] [(0,0)] []
 .exact mt .normal (s0 20 gl [] [(0,OG {x with past:=yv x.past t})] 1 1) [] [hr 6 (show decide (((k+1+1+1+1:Nat):Int)<4)=false from decide_eq_false aa)] []
def yt(s:A4W)(n:Nat):A4W:=match n/64 with
 |0=>{s with a0:=gM s.a0 (lB 1 (n%64))}
 |1=>{s with a1:=gM s.a1 (lB 1 (n%64))}
 |2=>{s with a2:=gM s.a2 (lB 1 (n%64))}
 |_=>{s with a3:=gM s.a3 (lB 1 (n%64))}
theorem W0(s:A4W)(h:n<256):jg prog gl 130 [.ref 0 0,iG (n:Int)] [(0,oA s)] 1 (.tup []) [(0,oA (yt s n))] 1:=by
 have hm:u9 (n:Int) 64=some ((n%64:Nat):Int):=by grind [u9]
 have hcn:wJ ((n%64:Nat):Int)=some (n%64):=by grind [wJ]
 have hq:∀q:Nat,n/64=q->Gg (n:Int) 64=some (q:Int):=by grind [Gg,Mx]
 refine pP func130 ?_;have h4:n/64=0\/n/64=1\/n/64=2\/n/64=3:=aa;rcases h4 with e|e|e|e
 .rw[show yt s n={s with a0:=gM s.a0 (lB 1 (n%64))} by unfold yt;rw[e];rfl];exact mt .normal (s0 16 gl [] [(0,oA {s with a0:=gM s.a0 (lB 1 (n%64))})] 1 1) [] [hbb 6 (Tt (hq 0 e)),hbb 11 (KO hm),hV 12 (sM (P:=prog) (t:=34) 1 hcn),hV 13 (jc (P:=prog) (t:=34) s.a0 (lB 1 (n%64)))] []
 .rw[show yt s n={s with a1:=gM s.a1 (lB 1 (n%64))} by unfold yt;rw[e];rfl];exact mt .normal (s0 16 gl [] [(0,oA {s with a1:=gM s.a1 (lB 1 (n%64))})] 1 1) [] [hbb 6 (Tt (hq 1 e)),hbb 11 (KO hm),hV 12 (sM (P:=prog) (t:=34) 1 hcn),hV 13 (jc (P:=prog) (t:=34) s.a1 (lB 1 (n%64)))] []
 .rw[show yt s n={s with a2:=gM s.a2 (lB 1 (n%64))} by unfold yt;rw[e];rfl];exact mt .normal (s0 16 gl [] [(0,oA {s with a2:=gM s.a2 (lB 1 (n%64))})] 1 1) [] [hbb 6 (Tt (hq 2 e)),hbb 11 (KO hm),hV 12 (sM (P:=prog) (t:=34) 1 hcn),hV 13 (jc (P:=prog) (t:=34) s.a2 (lB 1 (n%64)))] []
 .rw[show yt s n={s with a3:=gM s.a3 (lB 1 (n%64))} by unfold yt;rw[e];rfl];exact mt .normal (s0 16 gl [] [(0,oA {s with a3:=gM s.a3 (lB 1 (n%64))})] 1 1) [] [hbb 6 (Tt (hq 3 e)),hbb 11 (KO hm),hV 12 (sM (P:=prog) (t:=34) 1 hcn),hV 13 (jc (P:=prog) (t:=34) s.a3 (lB 1 (n%64)))] []
theorem OH{σ ρ:Type}{step:σ->Option (σ⊕ρ)}{s:σ}{r:ρ}(h:step s=some (.inr r)):bo step s=some r:=by grind [bo,FU,KN]
theorem RF{st:St}{j:Nat}{l:List G}(h:ag st.σ j=some ⟨t,l,none⟩)(k:Nat):Le P st {st with σ:=(j,some ⟨t,l.take k,none⟩)::st.σ}:=by
 rintro cx a w ⟨β,r⟩;have hs:∀i o,ag ((j,some ⟨t,l.take k,none⟩)::st.σ) i=some o->∃c,ag st.σ i=some c/\((i=j/\o=⟨t,l.take k,none⟩/\c=⟨t,l,none⟩)\/o=c):=by grind
 have hs':∀i o,ag st.σ i=some o->∃c,ag ((j,some ⟨t,l.take k,none⟩)::st.σ) i=some c:=by grind
 have hA:Av cx.S0 β ((j,some ⟨t,l.take k,none⟩)::st.σ)=Av cx.S0 β st.σ:=by grind
 refine⟨β,{size:=r.size,defers:=r.defers,loose:=r.loose,rnd:=r.rnd,fr:=λi=>?_,ob:=λi o hi=>?_,inj:=λi d o c b C D h1 h2 h3 h4=>?_,own:=λi o b C h1 h2=>?_,sep:=λi o b C h1 h2=>?_,fresh:=r.fresh,glob:=λg m hl=>?_,keep:=r.keep,old:=r.old,pin:=r.pin}⟩
 .grind
 .show RO P β (Av cx.S0 β ((j,some ⟨t,l.take k,none⟩)::st.σ)) w i o;rw[hA];obtain⟨c,h1,⟨rfl,rfl,rfl⟩|rfl⟩:=hs i o hi
  .rcases r.ob _ _ h1 with⟨e1,e2,e3⟩|⟨b,x,o,e1,_⟩|⟨b,C,cur,e1,e2,e3,e4,e5,e6,e7⟩
   .grind
   .cases e1
   .have e6:l.length<=cur.size:=e6;have e7:∀(j:Nat) (g:G),l[j]?=some g->∃u,cur[j]?=some u/\u.oneCell'=true/\RV β (Av cx.S0 β st.σ) w g u:=e7;refine .inr (.inr ⟨b,C,cur,e1,e2,e3,e4,e5,?_,λx g hg=>e7 x g ?_⟩);all_goals grind
  .exact r.ob _ _ h1
 .obtain⟨e,h1',_⟩:=hs i o h1;obtain⟨f,h2',_⟩:=hs d c h2;grind
 .grind
 all_goals grind
def hcl(c:Nat){P:Program}{σ:aQ}{t:TypeId}{g:G}{i:Nat}{ob:Ob}(h:rF P σ t g=some (i,ob)):HP:=⟨some (.e 999999998 (.tup []) i ob),rF P (CY σ (fR g)) t g=some (i,ob),(SE jT).symm.trans h⟩
section
variable {P:Program} [M:Mix P] {st:St} {Q:Exit->St->Prop} {fn:Func} {Bs:List (St->Prop)} {m:Bool} {p:List Nat}
theorem dSh(j:Nat){l:List G}(k:Nat)(h:Gp P fn Q Bs m p {st with σ:=(j,some ⟨t,l.take k,none⟩)::st.σ})(hj:ag st.σ j=some ⟨t,l,none⟩:=by rfl):Gp P fn Q Bs m p st:=by
 unfold Gp qu at h⊢;cases m with
 |true=>exact pQ (RF hj k) _ _ h
 |false=>exact Tr.le h (RF hj k)
end
abbrev Lj(g:DGraphGraph):G:= .clo (.func 221) [] [.ptr [.ptr (av g) 0] 0]
def ab4{α:Type}(l:List α)(i:Int):Option (Int⊕Unit):=bif decide (i<ah l) then(aS l i).bind λ_=>some (.inl (wI (i+1))) else some (.inr ())
theorem W3{l:List α}(h:l.length<1000000000):bo (ab4 l) (wI (0+1))=some ():=by refine T.eq (T.loop (λi=>∃k:Nat,i=((k+1:Nat):Int)/\k<=l.length) (λi=>l.length+2-i.toNat) ⟨0,rfl,aa⟩ (by grind) ?_);rintro i ⟨k,rfl,hk⟩;unfold ab4;refine .dec (λhh=>?_) λhh=> .some rfl;unfold ah at hh;have ew:wI (((k+1:Nat):Int)+1)=((k+1+1:Nat):Int):=aq aa;refine .bind (.ix aa (x:=l[k+1]) (by grind) (.some ⟨⟨k+1,ew,aa⟩,?_⟩));grind
def zI:List Value:=[.int .i64 0,.int .i64 0,.int .u64 0]
abbrev W4(l:List DIdent):List G:=(l.flatMap aj).take 0++(bN zI (l.length*3)).map .lit++(l.flatMap aj).drop (0+l.length*3)
theorem clr{l:List DIdent}(h:0<l.length):rF prog [ob 0 36 (l.flatMap aj)] 26 (.rsl 0 (0+(0:Int).toNat*3) (l.length-(0:Int).toNat))=some (0,⟨36,W4 l,none⟩):=by have e1:dp prog 26=some 36:=aH;have e2:jj prog 36=some zI:=aH;have e3:bw prog 36=some 3:=aH;have e4:ag [ob 0 36 (l.flatMap aj)] 0=some ⟨36,l.flatMap aj,none⟩:=rfl;show rF prog _ _ (.rsl 0 0 l.length)=_;unfold rF;rw[e1];simp only[e2,e3,e4];rw[if_pos ⟨rfl,h,dL,by grind [RowTy.len,ac],rfl⟩]
theorem RH(l:List DIdent):∀g∈W4 l,bB g:=by grind [RowTy.imm,ac,mN]
theorem W5{g:DGraphGraph}(h:(g.at_.get x).isSome=true):ba prog gl 221 [.agg (aj x),.ptr [.ptr (av g) 0] 0] (bG true):=jk gl (by unfold df;rw[h])
theorem aa4(g:DGraphGraph):FnV prog gl 221 [] [.ptr [.ptr (av g) 0] 0] (λx:DIdent=>[.agg (aj x)]) (λx:Bool=>bG x) (λx=>df x g):=⟨aH,bf,aY (aG 20 _ aH) bf,λx r h=>jk gl h⟩
theorem ixL{g:DGraphGraph}(h:∀x∈l,(g.at_.get x).isSome=true):yj l (λx=>df x g)=some (if l.length=0 then-1 else 0):=by
 unfold yj;cases l with
 |nil=>rfl
 |cons a r=>
  have e:bo (nO (a::r) (λx=>df x g)) 0=some (.inr 0):=by grind [OH,nO,df,ah,aS]
  rw[e];rfl
theorem TY{g:DGraphGraph}(h:∀x∈l,(g.at_.get x).isSome=true)(hl:l.length<1000000000):jg prog gl 220 [.rsl 0 0 l.length,Lj g] [ob 0 36 (l.flatMap aj)] 1 (.rsl 0 0 0) [ob 0 36 []] 1:=by
 refine pP func220 ?_;have hi:=gS gl (aa4 gl g) (ixL h);by_cases h0:l.length=0
 .rw[if_pos h0] at hi;obtain rfl:=List.length_eq_zero_iff.1 h0;exact mt .ret (s0 42 gl [(4,.rsl 0 0 0)] [ob 0 36 []] 1 1) [.rsl 0 0 0] [hq 10 [aE aj [],Lj g] [hc (ac.al [])] hi] [hc (rfl:0=0),hc (ac.imm [])]
 .rw[if_neg h0] at hi;refine pN (λj:Int=>(s0 42 gl [(0,.rsl 0 0 l.length),(1,Lj g),(5,iG 0),(6,iG j)] [ob 0 36 (l.flatMap aj)] 1 1)) 11110122 (W3 (l:=l) hl) [hq 10 [aE aj l,Lj g] [hc (ac.al l)] hi] [hc (el l),hc (aG 20 (Lj g) aH),hc (ac.imm l)] (λB j w hs k5 b=>?_) [] [(0,0)] [(0,.row)];unfold ab4 at hs;rcases bC hs with⟨b1,hs⟩|⟨b1,hs⟩
  .obtain⟨y,a,hs⟩:=bS hs;obtain rfl:=cP hs;exact jw [hr 19 b1,bR 24 (ac.ixrZ 0 a),bR 25 (ac.pt0Z aW a),hf 28 (W5 gl (h y (bO (jP a).2)))] [hc (el l),hc (aG 20 (Lj g) aH),hc (ac.imm l)] (k5 _ rfl) [] [(0,0)] [(0,.row)]
  .obtain rfl:=cP hs;refine pO 1111110 (J:=(s0 42 gl [(0,.rsl 0 0 l.length),(5,iG 0)] [ob 0 36 (W4 l)] 1 1)) [hr 19 b1,bR 38 (ac.sufZ 0 (l:=l) (i:=0) (y:=l) rfl),hcl 1 (clr (l:=l) (Nat.pos_of_ne_zero h0))] [hc (el l),hc (RH l)] ?_ [] [(0,0)] [(0,.row)];refine dSh 0 0 ?_;exact mt .ret (s0 42 gl [(4,.rsl 0 0 0)] [ob 0 36 []] 1 1) [.rsl 0 0 0] [bR 41 (ac.preZ 0 (l:=l) (i:=0) (y:=[]) rfl)] [hc (rfl:0=0),hc (ac.imm [])]
theorem Zy(l:List DIdent):∀g∈l.flatMap aj,∃v,g= .lit v:=by grind [aj]
theorem RI{g:DGraphGraph}{o:DOp}(h:∀x∈o.Past,(g.at_.get x).isSome=true)(hl:o.Past.length<1000000000):iV prog gl 129 [.ptr (av g) 0,.agg (aJ o)] 36 0 []:=by
 have hcl:cU o.Past=some o.Past:=by grind [cU,aT]
 refine OW func129 ?_;refine pO [1,0] (s0 10 gl [(2,.ptr [.ptr (av g) 0] 0),(3,.ptr (aJ o) 0)] [] 0 0) [] [hc (eB (gs:=[.ptr (av g) 0]) aH),hc (eB (gs:=aJ o) aH)] ?_;exact EI [ho 7 [aE aj o.Past] [] (jY gl hcl) (Zy _),tN 9 [0] 1 [ob 0 36 (o.Past.flatMap aj)] [.rsl 0 0 o.Past.length,Lj g] [ob 0 36 []] (TY gl h hl) ⟨⟨rfl,.inr ⟨rfl,ac.imm _⟩⟩,trivial⟩ ⟨⟨rfl,.inr ⟨rfl,ac.imm []⟩⟩,trivial⟩] (ac.imm [])
def hmu(R:List Nat)(c:Nat){P:Program}{σ:aQ}{t:TypeId}{gm gk g:G}{i:Nat}{ob:Ob}(h:dZ P σ t gm gk g=some (i,ob)):HP:=⟨some (.e 999999998 (.lit undef) i ob),dZ P (CY σ (fR gm)) t gm gk g=some (i,ob),(HC jT).symm.trans h⟩
abbrev mE(m:FM DIdent Int):oE:=m.es.map λe=>(ga e.1,iG e.2.1,e.2.2)
abbrev gMp(m:FM DIdent Int):G:= .mp ((mE m).map (·.1)) ((mE m).map (·.2.1)) ((mE m).map (·.2.2)) m.clk
abbrev oM(m:FM DIdent Int):Option Ob:=some ⟨191,[],some (.map (mE m) m.clk)⟩
abbrev oG(cs:List DCard)(n:Nat)(j:Nat):Option Ob:=some ⟨194,[aE bv cs,.mref 1,.rsl j 0 n],none⟩
abbrev zQ(N:List DGraphNode):Option Ob:=some ⟨200,N.flatMap d7,none⟩
theorem RJ(m:FM DIdent Int):FM.g ga iG m=gMp m:=by unfold FM.g gMp mE;simp only[List.map_map];rfl
theorem lkP{m:FM DIdent Int}{k:DIdent}{b:Bool}{v:Int}(h1:(m.get k).getD 0=v)(h2:(m.get k).isSome=b):bL prog [(1,oM m)] 191 true (.mref 1) (.agg (aj k))=some (.tup [iG v,bG b]):=by
 subst h1 h2;have hm:(mE m).map (·.1)=(m.es.map (·.1)).map ga:=by rw[List.map_map,List.map_map];rfl
 have hz:((prog.info? 3).bind (·.zero)).map db=some (iG 0):=aH;obtain⟨z,hz,hv⟩:=Option.map_eq_some_iff.1 hz;unfold bL;rw[show pB prog 191=some (36,3) from by kernel_rfl,show cD (.agg (aj k))=some (ga k) from rfl];dsimp only;rw[show pk [(1,oM m)] (.mref 1)=some (1,191,mE m,m.clk) from rfl];dsimp only;rw[jt.chk,aN,hm,jt.key];grind [FM.get,fz]
theorem adV{m:FM DIdent Int}{k:DIdent}{v:Int}(h1:(m.get k).getD 0=v):bL prog [(1,oM m)] 191 false (.mref 1) (.agg (aj k))=some (iG v):=by
 subst h1;have hm:(mE m).map (·.1)=(m.es.map (·.1)).map ga:=by rw[List.map_map,List.map_map];rfl
 have hz:((prog.info? 3).bind (·.zero)).map db=some (iG 0):=aH;obtain⟨z,hz,hv⟩:=Option.map_eq_some_iff.1 hz;unfold bL;rw[show pB prog 191=some (36,3) from by kernel_rfl,show cD (.agg (aj k))=some (ga k) from rfl];dsimp only;rw[show pk [(1,oM m)] (.mref 1)=some (1,191,mE m,m.clk) from rfl];dsimp only;rw[jt.chk,aN,hm,jt.key];grind [FM.get,fz]
def CW(m:FM DIdent Int)(k:DIdent)(n:Int):FM DIdent Int:=⟨m.es++[(k,n,m.clk)],m.clk+1⟩
theorem aa6{m:FM DIdent Int}{k:DIdent}(h:m.get k=none)(n:Int):dZ prog [(1,oM m)] 191 (.mref 1) (.agg (aj k)) (iG n)=some (1,⟨191,[],some (.map (mE (CW m k n)) (CW m k n).clk)⟩):=by
 have hm:(mE m).map (·.1)=(m.es.map (·.1)).map ga:=by rw[List.map_map,List.map_map];rfl
 unfold dZ;rw[show pB prog 191=some (36,3) from by kernel_rfl,show cD (.agg (aj k))=some (ga k) from rfl,show pk [(1,oM m)] (.mref 1)=some (1,191,mE m,m.clk) from rfl];dsimp only;rw[jt.chk,aN,hm,jt.key];grind [fz,CW,FM.get]
def hlk(d:Nat){P:Program}{σ:aQ}{t:TypeId}{ok:Bool}{i:Nat}{gk g:G}(h:bL P σ t ok (.mref i) gk=some g):HP:=⟨some (.m d g),bL P σ t ok (.mref i) gk=some g,h⟩
structure AddP (cs:List DCard) (m:FM DIdent Int) (N:List DGraphNode) (o:DOp) (i:DIdent) (c:DCard) (kk:Nat):Prop where
 chk:ChkOk o kk
 sm:SmOp o
 cl:pG o=some o
 id:Rs o=some i
 fresh:m.get i=none
 room:N.length<200
 card:hY ⟨cs,m,N⟩ o.By=some (c,true)
 by_:o.By=c.Device
 sig:lq c.Sign (qc o) o.Sig=some true
 create:o.Kind=1->N=[]
 nPast:o.Past.length<1000000000
 par:∀x∈o.Past,∃n:Nat,m.get x=some (n:Int)/\n<200
abbrev z4:A4W:=⟨0,0,0,0⟩
def Z6(m:FM DIdent Int)(N:List DGraphNode)(l:List DIdent)(s:A4W×A4W×Int×Int×Int):Option ((A4W×A4W×Int×Int×Int)⊕(A4W×A4W×Int×Int)):=
 bif decide (s.2.2.2.2<ah l) then(aS l s.2.2.2.2).bind λx=>(aS N ((m.get x).getD 0)).bind λy=>some (.inl (yt s.1 ((m.get x).getD 0).toNat,yv s.2.1 y.past,hE s.2.2.1 y.o.At,hE s.2.2.2.1 (wI (y.level+1)),wI (s.2.2.2.2+1))) else some (.inr (s.1,s.2.1,s.2.2.1,s.2.2.2.1))
def ZA(s t:A4W):Nat->A4W
 |0=>s
 |1=>⟨bD s.a0 t.a0,s.a1,s.a2,s.a3⟩
 |2=>⟨bD s.a0 t.a0,bD s.a1 t.a1,s.a2,s.a3⟩
 |3=>⟨bD s.a0 t.a0,bD s.a1 t.a1,bD s.a2 t.a2,s.a3⟩
 |_=>⟨bD s.a0 t.a0,bD s.a1 t.a1,bD s.a2 t.a2,bD s.a3 t.a3⟩
def Z7(N:List DGraphNode)(o:DOp)(A:A4W)(s:Int×Bool×Int):Option ((Int×Bool×Int)⊕(Int×Bool)):=
 bif decide (s.2.2<ah N) then(aS N s.2.2).bind λy=>bif decide (y.o.By=o.By) then(iX A s.2.2).bind λh=>bif h then some (.inl (hE s.1 y.o.Seq,(bif s.2.1 then true else decide (y.o.Seq=wI (o.Seq-1))),wI (s.2.2+1))) else some (.inl (s.1,s.2.1,wI (s.2.2+1))) else some (.inl (s.1,s.2.1,wI (s.2.2+1))) else some (.inr (s.1,s.2.1))
section
variable {cs:List DCard} {m:FM DIdent Int} {N:List DGraphNode} {o:DOp} {i:DIdent} {c:DCard} {kk:Nat}
abbrev Z8(cs:List DCard)(m:FM DIdent Int)(N:List DGraphNode):G:= .ptr [aE bv cs,gMp m,aE d7 N] 0
theorem AddP.card'(h:AddP cs m N o i c kk):ba prog fI 127 [Z8 cs m N,iG o.By] (.tup [.agg (bv c),bG true]):=by have:=uN fI h.card;grind [av,RJ]
theorem AddP.lacks'(h:AddP cs m N o i c kk):iV prog fI 129 [Z8 cs m N,.agg (aJ o)] 36 0 []:=by have:=RI fI (g:=⟨cs,m,N⟩) (o:=o) (λx hx=>by obtain⟨n,hn,_⟩:=h.par x hx;show(m.get x).isSome=true;rw[hn];rfl) h.nPast;grind [av,RJ]
theorem cf(m:FM DIdent Int):∀e∈mE m,bB e.2.1:=by grind [mN]
abbrev aa7(o:DOp)(a k:Int):Fr:=[(0,.ref 0 0),(3,.ptr (aJ o) 0),(6,.ref 3 0),(11,.ref 4 0),(12,.ref 5 0),(13,iG a),(80,aE aj o.Past),(81,iG (ah o.Past)),(82,iG k)]
abbrev Z9(cs:List DCard)(m:FM DIdent Int)(N:List DGraphNode)(x:DGraphNode)(p b:A4W):aQ:=[(0,oG cs N.length 2),(1,oM m),(2,zQ N),(3,OG x),(4,oA p),(5,oA b)]
theorem TZ(x:DGraphNode){n:Nat}(hn:n<256){r:Bool}(h:iX x.past (n:Int)=some r):ba prog fI 132 [.ptr (d7 x) 30,iG (n:Int)] (bG r):=by
 have hm:u9 (n:Int) 64=some ((n%64:Nat):Int):=by grind [u9]
 have hcn:wJ ((n%64:Nat):Int)=some (n%64):=by grind [wJ]
 have hq:∀q:Nat,n/64=q->Gg (n:Int) 64=some (q:Int):=by grind [Gg,Mx]
 have hd:wI (Int.tdiv (n:Int) 64)=((n/64:Nat):Int):=by grind [bM]
 have ht:Int.tmod (n:Int) 64=((n%64:Nat):Int):=by rw[Int.tmod_eq_emod_of_nonneg aa];rfl
 unfold iX at h;rw[hd,ht,hcn] at h;refine Gh func132 ?_;have h4:n/64=0\/n/64=1\/n/64=2\/n/64=3:=aa;rcases h4 with e|e|e|e
 .rw[e] at h;obtain rfl:=cP h;exact Ar [hbb 7 (Tt (hq 0 e)),hbb 12 (KO hm),hV 13 (Am (P:=prog) (t:=34) x.past.a0 hcn),hV 14 (ju (P:=prog) (t:=34) (fv x.past.a0 (n%64)) 1)] []
 .rw[e] at h;obtain rfl:=cP h;exact Ar [hbb 7 (Tt (hq 1 e)),hbb 12 (KO hm),hV 13 (Am (P:=prog) (t:=34) x.past.a1 hcn),hV 14 (ju (P:=prog) (t:=34) (fv x.past.a1 (n%64)) 1)] []
 .rw[e] at h;obtain rfl:=cP h;exact Ar [hbb 7 (Tt (hq 2 e)),hbb 12 (KO hm),hV 13 (Am (P:=prog) (t:=34) x.past.a2 hcn),hV 14 (ju (P:=prog) (t:=34) (fv x.past.a2 (n%64)) 1)] []
 .rw[e] at h;obtain rfl:=cP h;exact Ar [hbb 7 (Tt (hq 3 e)),hbb 12 (KO hm),hV 13 (Am (P:=prog) (t:=34) x.past.a3 hcn),hV 14 (ju (P:=prog) (t:=34) (fv x.past.a3 (n%64)) 1)] []
theorem W7(h:AddP cs m N o i c kk){p b:A4W}{top lev:Int}(h1:bo (Z6 m N o.Past) (z4,z4,0,1,0)=some (p,b,top,lev))(h2:ZA p b 4=z4)(h3:decide (o.At<top)=false){last:Int}{fol:Bool}(h4:bo (Z7 N o (yv b p)) (0,false,0)=some (last,fol))(h5:decide (o.Seq<=last)=false)(h6:1<o.Seq->fol=true):jg prog fI 57 [.ref 0 0,.agg (aJ o)] [(0,oG cs N.length 2),(1,oM m),(2,zQ N)] 3 (iG 0) [(0,oG cs (N++[(⟨o,i,yv b p,lev⟩:DGraphNode)]).length 3),(1,oM (CW m i N.length)),(3,zQ (N++[⟨o,i,yv b p,lev⟩]))] 4:=by
 have hro:=h.room;refine pP func57 ?_;refine pO 11111111100 (s0 234 fI [(0,.ref 0 0),(3,.ptr (aJ o) 0),(6,.ref 3 0)] [(0,oG cs N.length 2),(1,oM m),(2,zQ N),(3,OG ⟨o,i,z4,1⟩)] 4 3) [hf 24 (IW h.chk),hf 29 (Ds fI h.cl),hf 31 (TP fI h.sm h.id),hlk 40 (lkP (m:=m) (k:=i) (v:=0) (b:=false) (by rw[h.fresh];rfl) (by rw[h.fresh];rfl)),hr 49 (show decide (200<=(N.length:Int))=false from decide_eq_false aa),hq 54 [Z8 cs m N,iG o.By] [hc (cf m),hc (az.al N)] h.card',hf 61 (OD fI h.sm h.by_ h.sig)] [hc (eB (gs:=aJ o) aH),hc (el N),hc (cf m),hc (az.imm N)] ?_ [] [(0,0),(1,1),(2,2),(3,4)] [(2,.row)];refine Ix 1111111110 (s0 234 fI [(0,.ref 0 0),(3,.ptr (aJ o) 0),(6,.ref 3 0)] [(0,oG cs N.length 2),(1,oM m),(2,zQ N),(3,OG ⟨o,i,z4,1⟩)] 4 3) ?_ λd=>?_;rotate_left
 .by_cases hk1:o.Kind=1
  .have e0:decide (0<(N.length:Int))=false:=by rw[h.create hk1];rfl
   exact yl 1111111110 [hr 65 (decide_eq_true hk1),hr 72 e0] [hc (el N),hc (cf m),hc (az.imm N)] d [] [(0,0),(1,1),(2,2),(3,3)] [(2,.row)]
  .exact yl 1111111110 [hr 65 (decide_eq_false hk1)] [hc (el N),hc (cf m),hc (az.imm N)] d [] [(0,0),(1,1),(2,2),(3,3)] [(2,.row)]
 refine Ix 111111111111101 (s0 234 fI [(0,.ref 0 0),(3,.ptr (aJ o) 0),(6,.ref 3 0),(11,.ref 4 0),(12,.ref 5 0),(13,iG top)] (Z9 cs m N ⟨o,i,z4,lev⟩ p b) 6 3) ?_ λd=>?_;rotate_left
 .refine pN (λs:A4W×A4W×Int×Int×Int=>(s0 234 fI (aa7 o s.2.2.1 s.2.2.2.2) (Z9 cs m N ⟨o,i,z4,s.2.2.2.1⟩ s.1 s.2.1) 6 3)) 11111111111110122 h1 [ho 76 [Z8 cs m N,.agg (aJ o)] [hc (cf m),hc (az.al N)] h.lacks' (λg hg=>by cases hg)] [hc (el N),hc (cf m),hc (az.imm N)] (λB s w hs k5 j=>?_) [] [(0,0),(1,1),(2,2),(3,3),(4,5),(5,6)] [(2,.row)];unfold Z6 at hs;rcases bC hs with⟨c1,hs⟩|⟨c1,hs⟩
  .obtain⟨x,l,hs⟩:=bS hs;obtain⟨n,q,hn⟩:=h.par x (bO (jP l).2);have ej:(m.get x).getD 0=(n:Int):=by rw[q];rfl
   rw[ej] at hs;obtain⟨y,a,hs⟩:=bS hs;obtain rfl:=cP hs;exact jw [hr 83 c1,bR 84 (ac.ixZ l),bR 85 (ac.ptZ aW l),hlk 95 (adV ej),bR 96 (az.ixrZ 2 a),hlk 102 (adV ej),tN 103 [4] 7 [(4,oA s.1)] [.ref 4 0,iG (n:Int)] [(0,oA (yt s.1 n))] (W0 fI s.1 aa) ⟨⟨rfl,.inl rfl⟩,trivial⟩ ⟨⟨rfl,.inl rfl⟩,trivial⟩,bR 107 (az.fs0Z aap aaq 30 dL a),tN 108 [5] 7 [(5,oA s.2.1)] [.ref 5 0,.agg (FSq y.past)] [(0,oA (yv s.2.1 y.past))] (TX fI s.2.1 y.past) ⟨⟨rfl,.inl rfl⟩,trivial⟩ ⟨⟨rfl,.inl rfl⟩,trivial⟩,bR 114 (az.fd0Z tZ 3 a),bR 121 (az.fd0Z tZ 34 a)] [hc (el N),hc (cf m),hc (az.imm N)] (k5 _ rfl) [] [(0,0),(1,1),(2,2),(3,3),(4,4),(5,5)] [(2,.row)]
  .obtain rfl:=cP hs;have e:=j _ rfl;simp only[Prod.mk.injEq] at e;obtain⟨rfl,rfl,rfl,rfl⟩:=e;exact yl 111111111111101 [hr 83 c1] [hc (el N),hc (cf m),hc (az.imm N)] d [] [(0,0),(1,1),(2,2),(3,3),(4,4),(5,5)] [(2,.row)]
 refine Ix 11111111111111101 (s0 234 fI [(0,.ref 0 0),(3,.ptr (aJ o) 0),(6,.ref 3 0),(11,.ref 4 0),(12,.ref 5 0),(13,iG top),(17,.ref 6 0)] (Z9 cs m N ⟨o,i,z4,lev⟩ p b++[(6,oA z4)]) 7 3) ?_ λd=>?_;rotate_left
 .refine pN (λk:Nat=>(s0 234 fI [(0,.ref 0 0),(3,.ptr (aJ o) 0),(6,.ref 3 0),(11,.ref 4 0),(12,.ref 5 0),(13,iG top),(17,.ref 6 0),(127,iG (k:Int))] (Z9 cs m N ⟨o,i,z4,lev⟩ p b++[(6,oA (ZA p b k))]) 7 3)) 1111111111111110122 Li [] [hc (el N),hc (cf m),hc (az.imm N)] (λB k v hs k5 j=>?_) [] [(0,0),(1,1),(2,2),(3,3),(4,4),(5,5),(6,6)] [(2,.row)];rcases k with _|_|_|_|k
  .cases hs;exact jw [hV 136 (ju (P:=prog) (t:=34) p.a0 b.a0)] [hc (el N),hc (cf m),hc (az.imm N)] (k5 _ rfl) [] [(0,0),(1,1),(2,2),(3,3),(4,4),(5,5),(6,6)] [(2,.row)]
  .cases hs;exact jw [hV 136 (ju (P:=prog) (t:=34) p.a1 b.a1)] [hc (el N),hc (cf m),hc (az.imm N)] (k5 _ rfl) [] [(0,0),(1,1),(2,2),(3,3),(4,4),(5,5),(6,6)] [(2,.row)]
  .cases hs;exact jw [hV 136 (ju (P:=prog) (t:=34) p.a2 b.a2)] [hc (el N),hc (cf m),hc (az.imm N)] (k5 _ rfl) [] [(0,0),(1,1),(2,2),(3,3),(4,4),(5,5),(6,6)] [(2,.row)]
  .cases hs;exact jw [hV 136 (ju (P:=prog) (t:=34) p.a3 b.a3)] [hc (el N),hc (cf m),hc (az.imm N)] (k5 _ rfl) [] [(0,0),(1,1),(2,2),(3,3),(4,4),(5,5),(6,6)] [(2,.row)]
  .have e:ZA p b (k+1+1+1+1)=z4:=h2;rw[e];exact yl 11111111111111101 [hr 128 (show decide (((k+1+1+1+1:Nat):Int)<4)=false from decide_eq_false aa)] [hc (el N),hc (cf m),hc (az.imm N)] d [] [(0,0),(1,1),(2,2),(3,3),(4,4),(5,5),(6,6)] [(2,.row)]
 refine Ix 11111111111111111111101 (s0 234 fI [(0,.ref 0 0),(3,.ptr (aJ o) 0),(6,.ref 3 0),(19,iG last),(20,bG fol)] [(0,oG cs N.length 2),(1,oM m),(2,zQ N),(3,OG ⟨o,i,yv b p,lev⟩)] 4 3) ?_ λd=>?_;rotate_left
 .refine pN (λs:Int×Bool×Int=>(s0 234 fI [(0,.ref 0 0),(3,.ptr (aJ o) 0),(6,.ref 3 0),(19,iG s.1),(20,bG s.2.1),(157,iG (ah N)),(158,iG s.2.2)] [(0,oG cs N.length 2),(1,oM m),(2,zQ N),(3,OG ⟨o,i,yv b p,lev⟩)] 4 3)) 1111111111111111111110122 h4 [hr 146 h3,tN 152 [3] 7 [(3,OG ⟨o,i,b,lev⟩)] [.ref 3 30,.agg (FSq p)] [(0,OG ⟨o,i,yv b p,lev⟩)] (RE fI ⟨o,i,b,lev⟩ p) ⟨⟨rfl,.inl rfl⟩,trivial⟩ ⟨⟨rfl,.inl rfl⟩,trivial⟩] [hc (el N),hc (cf m),hc (az.imm N)] (λB s w hs k5 j=>?_) [] [(0,0),(1,1),(2,2),(3,3)] [(2,.row)];obtain⟨la,r,k⟩:=s;unfold Z7 at hs;dsimp only at hs;rcases bC hs with⟨c1,hs⟩|⟨c1,hs⟩
  .obtain⟨y,a,hs⟩:=bS hs;obtain⟨n,hn⟩:∃n:Nat,k=(n:Int):=⟨k.toNat,by have:=(jP a).1;omega⟩;rcases bC hs with⟨c2,hs⟩|⟨c2,hs⟩
   .obtain⟨hh,f,hs⟩:=bS hs;rw[hn] at f;have f:=TZ ⟨o,i,yv b p,lev⟩ (n:=n) (by have:=(cr (jP a).2).1;omega) f;rw[<-hn] at f;cases hh
    .obtain rfl:=cP hs;exact jw [hr 159 c1,bR 166 (az.ixrZ 2 a),bR 171 (az.fd0Z tZ 0 a),hr 174 c2,hq 178 [.ptr (d7 ⟨o,i,yv b p,lev⟩) 30,iG k] [] f] [hc (el N),hc (cf m),hc (az.imm N)] (k5 _ rfl) [] [(0,0),(1,1),(2,2),(3,3)] [(2,.row)]
    .obtain rfl:=cP hs;cases r
     .exact jw [hr 159 c1,bR 166 (az.ixrZ 2 a),bR 171 (az.fd0Z tZ 0 a),hr 174 c2,hq 178 [.ptr (d7 ⟨o,i,yv b p,lev⟩) 30,iG k] [] f,bR 185 (az.fd0Z tZ 1 a),bR 193 (az.fd0Z tZ 1 a),hr 197 (rfl:decide (y.o.Seq=wI (o.Seq-1))=decide (y.o.Seq=wI (o.Seq-1)))] [hc (el N),hc (cf m),hc (az.imm N)] (k5 _ rfl) [] [(0,0),(1,1),(2,2),(3,3)] [(2,.row)]
     .exact jw [hr 159 c1,bR 166 (az.ixrZ 2 a),bR 171 (az.fd0Z tZ 0 a),hr 174 c2,hq 178 [.ptr (d7 ⟨o,i,yv b p,lev⟩) 30,iG k] [] f,bR 185 (az.fd0Z tZ 1 a)] [hc (el N),hc (cf m),hc (az.imm N)] (k5 _ rfl) [] [(0,0),(1,1),(2,2),(3,3)] [(2,.row)]
   .obtain rfl:=cP hs;exact jw [hr 159 c1,bR 166 (az.ixrZ 2 a),bR 171 (az.fd0Z tZ 0 a),hr 174 c2] [hc (el N),hc (cf m),hc (az.imm N)] (k5 _ rfl) [] [(0,0),(1,1),(2,2),(3,3)] [(2,.row)]
  .obtain rfl:=cP hs;have e:=j _ rfl;simp only[Prod.mk.injEq] at e;obtain⟨rfl,rfl⟩:=e;exact yl 11111111111111111111101 [hr 159 c1] [hc (el N),hc (cf m),hc (az.imm N)] d [] [(0,0),(1,1),(2,2),(3,3)] [(2,.row)]
 refine pO 111111111111111111111100 (s0 234 fI [(0,.ref 0 0),(3,.ptr (aJ o) 0),(6,.ref 3 0),(19,iG last),(20,bG fol)] [(0,oG cs N.length 2),(1,oM m),(2,zQ N),(3,OG ⟨o,i,yv b p,lev⟩)] 4 3) [] [hc (el N),hc (cf m),hc (az.imm N)] ?_ [] [(0,0),(1,1),(2,2),(3,3)] [(2,.row)];refine Ix 11111111111111111111110 (s0 234 fI [(0,.ref 0 0),(3,.ptr (aJ o) 0),(6,.ref 3 0)] [(0,oG cs N.length 2),(1,oM m),(2,zQ N),(3,OG ⟨o,i,yv b p,lev⟩)] 4 3) ?_ λd=>?_;rotate_left
 .by_cases hs1:1<o.Seq
  .obtain rfl:=h6 hs1;exact yl 11111111111111111111110 [hr 203 h5,hr 207 (decide_eq_true hs1)] [hc (el N),hc (cf m),hc (az.imm N)] d [] [(0,0),(1,1),(2,2),(3,3)] [(2,.row)]
  .exact yl 11111111111111111111110 [hr 203 h5,hr 207 (decide_eq_false hs1)] [hc (el N),hc (cf m),hc (az.imm N)] d [] [(0,0),(1,1),(2,2),(3,3)] [(2,.row)]
 exact mt .ret (s0 234 fI [(4,iG 0)] [(0,oG cs (N++[(⟨o,i,yv b p,lev⟩:DGraphNode)]).length 3),(1,oM (CW m i N.length)),(3,zQ (N++[⟨o,i,yv b p,lev⟩]))] 4 3) [iG 0] [hmu [1] 4 (aa6 h.fresh N.length),Tn 231 az 392 N ⟨o,i,yv b p,lev⟩ aa] [hc (el (N++[⟨o,i,yv b p,lev⟩])),hc (cf (CW m i N.length)),hc (az.imm (N++[⟨o,i,yv b p,lev⟩]))] (ρ:=rI 3++[(3,5)]) (kd:=[(3,.row)])
end
theorem ZB(l:List DCard):∀g∈l.flatMap bv,∃v,g= .lit v:=Gj (λx g hg=>by simp only[bv,List.mem_cons,List.not_mem_nil,or_false] at hg;rcases hg with rfl|rfl|rfl|rfl|rfl<;>exact⟨_,rfl⟩) l
theorem W8{cs:List DCard}(h:xf cs):jg prog gl 56 [aE bv cs] [] 0 (.ref 0 0) [(0,oG cs 0 2),(1,oM ⟨[],0⟩),(2,zQ [])] 3:=by
 have hcl:gK cs=some cs:=by unfold gK aT;rw[if_pos (by have:=h.1;simp;omega)];rfl
 refine pP func56 ?_;exact mt .ret (s0 15 gl [(2,.ref 0 0)] [(0,oG cs 0 2),(1,oM ⟨[],0⟩),(2,zQ [])] 3 0) [.ref 0 0] [ho 5 [aE bv cs] [] (tn gl hcl) (ZB _),hz 13 [0] (wS (i:=0) (c:=3) aH (Lh gl h) (aG 20 _ aH) (bT.imm cs) dL (by rfl) (w5 (zr wZ)))] [hc (bT.al cs),hc (cf ⟨[],0⟩),hc (az.imm [])]
abbrev frG(r:D12G):Fr:=[(1,.ptr (aI r) 0),(3,.ref 0 0)]
structure OfRun (r:D12G) (ms:Nat->FM DIdent Int) (N:List DGraphNode):Prop where
 srt:xf r.Cards
 sml:r.L.length<=1000
 len:N.length=r.L.length
 m0:ms 0=⟨[],0⟩
 step:∀(k:Nat) (o:DOp),r.L[k]?=some o->jg prog fI 57 [.ref 0 0,.agg (aJ o)] [(0,oG r.Cards k 2),(1,oM (ms k)),(2,zQ (N.take k))] 3 (iG 0) [(0,oG r.Cards (k+1) 3),(1,oM (ms (k+1))),(3,zQ (N.take (k+1)))] 4
def ab5(n k:Nat):Option (Nat⊕Unit):=if k<n then some (.inl (k+1)) else if k=n then some (.inr ()) else none
theorem CX(h:n<=1000):bo (ab5 n) 0=some ():=T.eq (T.loop (λk=>k<=n) (λk=>n-k) aa aa λk hk=>by
 unfold ab5;split
 .exact .some ⟨aa,aa⟩
 .rw[if_pos aa];exact .some rfl)
theorem ZC{r:D12G}{ms:Nat->FM DIdent Int}{N:List DGraphNode}(h:OfRun r ms N):jg prog fI 11 [.agg (aI r)] [] 0 (.ref 0 0) [(0,oG r.Cards r.L.length 2),(1,oM (ms r.L.length)),(2,zQ (N.take r.L.length))] 3:=by
 have hn:=h.sml;refine pP func11 ?_;refine Ix 111101 (s0 26 fI (frG r) [(0,oG r.Cards r.L.length 2),(1,oM (ms r.L.length)),(2,zQ (N.take r.L.length))] 3 0) ?_ λa=>?_
 .exact mt .ret (s0 26 fI [(2,.ref 0 0)] [(0,oG r.Cards r.L.length 2),(1,oM (ms r.L.length)),(2,zQ (N.take r.L.length))] 3 0) [.ref 0 0] [] [hc (rfl:r.L.length=r.L.length),hc (cf (ms r.L.length)),hc (az.imm (N.take r.L.length))]
 have hw:jg prog fI 56 [aE bv r.Cards] [] 0 (.ref 0 0) [(0,oG r.Cards 0 2),(1,oM (ms 0)),(2,zQ [])] 3:=by rw[h.m0];exact W8 fI h.srt
 refine pN (λk:Nat=>(s0 26 fI [(1,.ptr (aI r) 0),(3,.ref 0 0),(4,iG (k:Int))] [(0,oG r.Cards k 2),(1,oM (ms k)),(2,zQ (N.take k))] 3 0)) 11110122 (CX hn) [tN 7 [] 1 [] [aE bv r.Cards] [ob 0 194 [aE bv r.Cards,.mref 2,.rsl 3 0 0],(1,oM (ms 0)),(2,zQ [])] hw trivial ⟨⟨rfl,.inl rfl⟩,⟨rfl,rfl,rfl,rfl,.inr ⟨rfl,cf _⟩⟩,⟨rfl,.inr ⟨rfl,az.imm []⟩⟩,trivial⟩] [hc (eB (gs:=aI r) aH),hc (rfl:0=0),hc (cf (ms 0)),hc (az.imm [])] (λB k v hs k5 b=>?_) [] [(0,1),(1,2),(2,3)] [(2,.row)];unfold ab5 at hs;split at hs
 .rename_i hk;obtain rfl:=cP hs;obtain⟨o,ho⟩:∃o,r.L[k]?=some o:=⟨_,fy hk⟩;have hz:aS r.L (k:Int)=some o:=by rw[au];exact ho
  exact jw [hr 14 (show decide ((k:Int)<(r.L.length:Int))=true from decide_eq_true aa),bR 21 (eJ.ixZ hz),bR 22 (eJ.ptZ GN hz),tN 23 [0,1,2] 3 [(0,oG r.Cards k 2),(1,oM (ms k)),(2,zQ (N.take k))] [.ref 0 0,.agg (aJ o)] [(0,oG r.Cards (k+1) 3),(1,oM (ms (k+1))),(2,none),(3,zQ (N.take (k+1)))] (h.step k o ho) ⟨⟨rfl,.inl rfl⟩,⟨rfl,rfl,rfl,rfl,.inr ⟨rfl,cf _⟩⟩,⟨rfl,.inr ⟨rfl,az.imm _⟩⟩,trivial⟩ ⟨⟨rfl,.inl rfl⟩,⟨rfl,rfl,rfl,rfl,.inr ⟨rfl,cf _⟩⟩,⟨rfl,.inr ⟨rfl,az.imm _⟩⟩,trivial⟩,hbb 16 (Xl (q:=k) aa)] [hc (rfl:k+1=k+1),hc (cf (ms (k+1))),hc (az.imm (N.take (k+1)))] (k5 _ rfl) [] [(0,0),(1,1),(2,3)] [(2,.row)]
 .rename_i hk;split at hs
  .rename_i he;subst he;obtain rfl:=cP hs;exact yl 111101 [hr 14 (show decide ((r.L.length:Int)<(r.L.length:Int))=false from decide_eq_false aa)] [hc (rfl:r.L.length=r.L.length),hc (cf (ms r.L.length)),hc (az.imm (N.take r.L.length))] a [] [(0,0),(1,1),(2,2)] [(2,.row)]
  .cases hs
section
variable {α β ρ:Type}
theorem cL{c:Bool}{a b:α}:(bif c then some a else some b)=some (bif c then a else b):=by cases c<;>rfl
theorem T.bindc{x:Option α}{f:α->Option β}{Q:β->Prop}(h:T x λ_=>True)(k:∀v,x= .some v->T (f v) Q):T (x.bind f) Q:=by obtain⟨v,e,_⟩:=h;exact .bind ⟨v,e,k v e⟩
theorem T.for1{step:Int->Option (Int⊕ρ)}{Q:ρ->Prop}(n:Nat)(J:Nat->Prop)(hn:n<2305843009213693952)(h0:J 1)(h:∀k,1<=k->k<n->J k->T (step (k:Int)) (Rd (λs'=>s'=((k+1:Nat):Int)/\J (k+1)) Q))(he:∀k,n<=k->k<=n+1->J k->T (step (k:Int)) (Rd (λ_=>False) Q)):T (bo step 1) Q:=by
 refine T.loop (λs=>∃k:Nat,1<=k/\k<=n+1/\s=(k:Int)/\J k) (λs=>n+1-s.toNat) (by grind) cq ?_;rintro i ⟨k,h1,hk,hik,hj⟩;subst hik;rcases Nat.lt_or_ge k n with hlt|hge
 .refine(h k h1 hlt hj).mono λr hr=>?_;cases r with
  |inl s'=>refine⟨⟨k+1,aa,aa,hr.1,hr.2⟩,?_⟩;rw[hr.1];simp;omega
  |inr r=>exact hr
 .refine(he k hge hk hj).mono λr hr=>?_;cases r with
  |inl s'=>exact hr.elim
  |inr r=>exact hr
theorem T.search{step:Int->Option (Int⊕(Unit⊕ρ))}(l:List α)(p:α->Bool)(g:Nat->α->ρ)(hn:l.length<2305843009213693952)(h:∀(k:Nat) (x:α),l[k]?= .some x->k<l.length->step (k:Int)= .some (bif p x then .inr (.inr (g k x)) else .inl ((k+1:Nat):Int)))(he:step (l.length:Int)= .some (.inr (.inl ()))):T (bo step 0) (λr=>(r= .inl ()/\∀x∈l,p x=false)\/∃k x,l[k]?= .some x/\p x=true/\r= .inr (g k x)/\∀(j:Nat) (y:α),j<k->l[j]?= .some y->p y=false):=by
 refine T.forI l.length (λk=>∀(j:Nat) (y:α),j<k->l[j]?= .some y->p y=false) hn (by grind) (λk hk hj=>?_) λhj=>?_
 .have hx:l[k]?= .some (l[k]'hk):=fy hk;rw[h k _ hx hk];refine .some ?_;cases hp:p l[k] with
  |true=>exact .inr ⟨k,_,hx,hp,rfl,hj⟩
  |false=>constructor<;>grind
 .rw[he];refine .some (.inl ⟨rfl,λx hx=>?_⟩);grind [List.getElem?_of_mem]
end
theorem gT(n a b:Int):fB n a b=some (decide (a<=n/\n<=b)):=by grind [fB]
theorem Cq(n:Nat):AL n=some (decide (n<2305843009213693951)):=by unfold AL;congr 2;grind
def l7(i:DIdent):Bool:=decide (1<=i.By/\i.By<=12/\1<=i.Seq/\i.Seq<=2147483647/\i.Sum<2305843009213693951)
def Cr(n:Nat):Bool:=decide (1<=n/\n<2305843009213693951)
theorem mY(i:DIdent):iM i=some (l7 i):=by grind [iM,l7,gT,Cq]
theorem kS(n:Nat):mg n=some (Cr n):=by grind [mg,Cr]
def yZ(b:DBox):Bool:=Cr b.To&&Cr b.Eph&&decide (b.Body<2305843009213693951)&&decide (b.Tag<2305843009213693951)
theorem Cs{l:List DBox}(hn:l.length<=1000000):T (qw l) λb=>b=l.all yZ:=by
 unfold qw;refine .bind ((T.search l (λb=> !yZ b) (λ_ _=>false) aa (λk x hx hk=>?_) ?_).mono ?_)
 .unfold qv;rw[eA hk,aN,au,hx];simp only[aL,kS,Cq];grind [yZ,aq]
 .unfold qv;rw[eF,cG]
 .rintro r (⟨rfl,h⟩|⟨k,x,hx,hp,rfl,_⟩)
  .refine .some (Eq.symm (List.all_eq_true.2 λx hx=>?_));have:=h x hx;simpa using this
  .refine .some (Eq.symm (Bool.eq_false_iff.2 λh=>?_));have:=List.all_eq_true.1 h x (bO hx);rw[this] at hp;cases hp
theorem Ip{p:α->Bool}{step:Int->Option (Int⊕(Unit⊕Bool))}{next:Unit->Option Bool}{rest:Bool}(l:List α)(hl:l.length<=1000000)(h:∀(k:Nat) (x:α),l[k]?=some x->x∈l->k<l.length->step (k:Int)=some (bif p x then .inl ((k+1:Nat):Int) else .inr (.inr false)))(he:step (l.length:Int)=some (.inr (.inl ())))(hn:T (next ()) λb=>b=rest):T ((bo step 0).bind λx=>ma x next (λq=>some q)) λb=>b=(l.all p&&rest):=by
 refine .bind ((T.search l (λx=> !p x) (λ_ _=>false) aa (λk x hx hk=>?_) he).mono ?_)
 .grind
 .rintro r (⟨rfl,hr⟩|⟨k,x,hx,hp,rfl,_⟩)
  .have:l.all p=true:=by grind
   rw[this,Bool.true_and];exact hn
  .have:l.all p=false:=by grind
   rw[this,Bool.false_and];exact .some rfl
theorem Mq{p:α->Bool}{step:Int->Option (Int⊕(Unit⊕Bool))}{next:Unit->Option Bool}{rest:Bool}(l:List α)(hl:l.length<=1000000)(h:∀(k:Nat) (x:α),l[k]?=some x->x∈l->k<l.length->step (k:Int)=some (bif p x then .inr (.inr true) else .inl ((k+1:Nat):Int)))(he:step (l.length:Int)=some (.inr (.inl ())))(hn:T (next ()) λb=>b=rest):T ((bo step 0).bind λx=>ma x next (λq=>some q)) λb=>b=(l.any p||rest):=by
 refine .bind ((T.search l p (λ_ _=>true) aa (λk x hx hk=>?_) he).mono ?_)
 .grind
 .rintro r (⟨rfl,hr⟩|⟨k,x,hx,hp,rfl,_⟩)
  .have:l.any p=false:=by grind
   rw[this,Bool.false_or];exact hn
  .have:l.any p=true:=by grind
   rw[this,Bool.true_or];exact .some rfl
def yb(o:DOp):Bool:=o.Guards.all (λz=>decide (1<=z/\z<=12))&&(o.Refs.all (λn=>decide (n<2305843009213693951))&&(o.Past.all l7&&(o.Path.all (λn=>Cr n.Pub&&n.Boxes.all yZ)&&(o.Hist.all (λx=>l7 x.Of)&&o.Boxes.all yZ))))
theorem KA{o:DOp}(h:SmOp o):T (vw o) λb=>b=yb o:=by
 have n1:=h.nPast;have n2:=h.nPath;have a:=h.nRefs;have c:=h.nGuards;have d:=h.nHist;have f:=h.nBoxes;unfold vw yb;refine Ip o.Guards aa (λk x hx hm hk=>?_) (by unfold qB;rw[eF,cG]) (Ip o.Refs aa (λk x hx hm hk=>?_) (by unfold qA;rw[eF,cG]) (Ip o.Past aa (λk x hx hm hk=>?_) (by unfold qz;rw[eF,cG]) (Ip o.Path aa (λk x hx hm hk=>?_) (by unfold qy;rw[eF,cG]) (Ip o.Hist aa (λk x hx hm hk=>?_) (by unfold qx;rw[eF,cG]) (by grind [Cs])))))
 .grind [qB,eA,au,aq,gT]
 .grind [qA,eA,au,aq,Cq]
 .grind [qz,eA,au,aq,mY]
 .have e:=(Cs (l:=x.Boxes) (by have:=(h.path x hm).n;omega)).eq;unfold qy;grind [eA,au,aq,kS]
 grind [qx,eA,au,aq,mY]
def Ct(o:DOp):Bool:=o.Path.any (λn=>decide (12<n.Boxes.length))||(o.Hist.any (λn=>decide (208<n.Body.length))||(decide (12<o.Past.length\/5<o.Path.length\/208<o.Body.length\/8<o.Refs.length\/20<o.Hist.length\/6<o.Guards.length)||(if o.Kind=7 then !decide (1<=o.Body.length/\o.Body.length<=20) else if o.Kind=9 then decide (o.Boxes.length≠o.Guards.length) else if o.Kind=10 then !decide (1<=o.Boxes.length/\o.Boxes.length<=6) else if o.Kind=11 then decide (o.Boxes.length≠1) else false)))
theorem Iq(l:List α)(n:Nat):decide ((n:Int)<ah l)=decide (n<l.length):=decide_eq_decide.2 (by unfold ah;omega)
theorem NZ{o:DOp}(h:SmOp o):T (z6 o) λb=>b=Ct o:=by
 have n1:=h.nPast;have n2:=h.nPath;have a:=h.nHist;unfold z6 Ct;refine Mq o.Path aa (λk x hx hm hk=>?_) (by unfold tV;rw[eF,cG]) (Mq o.Hist aa (λk x hx hm hk=>?_) (by unfold tU;rw[eF,cG]) ?_)
 .grind [tV,au,aq,ah]
 .grind [tU,au,aq,ah]
 .have a1:decide ((12:Int)<ah o.Past)=decide (12<o.Past.length):=Iq o.Past 12;have a2:decide ((5:Int)<ah o.Path)=decide (5<o.Path.length):=Iq o.Path 5;have a3:decide ((208:Int)<ah o.Body)=decide (208<o.Body.length):=Iq o.Body 208;have a4:decide ((8:Int)<ah o.Refs)=decide (8<o.Refs.length):=Iq o.Refs 8;have a5:decide ((20:Int)<ah o.Hist)=decide (20<o.Hist.length):=Iq o.Hist 20;have a6:decide ((6:Int)<ah o.Guards)=decide (6<o.Guards.length):=Iq o.Guards 6;have b1:decide ((1:Int)<=ah o.Body/\ah o.Body<=20)=decide (1<=o.Body.length/\o.Body.length<=20):=decide_eq_decide.2 (by unfold ah;omega);have b2:decide ((1:Int)<=ah o.Boxes/\ah o.Boxes<=6)=decide (1<=o.Boxes.length/\o.Boxes.length<=6):=decide_eq_decide.2 (by unfold ah;omega);have b3:decide (ah o.Boxes≠ah o.Guards)=decide (o.Boxes.length≠o.Guards.length):=decide_eq_decide.2 (by unfold ah;omega);have b4:decide (ah o.Boxes≠1)=decide (o.Boxes.length≠1):=decide_eq_decide.2 (by unfold ah;omega);rw[a1,a2,a3,a4,a5,a6];simp only[gT,aL,b1,b2,b3,b4,cL];refine⟨_,rfl,?_⟩;grind
def OO(o:DOp):Bool:=(mz o).getD false
theorem Cu(o:DOp):mz o=some (OO o):=by
 have:T (mz o) λ_=>True:=by unfold mz;repeat'(first|exact T.some trivial|(refine T.bindc ?_ λv _=>?_)|(refine T.ite (λ_=>?_) λ_=>?_))
 obtain⟨b,e,_⟩:=this;unfold OO;rw[e];rfl
def gU(o:DOp):Bool:=(ia o).getD false
theorem jF(o:DOp):ia o=some (gU o):=by
 have:T (ia o) λ_=>True:=by unfold ia;simp only[gT,mY,kS];repeat'(first|exact T.some trivial|(refine T.bindc ?_ λv _=>?_)|(refine T.ite (λ_=>?_) λ_=>?_))
 obtain⟨b,e,_⟩:=this;unfold gU;rw[e];rfl
def dt(a b:DIdent):Bool:=if a.By≠b.By then decide (a.By<b.By) else if a.Seq≠b.Seq then decide (a.Seq<b.Seq) else decide (a.Sum<b.Sum)
theorem pJ(a b:DIdent):oU a b=some (dt a b):=by unfold oU dt;rw[show decide ((a.Sum:Int)<(b.Sum:Int))=decide (a.Sum<b.Sum) from decide_eq_decide.2 aa];grind
structure CheckOk (o:DOp):Prop where
 kind:1<=o.Kind/\o.Kind<=13
 bare:OO o=true
 numbers:gU o=true
 items:yb o=true
 long:Ct o=false
 past:∀(k:Nat) (a b:DIdent),o.Past[k]?=some a->o.Past[k+1]?=some b->dt a b=true
 guards:∀(k:Nat) (a b:Int),o.Guards[k]?=some a->o.Guards[k+1]?=some b->a<b
 create:o.Past=[]↔o.Kind=1
theorem F7(h:1<=k)(h2:k<2305843009213693952):wI ((k:Int)-1)=((k-1:Nat):Int):=by grind [bM]
theorem Cv{o:DOp}(h:SmOp o):T (qE o) λe=>e=0->CheckOk o:=by
 have n1:=h.nPast;have f:=h.nGuards;unfold qE;rw[cL,aL];refine .ite (by grind [T.some]) λhk=>?_;rw[Cu,aL];refine .ite (by grind [T.some]) λhb=>?_;rw[jF,aL];refine .then (v:= !(gU o)|| !(yb o)) ?_ ?_
 .cases hn:gU o with
  |false=>exact .some rfl
  |true=>exact .then (KA h) (.some aC)
 refine .ite (by grind [T.some]) λhn=>?_;refine .then (NZ h) (.ite (by grind [T.some]) λhl=>?_);refine .bind (T.for1 o.Past.length (λk=>∀(j:Nat) (a b:DIdent),j+1<k->o.Past[j]?=some a->o.Past[j+1]?=some b->dt a b=true) aa (by grind) (λk h1 hk hj=>?_) λk hge _ hj=>?_)
 .obtain⟨a0,e0⟩:∃a0,o.Past[k-1]?=some a0:=⟨_,fy aa⟩;obtain⟨a1,e1⟩:∃a1,o.Past[k]?=some a1:=⟨_,fy hk⟩;unfold qD;rw[eA hk,aN,F7 h1 aa,au,au,e0,e1,aq aa];simp only[aL,pJ];refine .ite (λ_=> .some (.some (by grind))) λc=> .some ⟨rfl,λj a b d ha hb'=>?_⟩;grind
 unfold qD;rw[show decide ((k:Int)<ah o.Past)=false from decide_eq_false (by unfold ah;omega),cG];refine .some ?_;have hpast:∀(j:Nat) (a b:DIdent),o.Past[j]?=some a->o.Past[j+1]?=some b->dt a b=true:=by grind
 clear hj;refine .bind (T.for1 o.Guards.length (λk=>∀(j:Nat) (a b:Int),j+1<k->o.Guards[j]?=some a->o.Guards[j+1]?=some b->a<b) aa (by grind) (λk h1 hk hj=>?_) λk hge _ hj=>?_)
 .obtain⟨a0,e0⟩:∃a0,o.Guards[k-1]?=some a0:=⟨_,fy aa⟩;obtain⟨a1,e1⟩:∃a1,o.Guards[k]?=some a1:=⟨_,fy hk⟩;unfold qC;rw[eA hk,aN,F7 h1 aa,au,au,e0,e1,aq aa];simp only[aL];refine .dec (λ_=> .some (.some (by grind))) λc=> .some ⟨rfl,λj a b d ha hb'=>?_⟩;grind
 unfold qC;rw[show decide ((k:Int)<ah o.Guards)=false from decide_eq_false (by unfold ah;omega),cG];refine .some ?_;have hguards:∀(j:Nat) (a b:Int),o.Guards[j]?=some a->o.Guards[j+1]?=some b->a<b:=λj a b ha hb'=>hj j a b (by grind) ha hb';rw[cL,cL,cL,aL];refine .ite (by grind [T.some]) λhc=> .some λ_=>⟨?_,?_,?_,?_,hl,hpast,hguards,?_⟩
 .grind
 .simpa using hb
 .grind
 .grind
 .have e:ah o.Past=0↔o.Past=[]:=by unfold ah;simp_all
  grind
theorem uW{x:Option α}{Q:α->Prop}(h:T x Q):T x λ_=>True:=h.mono (by grind)
theorem KB{p:Nat}{s:DSig}(hp:fS p)(hS:fS s.S)(hb:b.length<=1073741824):T (jJ p b s) λ_=>True:=by
 unfold jJ;have e:fV=some 2305843009213693950:=rfl;simp only[e,aL];refine .bindc ?_ λj _=>?_
 .grind [T.some]
 .refine .ite (λ_=> .some trivial) λ_=>?_;refine .bind ((ka _ hS).mono (by grind [T.bind,T.mono,QE,ka,wL,T.some]))
section
variable {K:Type} [DecidableEq K]
theorem gb{k:K}:∀{l:List K} {n:Nat},bu k l=some n->l[n]?=some k/\∀j,j<n->l[j]?≠some k
 |[],n,h=>by cases h
 |x::r,n,h=>by
  unfold bu at h;split at h
  .grind
  .rename_i e;rw[jH] at h;obtain⟨a,h',rfl⟩:=h;obtain⟨h1,h2⟩:=gb h';grind
theorem jv{k:K}:∀{l:List K},bu k l=none↔k∉l
 |[]=>by simp[bu]
 |x::r=>by
  unfold bu;by_cases h:k=x
  .simp[h]
  .simp[h,jv (l:=r)]
theorem y0{k:K}{l:List K}(h:l[n]?=some k)(h2:∀j,j<n->l[j]?≠some k):bu k l=some n:=by
 cases hk:bu k l with
 |none=>grind [jv]
 |some m=>obtain⟨h3,h4⟩:=gb hk;grind
end
def gO(g:D12G)(id:DIdent):Int:=match bu id g.IDs with
 |none=> -1
 |some k=>(k:Int)
theorem dC(hn:g.IDs.length<=1000000)(id:DIdent):fC g id=some (gO g id):=by
 unfold fC;refine T.eq (.bind ((T.search g.IDs (λx=>decide (x=id)) (λk _=>(k:Int)) aa (λk x hx hk=>?_) ?_).mono ?_))
 .grind [qF,eA,au,aq]
 .grind [qF,eF]
 .rintro r (⟨rfl,h⟩|⟨k,x,hx,hp,rfl,h⟩)
  .have:bu id g.IDs=none:=by grind [jv]
   refine .some ?_;grind [gO]
  .have hp:=of_decide_eq_true hp;subst hp;have:bu x g.IDs=some k:=by grind [y0]
   refine .some ?_;grind [gO]
def UW:DCard:=⟨0,0,0,0,0⟩
def mZ(g:D12G)(d:Int):DCard×Bool:=match g.Cards.find? (λc=>decide (c.Device=d)) with
 |none=>(UW,false)
 |some c=>(c,true)
theorem Cw(hn:g.Cards.length<=1000000)(d:Int):vz g d=some (mZ g d):=by
 unfold vz;refine T.eq (.bind (T.forA g.Cards.length (λk acc=>acc=UW/\∀(j:Nat) (c:DCard),j<k->g.Cards[j]?=some c->c.Device≠d) aa ⟨rfl,(by grind)⟩ (λk acc hk hj=>?_) λacc hj=>?_))
 .obtain⟨c,hc⟩:∃c,g.Cards[k]?=some c:=⟨_,fy hk⟩;unfold tX;dsimp only;rw[eA hk,aN,au,hc,aL];refine .dec (λh=>?_) λh=> .some ⟨aq aa,hj.1,λj c' a b=>?_⟩
  .refine .some (.some ?_);grind [mZ,List.find?_eq_some_iff_getElem]
  grind
 .unfold tX;dsimp only;rw[eF,cG];refine .some (.some ?_);unfold mZ;have:g.Cards.find? (λc=>decide (c.Device=d))=none:=by grind [List.getElem?_of_mem]
  rw[this];rfl
def QF(l:List Int)(n:Int):Bool:=l.any λx=>decide (x=n)
theorem cX{l:List Int}(hn:l.length<=1000000)(n:Int):fb l n=some (QF l n):=by unfold fb QF;refine T.eq ((Mq l hn (rest:=false) (next:=λ_=>some false) (λk x hx hm hk=>?_) ?_ (.some rfl)).mono λv hv=>by simpa using hv);all_goals grind [xq,eA,au,aq,eF]
def nA(l:List DIdent)(n:DIdent):Bool:=l.any λx=>decide (x=n)
theorem kf(hn:l.length<=1000000)(n:DIdent):jL l n=some (nA l n):=by unfold jL nA;refine T.eq ((Mq l hn (rest:=false) (next:=λ_=>some false) (λk x hx hm hk=>?_) ?_ (.some rfl)).mono λv hv=>by simpa using hv);all_goals grind [qJ,eA,au,aq,eF]
def yH(g:D12G)(i k:Nat):Bool:=((g.In[i]?).bind λr=>r[k]?).getD false
structure WfG (g:D12G):Prop where
 nL:g.L.length<=200
 nI:g.IDs.length=g.L.length
 nU:g.Up.length=g.L.length
 nN:g.In.length=g.L.length
 nC:g.Cards.length<=1000
 cards:∀c∈g.Cards,c8 c.Device/\c8 c.Member/\fS c.Sign
 up:∀(i:Nat) (u:List Int),g.Up[i]?=some u->u.length<=12/\∀x∈u,0<=x/\x<(i:Int)
 rows:∀(i:Nat) (r:List Bool),g.In[i]?=some r->r.length=g.L.length
 inlt:∀i k,yH g i k=true->k<i/\i<g.L.length
 ops:∀(i:Nat) (o:DOp),g.L[i]?=some o->SmOp o/\CheckOk o/\fS o.Sig.S
 ids:∀(i:Nat) (o:DOp) (id:DIdent),g.L[i]?=some o->g.IDs[i]?=some id->pV o=some id
 nd:g.IDs.Nodup
 one:∀(i k:Nat) (u:List Int),g.Up[i]?=some u->(k:Int)∈u->yH g i k=true
 tr:∀(i j k:Nat) (u:List Int),yH g i j=true->g.Up[j]?=some u->(k:Int)∈u->yH g i k=true
 la:∀(i k:Nat),yH g i k=true->∃u,g.Up[i]?=some u/\((k:Int)∈u\/∃j v,yH g i j=true/\g.Up[j]?=some v/\(k:Int)∈v)
def kZ(g:D12G)(up:List Int)(k:Nat):Prop:=(k:Int)∈up\/∃j:Nat,(j:Int)∈up/\yH g j k=true
theorem yc(w:WfG g){up:List Int}(h1:up.length<=1000)(h2:∀x∈up,0<=x/\x<(g.L.length:Int)):T (jA g up) λr=>r.length=g.L.length/\∀k,k<g.L.length->(r[k]?=some true↔kZ g up k):=by
 have nL:=w.nL;unfold jA;refine .bind (.make (by unfold ah;omega) (by unfold ah;omega) (by unfold ah;omega) ?_);have e0:wI (ah g.L-1)=(g.L.length:Int)-1:=bM (by unfold ah;omega) (by unfold ah;omega);rw[e0];have e1:(ah g.L).toNat=g.L.length:=by unfold ah;omega
 rw[e1];refine .bind (T.loop (λs=> -1<=s.2/\s.2<g.L.length/\s.1.length=g.L.length/\(∀k:Nat,k<g.L.length->s.2<k->(s.1[k]?=some true↔kZ g up k))/\∀k:Nat,(k:Int)<=s.2->(s.1[k]?=some true↔∃j v,s.2<(j:Nat)/\kZ g up j/\j<g.L.length/\g.Up[j]?=some v/\(k:Int)∈v)) (λs=>(s.2+1).toNat) ⟨by simp only;omega,by simp only;omega,aC,λk hk hi=>by simp only at hi;omega,λk hk=>?_⟩ (by grind) ?_)
 .simp only at hk⊢;constructor
  .intro h;rw[List.getElem?_replicate] at h;split at h<;>cases h
  .rintro⟨j,v,hj,_,hjl,_⟩;omega
 rintro⟨r,i⟩ ⟨p,i1,f,l,a⟩;simp only at p i1 f l a;unfold AJ;dsimp only;refine .dec (λhi=>?_) λhi=> .some (.some ⟨f,λk hk=>l k hk aa⟩);obtain⟨n,rfl⟩:∃n:Nat,i=(n:Int):=⟨i.toNat,aa⟩;have hn:n<g.L.length:=aa;rw[cX aa,aL];have hUp:∃u,g.Up[n]?=some u:=⟨_,fy (by rw[w.nU];exact hn)⟩;obtain⟨u,hu⟩:=hUp;obtain⟨u1,o⟩:=w.up n u hu;have hbeh:∀k,kZ g up k↔((k:Int)∈up\/∃j v,kZ g up j/\g.Up[j]?=some v/\(k:Int)∈v):=λk=>by
  constructor
  .rintro(h|⟨j,hj,c⟩)
   .exact .inl h
   .obtain⟨v,hv,hk|⟨m,v',h3,h4,h5⟩⟩:=w.la j k c
    .exact .inr ⟨j,v,.inl hj,hv,hk⟩
    .exact .inr ⟨m,v',.inr ⟨j,hj,h3⟩,h4,h5⟩
  .rintro(h|⟨j,v,hj|⟨m,hm,d⟩,hv,hk⟩)
   .exact .inl h
   .exact .inr ⟨j,hj,w.one j k v hv hk⟩
   .exact .inr ⟨m,hm,w.tr m j k v d hv hk⟩
 have hlt:∀(j:Nat) (v:List Int) (k:Nat),g.Up[j]?=some v->(k:Int)∈v->k<j:=λj v k hv hk=>by have:=(w.up j v hv).2 _ hk;omega
 refine .bind (T.mono (Q:=λs=>s.length=g.L.length/\(∀k:Nat,k≠n->s[k]?=r[k]?)/\(s[n]?=some true↔kZ g up n)) ?_ ?_)
 .have key:(r[n]?=some true\/(n:Int)∈up)↔kZ g up n:=by grind [WfG.nU]
  refine .ite (λhh=>?_) λhh=>?_
  .have hm:(n:Int)∈up:=by obtain⟨x,hx,hb⟩:=List.any_eq_true.1 hh;grind
   grind [T.set,Int.toNat_natCast]
  grind [QF,T.some]
 .rintro s ⟨s1,s2,s3⟩;obtain⟨b,hb⟩:∃b,s[n]?=some b:=⟨_,fy aa⟩;rw[au,hb,aL];have ew:wI ((n:Int)-1)=(n:Int)-1:=bM aa aa;refine .ite (λhbt=>?_) λhbf=>?_
  .have hbt:b=true:=hbt;subst hbt;have hbn:=s3.1 hb;refine .bind (T.mono (Q:=λt=>t.length=g.L.length/\∀k:Nat,t[k]?=some true↔(s[k]?=some true\/(k:Int)∈u)) (T.forA u.length (λm t=>t.length=g.L.length/\∀k:Nat,t[k]?=some true↔(s[k]?=some true\/∃j,j<m/\u[j]?=some (k:Int))) aa ⟨s1,λk=>aC⟩ (λm t hm hj=>?_) λt hj=>?_) ?_)
   .obtain⟨x,hx⟩:∃x,u[m]?=some x:=⟨_,fy hm⟩;have e:=o x (bO hx);unfold tT;dsimp only;rw[au,hu,aL,eA hm,aN,aL,au,hx,aL];refine .bind (.set e.1 (by grind) (.some ⟨aq aa,by grind,λk=>?_⟩));obtain⟨y,rfl⟩:∃y:Nat,x=(y:Int):=⟨x.toNat,aa⟩;simp only[Int.toNat_natCast];by_cases hk:k=y
    .grind
    .rw[List.getElem?_set_ne (Ne.symm hk),hj.2 k];grind
   .unfold tT;dsimp only;rw[au,hu,aL,eF,cG];refine .some ⟨hj.1,λk=>?_⟩;rw[hj.2 k];constructor
    .grind
    .rintro(h|h)
     .exact .inl h
     .obtain⟨j,hj'⟩:=List.getElem?_of_mem h;grind
   .rintro t ⟨q,t2⟩;refine .some ⟨⟨?_,?_,q,λk hk hik=>?_,λk hk=>?_⟩,?_⟩
    .grind
    .grind
    .replace hik:wI ((n:Int)-1)<k:=hik;rw[ew] at hik;show t[k]?=some true↔_;rw[t2 k];have hku:(k:Int)∉u:=λh=>by have:=o _ h;omega
     rcases Nat.lt_trichotomy k n with h|rfl|h
     all_goals grind
    .replace hk:(k:Int)<=wI ((n:Int)-1):=hk;rw[ew] at hk;show t[k]?=some true↔∃j v,wI ((n:Int)-1)<(j:Nat)/\_;rw[ew,t2 k,s2 k aa,a k aa];grind
    .show(wI ((n:Int)-1)+1).toNat<_;rw[ew];omega
  .have hbf:b=false:=hbf;subst hbf;have hbn:¬kZ g up n:=λh=>by have:=s3.2 h;rw[hb] at this;cases this
   refine .some ⟨⟨?_,?_,s1,λk hk hik=>?_,λk hk=>?_⟩,?_⟩
   .grind
   .grind
   .grind
   .replace hk:(k:Int)<=wI ((n:Int)-1):=hk;rw[ew] at hk;show s[k]?=some true↔∃j v,wI ((n:Int)-1)<(j:Nat)/\_;rw[ew,s2 k aa,a k aa];grind
   .show(wI ((n:Int)-1)+1).toNat<_;rw[ew];omega
theorem WfG.op{g:D12G}(w:WfG g){i:Nat}(h:i<g.L.length):∃o,g.L[i]?=some o/\SmOp o/\CheckOk o:=by obtain⟨o,ho⟩:∃o,g.L[i]?=some o:=⟨_,fy h⟩;grind [ops]
theorem KC(w:WfG g){o:DOp}(hr:r.length=g.L.length):T (lA g o r) λ_=>True:=by
 have nL:=w.nL;unfold lA;refine .bind (T.forA g.L.length (λ_ _=>True) aa trivial (λk b hk _=>?_) λb _=>?_)
 .obtain⟨p,hp,_⟩:=w.op hk;obtain⟨x,hx⟩:∃x,r[k]?=some x:=⟨_,fy aa⟩;unfold jK;dsimp only;rw[eA hk,aN,au,au,hx,hp];simp only[aL];refine .bindc ?_ λj _=> .ite (λ_=> .some ⟨aq aa,trivial⟩) λ_=>?_
  .grind [T.some]
  .refine .ite (λ_=> .some (.some trivial)) λ_=> .bindc ?_ λj _=> .some ⟨aq aa,trivial⟩;grind [T.some]
 .unfold jK;dsimp only;rw[eF,cG];refine .some (.bindc ?_ λj _=> .some trivial);grind [T.some]
structure AddOk (g:D12G) (o:DOp) (up:List Int):Prop where
 check:CheckOk o
 id:∃i,pV o=some i/\bu i g.IDs=none
 room:g.L.length<200
 card:∃c,mZ g o.By=(c,true)/\jJ c.Sign (qc o) o.Sig=some true
 create:o.Kind=1->g.L=[]
 upl:up.length=o.Past.length
 par:∀(k:Nat) (i:DIdent),o.Past[k]?=some i->∃n:Nat,bu i g.IDs=some n/\up[k]?=some (n:Int)
 upb:∀x∈up,0<=x/\x<(g.L.length:Int)
 apart:∀i k:Nat,(i:Int)∈up->(k:Int)∈up->yH g i k=false
 late:∀(i:Nat) (p:DOp),(i:Int)∈up->g.L[i]?=some p->p.At<=o.At
 right:∃r,jA g up=some r/\lA g o r=some true
theorem pK{o:DOp}(h:Ct o=false):o.Past.length<=12:=by grind [Ct]
theorem yd{d:Int}(h:mZ g d=(c,true)):c∈g.Cards/\c.Device=d:=by grind [mZ]
theorem wO{i:Nat}(h:g.In[i]?=some r):yH g i k=(r[k]?).getD false:=by unfold yH;rw[h];rfl
theorem KD(w:WfG g){o:DOp}(ho:SmOp o)(hs:fS o.Sig.S):T (vA g o) λr=>r.1=0->AddOk g o r.2:=by
 have nL:=w.nL;have nI:=w.nI;have nC:=w.nC;have nP:=ho.nPast;unfold vA;refine .bind ((Cv ho).mono λe he=> .dec (by grind [T.some]) λh=>?_);have hc:CheckOk o:=he (by simpa using h);obtain⟨i,ei,i1,B,C,D⟩:=wN ho;rw[ei,aL,dC aa,aL];refine .dec (by grind [T.some]) λhpl=>?_;have hk:bu i g.IDs=none:=by grind [gO]
 refine .dec (by grind [T.some]) λhroom=>?_;have hroom:g.L.length<200:=by unfold ah at hroom;omega
 rw[Cw aa,aL];refine .ite (by grind [T.some]) λf=>?_;obtain⟨c,hcd⟩:∃c,mZ g o.By=(c,true):=by grind
 rw[hcd];refine .then (uV ho) ?_;refine .bindc (by grind [WfG,KB,yd,yY]) λsg hsg=>?_;refine .ite (by grind [T.some]) λl=>?_;have hsg:jJ c.Sign (qc o) o.Sig=some true:=by grind
 rw[cL,aL];refine .ite (by grind [T.some]) λhcr=>?_;have hcr:o.Kind=1->g.L=[]:=λh1=>by rw[decide_eq_true h1,aN] at hcr;have:=of_decide_eq_false hcr;unfold ah at this;exact List.eq_nil_of_length_eq_zero aa
 refine .bind (T.forA o.Past.length (λk acc=>acc.length=k/\(∀(j:Nat) (x:DIdent),j<k->o.Past[j]?=some x->∃n:Nat,bu x g.IDs=some n/\acc[j]?=some (n:Int))/\∀x∈acc,0<=x/\x<(g.L.length:Int)) aa (by grind) (λk acc hk hj=>?_) λacc hj=>?_)
 .obtain⟨x,hx⟩:∃x,o.Past[k]?=some x:=⟨_,fy hk⟩;unfold qI;dsimp only;rw[eA hk,aN,au,hx,aL,dC aa,aL];refine .dec (λ_=> .some (.some (by grind))) λhp=>?_;have hkx:∃n,bu x g.IDs=some n:=by grind [gO]
  obtain⟨n,hn⟩:=hkx;have ep:gO g x=(n:Int):=by unfold gO;rw[hn]
  have hnl:n<g.L.length:=by have:=(cr (gb hn).1).1;omega
  rw[ep];refine .bind (.app cq (.some (by constructor<;>grind [aq])));all_goals grind
 unfold qI;dsimp only;rw[eF,cG];refine .some ?_;obtain⟨a1,a2,a3⟩:=hj;have hup:∀(k:Nat) (x:DIdent),o.Past[k]?=some x->∃n:Nat,bu x g.IDs=some n/\acc[k]?=some (n:Int):=by grind
 clear a2;refine .bind (T.forI acc.length (λk=>(∀(j:Nat) (x y:Nat),j<k->acc[j]?=some (x:Int)->(y:Int)∈acc->yH g x y=false)/\∀(j:Nat) (x:Nat) (p:DOp),j<k->acc[j]?=some (x:Int)->g.L[x]?=some p->p.At<=o.At) aa (by grind) (λk hk hj=>?_) λhj=>?_)
 .obtain⟨x,hx⟩:∃x,acc[k]?=some x:=⟨_,fy hk⟩;have s:=a3 x (bO hx);obtain⟨n,rfl⟩:∃n:Nat,x=(n:Int):=⟨x.toNat,aa⟩;have hnl:n<g.L.length:=aa;obtain⟨r,hr⟩:∃r,g.In[n]?=some r:=⟨_,fy (by rw[w.nN];exact hnl)⟩;obtain⟨p,hp,_⟩:=w.op hnl;unfold qH;rw[eA hk,aN];refine .bind (T.forI acc.length (λm=>∀(j:Nat) (y:Nat),j<m->acc[j]?=some (y:Int)->yH g n y=false) aa (by grind) (λm hm hjm=>?_) λhjm=>?_)
  .obtain⟨y,hy⟩:∃y,acc[m]?=some y:=⟨_,fy hm⟩;have t:=a3 y (bO hy);obtain⟨q,rfl⟩:∃q:Nat,y=(q:Int):=⟨y.toNat,aa⟩;obtain⟨b,hb⟩:∃b,r[q]?=some b:=by grind [WfG.rows]
   unfold qG;rw[eA hm,aN,au,hx,aL,au,hr,aL,au,hy,aL,au,hb,aL];refine .ite (λ_=> .some (.some (.some (by grind)))) λhbf=> .some ⟨aq aa,λj z u hz=>?_⟩;rcases Nat.lt_or_ge j m with hlt|hge
   .exact hjm j z hlt hz
   .obtain rfl:j=m:=aa;rw[hy] at hz;obtain rfl:q=z:=by grind
    grind [wO]
  .unfold qG;rw[eF,cG];refine .some ?_;show T (ma _ _ _) _;dsimp only[ma];rw[au,hx,aL,au,hp,aL];refine .dec (λ_=> .some (.some (by grind))) λhat=> .some ⟨aq aa,λj a y d hx' hy=>?_,λj a A d hx' hp'=>?_⟩
   .rcases Nat.lt_or_ge j k with hlt|hge
    .exact hj.1 j a y hlt hx' hy
    .obtain rfl:j=k:=aa;rw[hx] at hx';obtain rfl:n=a:=by grind
     obtain⟨m,hm⟩:=List.getElem?_of_mem hy;grind
   .rcases Nat.lt_or_ge j k with hlt|hge
    .exact hj.2 j a A hlt hx' hp'
    .obtain rfl:j=k:=aa;rw[hx] at hx';obtain rfl:n=a:=by grind
     rw[hp] at hp';cases hp';omega
 unfold qH;rw[eF,cG];refine .some ?_;obtain⟨b1,b2⟩:=hj;obtain⟨r,hr,v,E⟩:=yc w (up:=acc) aa a3;obtain⟨b,hb,_⟩:=KC w (o:=o) v;show T (ma _ _ _) _;dsimp only[ma];rw[hr,aL,hb,aL];refine .ite (by grind [T.some]) λhbt=> .some λ_=>⟨hc,⟨i,ei,hk⟩,hroom,⟨c,hcd,hsg⟩,hcr,a1,hup,a3,λx y hx hy=>?_,λx p hx hp=>?_,⟨r,hr,?_⟩⟩
 .obtain⟨j,hj⟩:=List.getElem?_of_mem hx;grind
 .obtain⟨j,hj⟩:=List.getElem?_of_mem hx;grind
 grind
def pL(g:D12G)(o:DOp)(i:DIdent)(up:List Int)(r:List Bool):D12G:=⟨g.Cards,g.L++[o],g.IDs++[i],g.Up++[up],g.In.map (·++[false])++[r++[false]]⟩
theorem je{l:List α}{x y:α}{i:Nat}(h:(l++[x])[i]?=some y):(i<l.length/\l[i]?=some y)\/(i=l.length/\y=x):=by grind
theorem Ms{l:List α}{x y:α}{i:Nat}(h:l[i]?=some y):(l++[x])[i]?=some y:=by grind
theorem F8{l:List α}{x:α}:(l++[x])[l.length]?=some x:=aC
theorem kU(w:WfG g){o:DOp}{id:DIdent}{up:List Int}(hr:r.length=g.L.length)(i k:Nat):yH (pL g o id up r) i k=true↔(i<g.L.length/\yH g i k=true)\/(i=g.L.length/\r[k]?=some true):=by
 have nN:=w.nN;have e:(pL g o id up r).In=g.In.map (·++[false])++[r++[false]]:=rfl;have lm:(g.In.map (·++[false])).length=g.L.length:=by rw[List.length_map,nN]
 have snoc:∀(l:List Bool),((l++[false])[k]?).getD false=true↔l[k]?=some true:=by grind
 rcases Nat.lt_trichotomy i g.L.length with h|h|h
 .obtain⟨row,hrow⟩:∃row,g.In[i]?=some row:=⟨_,fy aa⟩;have h1:(pL g o id up r).In[i]?=some (row++[false]):=by grind
  rw[wO h1,snoc,wO hrow];constructor
  .grind
  .rintro(⟨_,h2⟩|⟨h2,_⟩);all_goals grind
 .grind [wO]
 .have h1:(pL g o id up r).In[i]?=none:=by grind
  grind [yH]
theorem Wc(w:WfG g){o:DOp}{up:List Int}(ho:SmOp o)(hs:fS o.Sig.S)(a:AddOk g o up)(hid:pV o=some id)(hr:r.length=g.L.length)(hb:∀k,k<g.L.length->(r[k]?=some true↔kZ g up k)):WfG (pL g o id up r):=by
 have nL:=w.nL;have nI:=w.nI;have nU:=w.nU;have nN:=w.nN;have inr:∀k,r[k]?=some true↔kZ g up k:=λk=>by
  rcases Nat.lt_or_ge k g.L.length with h|h
  .exact hb k h
  .constructor
   .grind
   .rintro(h2|⟨j,h2,h3⟩)
    .have:=(a.upb _ h2).2;omega
    .have:=w.inlt j k h3;omega
 have upAt:∀(j:Nat) (v:List Int),j<g.L.length->((pL g o id up r).Up[j]?=some v↔g.Up[j]?=some v):=λj v hj=>by show(g.Up++[up])[j]?=some v↔_;rw[List.getElem?_append_left aa]
 obtain⟨c,e1,e2⟩:=a.id;rw[hid] at e1;cases e1;exact{
  nL:=by show(g.L++[o]).length<=200;have:=a.room;simp;omega
  nI:=by show(g.IDs++[id]).length=(g.L++[o]).length;simp;omega
  nU:=by show(g.Up++[up]).length=(g.L++[o]).length;simp;omega
  nN:=by show(g.In.map _++[_]).length=(g.L++[o]).length;simp;omega
  nC:=w.nC
  cards:=w.cards
  up:=λi u hu=>by
   rcases je hu with⟨_,h⟩|⟨h,rfl⟩
   .exact w.up i u h
   grind [AddOk,pK,CheckOk.long]
  rows:=λi row hrow=>by
   show row.length=(g.L++[o]).length;rcases je hrow with⟨_,h⟩|⟨h,rfl⟩
   all_goals grind [WfG.rows]
  inlt:=λi k h=>by
   show k<i/\i<(g.L++[o]).length;rcases(kU w hr i k).1 h with⟨h1,h2⟩|⟨h1,h2⟩
   .have:=w.inlt i k h2;simp;omega
   grind
  ops:=λi p hp=>by
   rcases je hp with⟨_,h⟩|⟨h,rfl⟩
   all_goals grind [WfG.ops,AddOk.check]
  ids:=λi p q hp hq=>by
   rcases je hp with⟨h0,h⟩|⟨h,rfl⟩
   .rcases je hq with⟨_,h'⟩|⟨h',_⟩
    all_goals grind [WfG.ids]
   .rcases je hq with⟨h',_⟩|⟨_,rfl⟩
    .omega
    .exact hid
  nd:=by show(g.IDs++[id]).Nodup;grind [WfG.nd,jv]
  one:=λi k u hu hk=>by
   rw[kU w hr];rcases je hu with⟨h0,h⟩|⟨h,rfl⟩
   .grind [WfG.one]
   .exact .inr ⟨aa,(inr k).2 (.inl hk)⟩
  tr:=λi j k v hij hv hk=>by
   rw[kU w hr];rcases(kU w hr i j).1 hij with⟨h1,h2⟩|⟨h1,h2⟩
   .have:=w.inlt i j h2;grind [WfG.tr]
   .have hj:=(cr h2).1;have b:=(upAt j v aa).1 hv;refine .inr ⟨h1,(inr k).2 ?_⟩;rcases(inr j).1 h2 with h3|⟨m,h3,h4⟩
    .exact .inr ⟨j,h3,w.one j k v b hk⟩
    .exact .inr (by grind [WfG.tr])
  la:=λi k hik=>by
   rcases(kU w hr i k).1 hik with⟨h1,h2⟩|⟨h1,h2⟩
   .grind [WfG.la,kU]
   .refine⟨up,by show(g.Up++[up])[i]?=some up;rw[h1,<-nU];exact F8,?_⟩;rcases(inr k).1 h2 with h3|⟨j,h3,h4⟩
    .exact .inl h3
    .obtain⟨v,hv,h5⟩:=w.la j k h4;have hj:=w.inlt j k h4;rcases h5 with h5|⟨m,v',h6,h7,h8⟩
     .exact .inr ⟨j,v,(kU w hr i j).2 (.inr ⟨h1,(inr j).2 (.inl h3)⟩),(upAt j v hj.2).2 hv,h5⟩
     .have hm:=w.inlt j m h6;exact .inr ⟨m,v',(kU w hr i m).2 (.inr ⟨h1,(inr m).2 (.inr ⟨j,h3,h6⟩)⟩),(upAt m v' aa).2 h7,h8⟩}
def Yr(g:D12G)(o:DOp)(r:D12G×Int):Prop:=(r.2≠0/\r.1=g)\/∃id up row,r.2=0/\AddOk g o up/\pV o=some id/\jA g up=some row/\r.1=pL g o id up row
theorem QG(w:WfG g){o:DOp}(ho:SmOp o)(hs:fS o.Sig.S):T (AO g o) λr=>WfG r.1/\Yr g o r:=by
 have nL:=w.nL;have nI:=w.nI;have nU:=w.nU;have nN:=w.nN;unfold AO;refine .bind ((KD w ho hs).mono λv hv=> .dec (λh=> .some ⟨w,.inl ⟨h,rfl⟩⟩) λh=>?_);have a:=hv (by simpa using h);have ul:v.2.length<=12:=by rw[a.upl];exact pK a.check.long
 obtain⟨row,hrow,b,c⟩:=yc w (up:=v.2) aa a.upb;obtain⟨id,hid,_⟩:=a.id;rw[hrow,aL];refine .bind (.app cq (.bind (.app cq (.bind (.app cq ?_)))));rw[hid,aL];refine .bind (.app cq (.bind (.app cq (.bind (.app cq ?_)))));refine .then (T.forE g.In [] (λx=>[x++[false]]) 1 aa (λx _=>aC) (λk acc x hx hm hk hl=>?_) λacc=>?_) ?_
 .have:=w.rows k x hx;unfold xr;dsimp only;rw[eA hk,aN,au,hx,aL];refine .bind (.app cq (.bind (.bind (.app cq (.bind (.app (by simp at hl⊢;omega) (.some (.some ⟨aq aa,?_⟩))))))));simp
 .grind [xr,eF]
 .have el:([]:List (List Bool))++g.In.flatMap (λx=>[x++[false]])=g.In.map (·++[false]):=by rw[List.nil_append];induction g.In<;>grind
  rw[el];refine .bind (.bind (.app cq (.bind (.app cq (.some (.some ?_))))));have e:(⟨g.Cards,[]++g.L++[o],[]++g.IDs++[id],[]++g.Up++[v.2],g.In.map (·++[false])++[row++[false]]⟩:D12G)=pL g o id v.2 row:=rfl;exact⟨e▸Wc w ho hs a hid b c,.inr (by grind)⟩
end Go.Proofs.YtaiecngnppbhlaaGreatDoor
