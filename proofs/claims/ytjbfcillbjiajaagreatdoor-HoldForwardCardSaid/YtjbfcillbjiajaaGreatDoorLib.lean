/- Texts. -/
import Derived.BigQuiet
import Derived.CallsIn
import Derived.Deep.Cut
import Derived.Deep.CutBlock
import Derived.Deep.DeepCutAuto
import Derived.Deep.DeepFit
import Derived.Deep.Light
import Derived.Deep.LoopGhost
import Derived.Deep.MidRow
import Derived.Deep.QuietTactic
import Derived.Deep.RegionWith
import Derived.KernelRfl
import Derived.Laws.Cells
import Derived.Laws.CopyRow
import Derived.Lib.Hide
import Derived.LoopIn
import Derived.LoopNIn
import Derived.Maps.OwnSet
import Derived.OrdersIn
import Derived.RangeFuncBound
import Derived.RangeFuncCalls
import Derived.RangeFuncLeaves
import Derived.RangeFuncNested
import Derived.RangeFuncSeq
import Derived.TacticsInMore
import Derived.WalkKit
import Derived.WalkLawsBesides
import Derived.WalkSpells
namespace Go.Proofs.YtjbfcillbjiajaaGreatDoor
set_option linter.unusedSectionVars false
set_option linter.unusedVariables false
set_option linter.unusedSimpArgs false
open Go.RowKit
variable {α β:Type}{a:Act}{b i id k n off s:Nat}{p:Program}{w w':World}{v:Value}{at':Bool}{l:List Addr}{c x y:Code}{o:Oper}{us:Array Value}{zs:List Value}
theorem aa{p:Prop}(h:p:=by omega):p:=h
theorem aC{p:Prop}(h:p:=by simp):p:=h
theorem aH{p:Prop}(h:p:=by kernel_rfl):p:=h
theorem BU{p:Prop}(h:p:=by decide):p:=h
theorem cq{p:Prop}(h:p:=by simp;omega):p:=h
theorem fK{p:Prop}(h:p:=by simp[Op.operands]):p:=h
theorem aL{α β:Type _}(a:α)(f:α->Option β):(some a).bind f=f a:=rfl
theorem cr{α:Type _}{l:List α}{i:Nat}{a:α}(h:l[i]?=some a):∃h:i<l.length,l[i]=a:=List.getElem?_eq_some_iff.1 h
theorem EA{α:Type _}{l:List α}{i:Nat}(h:i<l.length):l[i]?=some l[i]:=List.getElem?_eq_getElem h
theorem bc{a b:Nat}(h:Nat.beq a b=true):a=b:=Nat.eq_of_beq_eq_true h
theorem Fe{α:Type _}(a b:α):(some a=some b)=(a=b):=Option.some.injEq a b
theorem bO{α:Type _}{l:List α}{i:Nat}{a:α}(h:l[i]?=some a):a∈l:=List.mem_of_getElem? h
theorem Bp{α:Type _}{a b:α}(h:some a=some b):a=b:=Option.some.inj h
theorem Ef{a:Nat}(h:Nat.ble a b=true):a<=b:=Nat.le_of_ble_eq_true h
theorem DQ{α β:Type _}{x:Option α}{f:α->β}{b:β}:x.map f=some b↔∃a,x=some a/\f a=b:=Option.map_eq_some_iff
theorem bA(a b:Bool):((a&&b)=true)=(a=true/\b=true):=Bool.and_eq_true a b
theorem ax{α:Type _}(a b:α):(bif true then a else b)=a:=rfl
theorem Bf{α:Type _}(a b:α):(bif false then a else b)=b:=rfl
theorem C6{p:Prop}[i:Decidable p](h:p):decide p=true:=decide_eq_true h
theorem Dl{p:Prop}[i:Decidable p](h:¬p):decide p=false:=decide_eq_false h
theorem DV{p:Prop}[i:Decidable p](h:decide p=true):p:=of_decide_eq_true h
theorem Ni{p:Prop}[i:Decidable p](h:decide p=false):¬p:=of_decide_eq_false h
theorem BB{c:Prop}{h:Decidable c}(k:c){α:Sort _}{t e:α}:ite c t e=t:=if_pos k
theorem BX{c:Prop}{h:Decidable c}(k:¬c){α:Sort _}{t e:α}:ite c t e=e:=if_neg k
theorem Fw(n:Nat):(n:Int).toNat=n:=rfl
theorem Dk(n:Nat):n<=n:=Nat.le_refl n
theorem Nj{a b c:Nat}(h:a<=b)(k:b<=c):a<=c:=Nat.le_trans h k
theorem JB(a b:Nat):a<b\/a>=b:=Nat.lt_or_ge a b
theorem LO{a b:Nat}(h:a<b):a%b=a:=Nat.mod_eq_of_lt h
theorem Nk{a:Nat}(h:a<=b):Nat.ble a b=true:=Nat.ble_eq_true_of_le h
theorem EZ{α:Type _}{l:List α}:l.take l.length=l:=List.take_length
theorem Gf{α:Type _}{b:α}{β:Type _}{x:Option β}{f:β->Option α}:x.bind f=some b↔∃a,x=some a/\f a=some b:=Option.bind_eq_some_iff
theorem Fi{α β:Type _}{f:α->β}{a:α}{l:List α}:(a::l).map f=f a::l.map f:=rfl
theorem Gq{α β:Type _}{l:List α}(f:α->β):(l.map f).length=l.length:=List.length_map f
theorem GV{α:Type _}{p:α->Bool}{l:List α}:l.all p=true↔∀x,x∈l->p x=true:=List.all_eq_true
theorem Ft{α β:Type _}(a:α)(b:β)(c:α)(d:β):((a,b)=(c,d))=(a=c/\b=d):=Prod.mk.injEq a b c d
theorem Oa{α:Type _}(p:α->Bool)(l:List α):(l.filter p).length<=l.length:=List.length_filter_le p l
theorem JD{α:Type _}{l:List α}:l.take (i+1)=l.take i++l[i]?.toList:=List.take_add_one
theorem K3{α:Type _}{a:α}:¬a∈([]:List α):=List.not_mem_nil
theorem JF{α:Type _}{a:α}{s t:List α}:a∈s++t↔a∈s\/a∈t:=List.mem_append
theorem Pw{α:Type _}(i:Nat)(l:List α):l.take i++l.drop i=l:=List.take_append_drop i l
theorem Se{α:Type _}{p:α->Bool}(l m:List α):(l++m).filter p=l.filter p++m.filter p:=List.filter_append l m
theorem EO{α β:Type _}{b:β}{f:α->β}{l:List α}:b∈l.map f↔∃a,a∈l/\f a=b:=List.mem_map
theorem Hk{β γ α:Type _}{g:β->γ}{f:α->β}{l:List α}:(l.map f).map g=l.map (g∘f):=List.map_map
theorem EG{α:Type _}{b:α}{l:List α}{a:α}:a∈b::l↔a=b\/a∈l:=List.mem_cons
theorem Hl{α:Type _}{p:α->Bool}{l:List α}{x:α}:x∈l.filter p↔x∈l/\p x=true:=List.mem_filter
theorem Lv{α:Type _}{l:List α}:(l.take i).length=min i l.length:=List.length_take
theorem UQ{α:Type _}{l m:List α}:(l++m).length=l.length+m.length:=List.length_append
theorem M0{α:Type _}{a:α}{l:List α}:(a::l).Nodup↔¬a∈l/\l.Nodup:=List.nodup_cons
theorem Om{α β:Type _}{f:β->α->β}{b:β}{l m:List α}:(l++m).foldl f b=m.foldl f (l.foldl f b):=List.foldl_append
theorem Px{α:Type _}(l:List α):[]++l=l:=rfl
theorem LP{α:Type _}(l:List α):l++[]=l:=List.append_nil l
theorem Mu{α β:Type _}{f:α->β}{l:List α}:(l.map f)[i]?=l[i]?.map f:=List.getElem?_map
theorem Gu{α:Type _}{a:α}{l:List α}(h:a∈l):∃i:Nat,l[i]?=some a:=List.getElem?_of_mem h
theorem Nt{α:Type _}{a b:α}:(some a).getD b=a:=rfl
theorem WE{α:Type _}{x:Option α}:x.isSome=true↔∃a,x=some a:=Option.isSome_iff_exists
theorem E1(a:α)(w:World)(f:α->World->Result β):(Result.ok a w).andThen f=f a w:=rfl
theorem E0(P:Program)(w:World)(x:Sem α)(f:α->Sem β):Sem.run P (x>>=f) w=(Sem.run P x w).andThen λa v=>Sem.run P (f a) v:=Sem.run_bind P w x f
theorem HA(P:Program)(w:World)(a:α):Sem.run P (pure a) w=Result.ok a w:=Sem.run_pure P w a
theorem Gc{P:Program}{t:TypeId}{d:TypeDesc}(h:P.underlying t=some d)(w:World):Sem.run P (underlying t) w=Result.ok d w:=run_underlying h w
theorem xW{α:Type}:∀(q:Ask α) (w:World),w.drawn<=(w.ask q).2.drawn
 | .done a,w=>Nat.le_refl _
 | .ask what range k,w=>by
  unfold World.ask;dsimp only;split
  .exact xW (k _) w
  .exact Nat.le_trans (Nat.le_succ _) (xW (k _) {w with drawn:=w.drawn+1})
theorem NT(c:Sys)(w:World):w.drawn<=(w.sys c).2.drawn:=by
 have h:=xW (Kernel.perform c w.os) w;unfold World.sys;split
 .exact Nat.le_refl _
 .rename_i r os w' _ e;rw[e] at h;exact h
theorem H5{ε:Type}{x:Except ε α}{f:α->Except ε β}{b:β}(h:(x>>=f)= .ok b):∃a,x= .ok a/\f a= .ok b:=by
 cases x with
 |error e=>cases h
 |ok a=>exact⟨a,rfl,h⟩
theorem zH{a k:Addr}{u:TypeId}(h:w.viewStore p a u k v at'= .ok (w',l)):w'.drawn=w.drawn:=by
 unfold World.viewStore at h;repeat'(first
  |(obtain⟨_,_,h⟩:=H5 h)
  |(split at h)
  |(cases h;done)
  |(cases h;rfl))
theorem Cc{a:Addr}(h:w.farStore p a v at'= .ok (w',l)):w'.drawn=w.drawn:=by
 unfold World.farStore at h;split at h
 .split at h
  .rename_i r hr;cases h;exact zH hr
  .cases h
 .cases h
theorem Ep(p:Program)(s:Sem α):∀(w w':World) (v:α),s.run p w= .ok v w'->w.drawn<=w'.drawn:=by
 induction s with
 |pure a=>intro w w' v h;unfold Sem.run at h;cases h;exact Nat.le_refl _
 |load m a k ih=>
  intro w w' v h;unfold Sem.run at h;split at h
  .exact(have x:=ih _ _ _ _ h;x)
  .split at h
   .exact(have x:=ih _ _ _ _ h;x)
   .cases h
 |store m a u k ih=>
  intro w w' v h;by_cases hu:(∃x,u= .agg x)\/(∃x,u= .tuple x)
  .rcases hu with⟨x,rfl⟩|⟨x,rfl⟩<;>(unfold Sem.run at h;cases h)
  .rw[Sem.run] at h
   .split at h
    .split at h
     .cases h
     .exact(have x:=ih _ _ _ h;x)
    .split at h
     .rename_i b l e;have:=Cc e;have:=ih _ _ _ h;omega
     .cases h
   .exact λx e=>hu (.inl ⟨x,e⟩)
   .exact λx e=>hu (.inr ⟨x,e⟩)
 |new o k ih=>intro w w' v h;unfold Sem.run at h;exact(have x:=ih _ _ _ _ h;x)
 |shape r k ih=>intro w w' v h;unfold Sem.run at h;exact(have x:=ih _ _ _ _ h;x)
 |freeze a n k ih=>
  intro w w' v h;unfold Sem.run at h;have e:(w.freeze a n).drawn=w.drawn:=by unfold World.freeze;split<;>rfl
  have:=ih _ _ _ h;omega
 |frozen a k ih=>intro w w' v h;unfold Sem.run at h;exact(have x:=ih _ _ _ _ h;x)
 |getObj r k ih=>
  intro w w' v h;unfold Sem.run at h;split at h
  .cases h
  .exact(have x:=ih _ _ _ _ h;x)
  .cases h
 |setObj r o k ih=>
  intro w w' v h;unfold Sem.run at h;split at h
  .cases h
  .exact(have x:=ih _ _ _ h;x)
  .cases h
 |choose q k ih=>
  intro w w' v h;unfold Sem.run at h;split at h
  .exact(have x:=ih _ _ _ _ h;x)
  .have:=ih _ _ _ _ h;exact Nat.le_trans (Nat.le_succ _) this
 |sys c k ih=>intro w w' v h;unfold Sem.run at h;exact Nat.le_trans (NT c w) (ih _ _ _ _ h)
 |program k ih=>intro w w' v h;unfold Sem.run at h;exact(have x:=ih _ _ _ _ h;x)
 |mark m k ih=>intro w w' v h;unfold Sem.run at h;exact(have x:=ih _ _ _ h;x)
 |halt x=>intro w w' v h;unfold Sem.run at h;cases h
structure A3 (S:Nat->Prop) (w w':World):Prop where
 os:w'.os=w.os
 tape:w'.tape=w.tape
 output:w'.output=w.output
 size:w.heap.size<=w'.heap.size
 block:∀k,k<w.heap.size->¬S k->w'.heap[k]?=w.heap[k]?
 drawn:w.drawn<=w'.drawn
theorem A3.refl(S:Nat->Prop)(w:World):A3 S w w:=⟨rfl,rfl,rfl,Nat.le_refl _,λ_ _ _=>rfl,Nat.le_refl _⟩
theorem A3.trans{S:Nat->Prop}{a b c:World}(h:A3 S a b)(k:A3 S b c):A3 S a c:=
 ⟨k.os.trans h.os,k.tape.trans h.tape,k.output.trans h.output,Nat.le_trans h.size k.size,λi hi hs=>(k.block i (Nat.lt_of_lt_of_le hi h.size) hs).trans (h.block i hi hs),Nat.le_trans h.drawn k.drawn⟩
theorem A3.mono{S S':Nat->Prop}{w w':World}(h:A3 S w w')(hS:∀k,k<w.heap.size->S k->S' k):A3 S' w w':=
 ⟨h.os,h.tape,h.output,h.size,λk hk hs=>h.block k hk (λx=>hs (hS k hk x)),h.drawn⟩
theorem A3.then{S S':Nat->Prop}{a b c:World}(h:A3 S a b)(k:A3 S' b c)(hS:∀i,i<a.heap.size->S' i->S i):A3 S a c:=
 ⟨k.os.trans h.os,k.tape.trans h.tape,k.output.trans h.output,Nat.le_trans h.size k.size,λi hi hs=>(k.block i (Nat.lt_of_lt_of_le hi h.size) (λx=>hs (hS i hi x))).trans (h.block i hi hs),Nat.le_trans h.drawn k.drawn⟩
theorem A3.drew{S:Nat->Prop}{a w:World}(h:A3 S a w):A3 S a w.drew:=h.trans ⟨rfl,rfl,rfl,Nat.le_refl _,λ_ _ _=>rfl,Nat.le_succ _⟩
theorem A3.alloc{S:Nat->Prop}{a w:World}(h:A3 S a w)(o:Obj):A3 S a (w.alloc o):=
 h.trans ⟨rfl,rfl,rfl,by simp,λk hk _=>Below.heap_alloc _ _ _ hk,Nat.le_refl _⟩
theorem A3.lt{S:Nat->Prop}{w w':World}(h:A3 S w w'){k:Nat}(hk:k<w.heap.size):k<w'.heap.size:=Nat.lt_of_lt_of_le hk h.size
theorem A3.cell{S:Nat->Prop}{w w':World}(h:A3 S w w'){p:Addr}(hk:p.block<w.heap.size)(hs:¬S p.block):w'.cell? p=w.cell? p:=World.cell?_of_block (w:=w) (h.block p.block hk hs)
section
variable {P:Program} {kT eT mT:TypeId}
end
section
variable {P:Program}
theorem NU(arr:List Value):∀(b a:List Value) (c:Nat),c=b.length->arr.length<=a.length->
  (arr.zipIdx).foldl (λ(cs:Array Value) (p:Value×Nat)=>cs.setIfInBounds (c+p.2) p.1) (b++a).toArray=(b++arr++a.drop arr.length).toArray:=by
 suffices H:∀(arr:List Value) (n:Nat) (b a:List Value) (c:Nat),c+n=b.length->arr.length<=a.length->
   (arr.zipIdx n).foldl (λ(cs:Array Value) (p:Value×Nat)=>cs.setIfInBounds (c+p.2) p.1) (b++a).toArray=(b++arr++a.drop arr.length).toArray by
  intro b a c h1 h2
  exact H arr 0 b a c (by omega) h2
 intro arr
 induction arr with
 |nil=>intro n b a c h1 h2;simp
 |cons v r ih=>
  intro n b a c h1 h2
  cases a with
  |nil=>simp at h2
  |cons s a=>
   rw[List.zipIdx_cons,List.foldl_cons]
   have e:((b++s::a).toArray).setIfInBounds (c+n) v=((b++[v])++a).toArray:=by simp only[List.setIfInBounds_toArray];rw[List.set_append_right _ _ (by omega),h1];simp
   rw[e,ih (n+1) (b++[v]) a c (by simp;omega) (by simpa using h2)]
   simp
theorem NV(b:Nat->Option (Nat×Nat))(a:Array Value)(i c size:Nat)(v:Value)(rest:List (Nat×Value))(hp:b i=some (c,size))(hs:v.cells.size=size)(hb:c+size<=a.size):
  Instr.fill b a ((i,v)::rest)=Instr.fill b (v.cells.zipIdx.foldl (λ(cs:Array Value) (p:Value×Nat)=>cs.setIfInBounds (c+p.2) p.1) a) rest:=by
 have e:¬(size<size\/a.size<c+size):=by omega
 simp[Instr.fill,hp,hs]
 omega
end
abbrev DH:=List (Nat×Nat)
abbrev K4:=List (List Int)
abbrev Bn:=List Int
abbrev Br:=List Nat
abbrev CY:=List UInt8
abbrev Fo:=Option Bool
abbrev JQ:=Option Int
abbrev Fq:=Option Nat
abbrev JR:=List Prop
abbrev HE:=List Oper
abbrev Bu:=Program
abbrev Bj:=TypeId
abbrev DC:=Operand
abbrev Fu:=Nat->Prop
section
variable {P:Bu}
theorem zw(w:World)(l:Nat)(t ty e:Bj)(i:TypeInfo)(z:Value)(size k:Nat)(ht:P.underlying t=some (.slice e))(hi:P.info? e=some i)(hz:i.zero=some z)
  (hsize:i.size=size) (hby:i.bytes=k) (q:z.cells.size=size) (hsz:0<size)
  (v:Value) (n:Nat) (xs:List Value) (hown:w.ownsRow l e size v n xs)
  (a:Addr) (m c:Nat) (b:List Value) (hl:b.length=m*size) (d:∀j u,b[j]?=some u->w.cell? (a.add j)=some u) (h1:∀u∈b,u.oneCell'=true)
  (h0:0<m) (p:n+m<=maxLen) (f:(n+m)*k<=140737488355328) (o:l<=w.heap.size):
  ∃v' w',(Builtin.append_ #[t,t] ty #[v,.slice (some a) m c]).run P w= .ok v' w'/\w'.ownsRow l e size v' (n+m) (xs++b)/\w.grownBy w' v.ownBlock/\(v'.ownBlock=v.ownBlock\/v'.ownBlock=some w.heap.size)/\v.ownBlock≠some w.heap.size:=by
 obtain⟨v',w',hrun,ho,hg,_⟩:=run_append_own (P:=P) w l t ty e i z size k ht hi hz hsize hby q hsz v n xs hown a m c b hl d h1 p f o
 have hm:((n+m:Nat):Int)<=9223372036854775807:=by simp only[maxLen] at p;omega
 have hne:v.ownBlock≠some w.heap.size:=λh=>by have:=(hown.lt _ h).2;omega
 refine⟨v',w',hrun,ho,hg,?_,hne⟩
 rcases hown.2 with⟨rfl,rfl⟩|⟨g,cap,cur,rfl,x,r,y,hcm,hcs,s⟩
 .have hr:=run_append_nil (P:=P) w t ty e i z ht hi hz a m c b (by rw[hsize];exact hl) d h0 aa (by rw[hby];have hb:=f;simp only[Nat.zero_add] at hb;omega)
  rw[hrun] at hr
  injection hr with e1 e2
  subst e1
  right;rfl
 .by_cases hroom:n+m<=cap
  .have hfit:n*i.size+b.length<=cur.size:=by rw[hl,hcs,hsize,<-Nat.add_mul];exact Nat.mul_le_mul_right _ hroom
   have hr:=run_append_room (P:=P) w t ty e i ht hi g n cap cur r a m c b (by rw[hsize];exact hl) d h1 hroom hfit
   rw[hrun] at hr
   injection hr with e1 e2
   subst e1
   left;rfl
  .have holds:∀j u,xs[j]?=some u->w.cell? ((⟨g,0,none⟩:Addr).add j)=some u:=hown.cells (g:=g) rfl
   have hr:=run_append_grow (P:=P) w t ty e i z ht hi hz ⟨g,0,none⟩ n cap xs (by rw[hsize];exact hown.1) holds a m c b (by rw[hsize];exact hl) d aa hm (growslice_fits aa (by rw[hby];exact f))
   rw[hrun] at hr
   injection hr with e1 e2
   subst e1
   right;rfl
end
inductive G where
 |lit (v:Value)
 |agg (l:List G)
 |tup (l:List G)
 |ptr (l:List G) (o:Nat)
 |sl (l:List G) (n:Nat)
 |clo (fn:Fn) (first cap:List G)
 |ifc (t:Bj) (g:G)
 |ref (i o:Nat)
 |rsl (i o n:Nat)
 |mref (i:Nat)
 |mp (ks:List Value) (vs:List G) (ns:Br) (clock:Nat)
 |yld (i:Nat)
 |rsr (i n:Nat)
 |junk
 deriving Inhabited
inductive IV (S:Fu) (w:World):G->Value->Prop
 |lit (v:Value):IV S w (.lit v) v
 |agg (l:List G) (us:Array Value) (hl:us.size=l.length) (h1:∀(i:Nat) (u:Value),us[i]?=some u->u.oneCell'=true) (h:∀(i:Nat) (g:G) (u:Value),l[i]?=some g->us[i]?=some u->IV S w g u):IV S w (.agg l) (.agg us)
 |tup (l:List G) (us:Array Value) (hl:us.size=l.length) (h:∀(i:Nat) (g:G) (u:Value),l[i]?=some g->us[i]?=some u->IV S w g u):IV S w (.tup l) (.tuple us)
 |ptr (l:List G) (o b off:Nat) (us:Nat->Value) (hs:¬S b) (hb:b<w.heap.size) (hc:∀i,i<l.length->w.cell? ⟨b,off+i,none⟩=some (us i)) (h1:∀i,i<l.length->(us i).oneCell'=true)
   (h:∀(i:Nat) (g:G),l[i]?=some g->IV S w g (us i)):IV S w (.ptr l o) (.pointer (some ⟨b,off+o,none⟩))
 |sl (l:List G) (n:Nat) (a:Option Addr) (cap:Nat) (us:Nat->Value) (hn:n<=cap) (hm:cap<=maxLen) (ha:∀i,i<l.length->∃b off,a=some ⟨b,off,none⟩/\¬S b/\b<w.heap.size/\w.cell? ⟨b,off+i,none⟩=some (us i))
   (h1:∀i,i<l.length->(us i).oneCell'=true) (h:∀(i:Nat) (g:G),l[i]?=some g->IV S w g (us i)):IV S w (.sl l n) (.slice a n cap)
 |clo (fn:Fn) (first cap:List G) (fs cs:Array Value) (hf:fs.size=first.length) (hc:cs.size=cap.length) (h:∀(i:Nat) (g:G) (u:Value),first[i]?=some g->fs[i]?=some u->IV S w g u) (h':∀(i:Nat) (g:G) (u:Value),cap[i]?=some g->cs[i]?=some u->IV S w g u):
   IV S w (.clo fn first cap) (.func fn fs cs)
 |ifc (t:Bj) (g:G) (v:Value) (h:IV S w g v):IV S w (.ifc t g) (.iface t v)
 |mp (ks:List Value) (vs:List G) (ns:Br) (clock b:Nat) (ents:Array MapEntry) (hs:¬S b) (hb:b<w.heap.size) (ho:w.heap[b]?=some (.map ents clock)) (hl:ents.size=vs.length) (hk:ents.toList.map (·.key)=ks) (hn:ents.toList.map (·.born)=ns)
   (h:∀(j:Nat) (g:G) (e:MapEntry),vs[j]?=some g->ents[j]?=some e->IV S w g e.val):IV S w (.mp ks vs ns clock) (.map (some b))
structure DW (S:Fu) (w w':World):Prop where
 size:w.heap.size<=w'.heap.size
 cell:∀{b o u},b<w.heap.size->¬S b->w.cell? ⟨b,o,none⟩=some u->w'.cell? ⟨b,o,none⟩=some u
 map:∀{b ents c},b<w.heap.size->¬S b->w.heap[b]?=some (.map ents c)->w'.heap[b]?=some (.map ents c)
theorem DW.lt{S:Fu}{w w':World}(h:DW S w w'){b:Nat}(hb:b<w.heap.size):b<w'.heap.size:=Nat.lt_of_lt_of_le hb h.size
theorem A3.cells{S:Fu}{w w':World}(h:A3 S w w'):DW S w w':=by grind [DW,size,cell,block]
theorem IV.stepC{S S':Fu}{w w':World}{g:G}{v:Value}(h:IV S w g v)(hS:∀b,b<w.heap.size->S' b->S b)(hk:DW S w w'):IV S' w' g v:=by
 induction h with
 |lit v=>exact .lit v
 |agg l us hl h1 h ih=>exact .agg l us hl h1 ih
 |tup l us hl h ih=>exact .tup l us hl ih
 |ptr l o b off us hs hb hc h1 h ih=>exact .ptr l o b off us (by grind) (hk.lt hb) (by grind [DW.cell]) h1 ih
 |sl l n a cap us hn hm ha h1 h ih=>refine .sl l n a cap us hn hm (λi hi=>?_) h1 ih;grind [DW]
 |clo fn first cap fs cs hf hc h h' ih ih'=>exact .clo fn first cap fs cs hf hc ih ih'
 |ifc t g v h ih=>exact .ifc t g v ih
 |mp ks vs ns clock b ents hs hb ho hl hkk hn h ih=>exact .mp ks vs ns clock b ents (by grind) (hk.lt hb) (hk.map hb hs ho) hl hkk hn ih
theorem IV.step{S S':Fu}{w w':World}{g:G}{v:Value}(h:IV S w g v)(hS:∀b,b<w.heap.size->S' b->S b)(hk:A3 S w w'):IV S' w' g v:=h.stepC hS hk.cells
theorem IV.sub{S S':Fu}{w:World}{g:G}{v:Value}(h:IV S w g v)(hS:∀b,b<w.heap.size->S' b->S b):IV S' w g v:=h.step hS (A3.refl _ _)
theorem IV.keep{S:Fu}{w w':World}{g:G}{v:Value}(h:IV S w g v)(hk:A3 S w w'):IV S w' g v:=h.step (by grind) hk
abbrev Bm:=Nat->Option (Option (Nat×Nat))
inductive RV (β:Bm) (S:Fu) (w:World):G->Value->Prop
 |imm (g:G) (v:Value) (h:IV S w g v):RV β S w g v
 |agg (l:List G) (us:Array Value) (hl:us.size=l.length) (h1:∀(i:Nat) (u:Value),us[i]?=some u->u.oneCell'=true) (h:∀(i:Nat) (g:G) (u:Value),l[i]?=some g->us[i]?=some u->RV β S w g u):RV β S w (.agg l) (.agg us)
 |tup (l:List G) (us:Array Value) (hl:us.size=l.length) (h:∀(i:Nat) (g:G) (u:Value),l[i]?=some g->us[i]?=some u->RV β S w g u):RV β S w (.tup l) (.tuple us)
 |clo (fn:Fn) (first cap:List G) (fs cs:Array Value) (hf:fs.size=first.length) (hc:cs.size=cap.length) (h:∀(i:Nat) (g:G) (u:Value),first[i]?=some g->fs[i]?=some u->RV β S w g u) (h':∀(i:Nat) (g:G) (u:Value),cap[i]?=some g->cs[i]?=some u->RV β S w g u):
   RV β S w (.clo fn first cap) (.func fn fs cs)
 |ifc (t:Bj) (g:G) (v:Value) (h:RV β S w g v):RV β S w (.ifc t g) (.iface t v)
 |ref (i o b C:Nat) (h:β i=some (some (b,C))):RV β S w (.ref i o) (.pointer (some ⟨b,o,none⟩))
 |rsl0 (i o:Nat) (h:β i≠none):RV β S w (.rsl i o 0) (.slice none 0 0)
 |rsl (i o n b C o' cap:Nat) (h:β i=some (some (b,C))) (hn:n<=cap) (hm:cap<=maxLen) (ho:cap≠0->o'=o) (hC:o=0->cap=C/\o'=0):RV β S w (.rsl i o n) (.slice (some ⟨b,o',none⟩) n cap)
 |mref (i b C:Nat) (h:β i=some (some (b,C))):RV β S w (.mref i) (.map (some b))
 |yld (i b C:Nat) (h:β i=some (some (b,C))):RV β S w (.yld i) (.func (.yield b) #[] #[])
 |rsr (i n b C:Nat) (h:β i=some (some (b,C))) (hn:n<=C) (hm:C<=maxLen):RV β S w (.rsr i n) (.slice (some ⟨b,0,none⟩) n C)
 |junk (v:Value):RV β S w .junk v
theorem RV.stepW{β β':Bm}{S S':Fu}{w w':World}{g:G}{v:Value}(h:RV β S w g v)(hβ:∀i x,β i=some (some x)->β' i=some (some x))(hn:∀i,β i≠none->β' i≠none)(hS:∀b,b<w.heap.size->S' b->S b)(hk:DW S w w'):RV β' S' w' g v:=by induction h<;>grind [RV,IV.stepC]
theorem RV.stepC{β β':Bm}{S S':Fu}{w w':World}{g:G}{v:Value}(h:RV β S w g v)(hβ:∀i x,β i=some x->β' i=some x)(hS:∀b,b<w.heap.size->S' b->S b)(hk:DW S w w'):RV β' S' w' g v:=
 h.stepW (by grind) (λi hx e=>by cases hb:β i<;>grind) hS hk
theorem RV.step{β β':Bm}{S S':Fu}{w w':World}{g:G}{v:Value}(h:RV β S w g v)(hβ:∀i x,β i=some x->β' i=some x)(hS:∀b,b<w.heap.size->S' b->S b)(hk:A3 S w w'):RV β' S' w' g v:=h.stepC hβ hS hk.cells
theorem RV.mp_form{β:Bm}{S:Fu}{w:World}{ks:List Value}{vs:List G}{ns:Br}{c:Nat}{v:Value}(h:RV β S w (.mp ks vs ns c) v):∃b ents,v= .map (some b)/\w.heap[b]?=some (.map ents c)/\ents.size=vs.length/\ents.toList.map (·.key)=ks/\ents.toList.map (·.born)=ns/\∀(j:Nat) (g:G) (e:MapEntry),vs[j]?=some g->ents[j]?=some e->IV S w g e.val:=by
 cases h with
 |imm _ _ h=>cases h<;>grind
abbrev Fr:=List (Nat×G)
inductive QN where
 |map (es:List (Value×G×Nat)) (clock:Nat)
 |iter (m:Fq) (since:Nat) (seen:Br) (last:Nat)
 |loop (s:LoopState) (pe:Option Code) (n:Nat) (fr:Fr) (ps:Array Tmp) (assign body:Code)
 |resv
 deriving Inhabited
structure Ob where
 t:Bj
 l:List G
 x:Option QN
 deriving Inhabited
abbrev aQ:=List (Nat×Option Ob)
def aD:Fr->Nat->G
 |[],_=> .junk
 |(d,g)::r,i=>bif Nat.beq d i then g else aD r i
def ag:aQ->Nat->Option Ob
 |[],_=>none
 |(d,o)::r,i=>bif Nat.beq d i then o else ag r i
structure St where
 n:Nat
 gl:List (Nat×List G)
 fr:Fr
 σ:aQ
 c:Nat
 p:Nat
 r:Bool
def NC(P:Bu)(t:Bj):Nat:=((P.info? t).map (·.size)).getD 0
def Av(S:Fu)(β:Bm)(σ:aQ)(b:Nat):Prop:=S b\/∃i ob C,ag σ i=some ob/\β i=some (some (b,C))
def XO(β:Bm)(S:Fu)(w:World):QN->Obj->Prop
 | .map es clock,o=>∃ents:Array MapEntry,o= .map ents clock/\ents.size=es.length/\∀(j:Nat) (k:Value) (g:G) (n:Nat),es[j]?=some (k,g,n)->∃e,ents[j]?=some e/\e.key=k/\e.born=n/\RV β S w g e.val
 | .iter m since seen last,o=>∃a,o= .mapIter a since seen.toArray last/\((m=none/\a=none)\/∃i b C,m=some i/\a=some b/\β i=some (some (b,C)))
 | .resv,_=>False
 | .loop s pe n fr ps az9 bd,o=>∃fn tmps D,o= .loop {state:=s,pending:=pe,fn:=fn,tmps:=tmps,params:=ps,assign:=az9,body:=bd,defers:=D}/\tmps.size=n/\∀j,RV β S w (aD fr j) (tmps.getD j undef)
def RO(P:Bu)(β:Bm)(S:Fu)(w:World)(i:Nat)(ob:Ob):Prop:=
 (β i=some none/\ob.l=[]/\(ob.x=none\/ob.x=some .resv))\/
 (∃b x o,ob.x=some x/\ob.l=[]/\β i=some (some (b,0))/\w.heap[b]?=some o/\XO β S w x o)\/
 ∃b C cur,ob.x=none/\β i=some (some (b,C))/\w.heap[b]?=some (.cells cur ob.t (0,0))/\cur.size=C*NC P ob.t/\C<=maxLen/\ob.l.length<=cur.size/\∀(j:Nat) (g:G),ob.l[j]?=some g->∃u,cur[j]?=some u/\u.oneCell'=true/\RV β S w g u
structure Cx where
 w0:World
 B0:Fu
 S0:Fu
 pin:Nat->Option (Option (Nat×Nat))
 F:Fence
 nn:Nat
structure JO (F:Fence):Prop where
 fn:∀f,F.fn f
 depth:F.depth=none
 alive:F.alive=false
def rp(D:Nat):Deferred:={target:= .collected D,args:= #[]}
def D7(w0:World)(a:Act)(w:World):Prop:=∃b:Br,a.defers=b.map rp/\b.Nodup/\∀D∈b,w0.heap.size<=D/\w.heap[D]?=some (.deferred (some []))
theorem D7.nil{w0 w:World}{a:Act}(h:a.defers=[]):D7 w0 a w:=⟨[],h,List.nodup_nil,(by grind)⟩
theorem D7.keep{w0 w w':World}{a:Act}{S:Fu}(h:D7 w0 a w)(hk:A3 S w w')(hS:∀D,w.heap[D]?=some (.deferred (some []))->¬S D):D7 w0 a w':=by obtain⟨b,h1,h2,h3⟩:=h;refine⟨b,h1,h2,λD hD=>?_⟩;grind [A3.block]
structure Bx (P:Bu) (cx:Cx) (st:St) (a:Act) (w:World) (β:Bm):Prop where
 size:a.tmps.size=st.n
 defers:D7 cx.w0 a w
 loose:JO cx.F
 rnd:st.r=false->cx.F.round=none
 fr:∀i,RV β (Av cx.S0 β st.σ) w (aD st.fr i) (a.tmps.getD i undef)
 ob:∀i o,ag st.σ i=some o->RO P β (Av cx.S0 β st.σ) w i o
 inj:∀i j o o' b C D,ag st.σ i=some o->ag st.σ j=some o'->β i=some (some (b,C))->β j=some (some (b,D))->i=j
 own:∀i o b C,ag st.σ i=some o->β i=some (some (b,C))->cx.B0 b\/cx.w0.heap.size<=b
 sep:∀i o b C,ag st.σ i=some o->β i=some (some (b,C))->¬cx.S0 b
 fresh:∀i,st.c<=i->β i=none
 glob:∀g l,st.gl.lookup g=some l->IV (Av cx.S0 β st.σ) w (.ptr l 0) (.pointer (some ⟨g,0,none⟩))
 keep:A3 cx.B0 cx.w0 w
 old:∀b,cx.S0 b->b<cx.w0.heap.size
 pin:∀i x,cx.pin i=some x->i<st.p/\β i=some x
def mh(P:Bu)(cx:Cx)(st:St)(a:Act)(w:World):Prop:=∃β,Bx P cx st a w β
theorem XO.stepC{β β':Bm}{S S':Fu}{w w':World}{x:QN}{o:Obj}(h:XO β S w x o)(hβ:∀i x,β i=some x->β' i=some x)(hS:∀b,b<w.heap.size->S' b->S b)(hk:DW S w w'):XO β' S' w' x o:=by
 cases x with
 |map es clock=>obtain⟨ents,h1,h2,h3⟩:=h;refine⟨ents,h1,h2,λj k g n hj=>?_⟩;grind [RV.stepC]
 |iter m since seen last=>obtain⟨a,h1,h2⟩:=h;refine⟨a,h1,?_⟩;grind
 |loop s pe n fr ps az9 bd=>obtain⟨fn,tmps,D,h1,h2,h3⟩:=h;exact⟨fn,tmps,D,h1,h2,(by grind [RV.stepC])⟩
 |resv=>exact h.elim
theorem XO.stepW{β β':Bm}{S S':Fu}{w w':World}{x:QN}{o:Obj}(h:XO β S w x o)(hβ:∀i x,β i=some (some x)->β' i=some (some x))(hn:∀i,β i≠none->β' i≠none)(hS:∀b,b<w.heap.size->S' b->S b)(hk:DW S w w'):XO β' S' w' x o:=by
 cases x with
 |map es clock=>obtain⟨ents,h1,h2,h3⟩:=h;refine⟨ents,h1,h2,λj k g n hj=>?_⟩;grind [RV.stepW]
 |iter m since seen last=>obtain⟨a,h1,h2⟩:=h;refine⟨a,h1,?_⟩;grind
 |loop s pe n fr ps az9 bd=>obtain⟨fn,tmps,D,h1,h2,h3⟩:=h;exact⟨fn,tmps,D,h1,h2,(by grind [RV.stepW])⟩
 |resv=>exact h.elim
theorem XO.step{β β':Bm}{S S':Fu}{w w':World}{x:QN}{o:Obj}(h:XO β S w x o)(hβ:∀i x,β i=some x->β' i=some x)(hS:∀b,b<w.heap.size->S' b->S b)(hk:A3 S w w'):XO β' S' w' x o:=h.stepC hβ hS hk.cells
theorem XO.not_marks{β:Bm}{S:Fu}{w:World}{x:QN}{o:Obj}(h:XO β S w x o)(l:Option (List Deferred)):o≠ .deferred l:=by
 cases x with
 |map es clock=>obtain⟨ents,rfl,_⟩:=h;grind
 |iter m since seen last=>obtain⟨a,rfl,_⟩:=h;grind
 |loop s pe n fr ps az9 bd=>obtain⟨fn,tmps,D,rfl,_⟩:=h;grind
 |resv=>exact h.elim
theorem RO.stepC{P:Bu}{β β':Bm}{S S':Fu}{w w':World}{i:Nat}{ob:Ob}(h:RO P β S w i ob)(hβ:∀i x,β i=some x->β' i=some x)(hS:∀b,b<w.heap.size->S' b->S b)(hk:DW S w w')
  (hb:∀b C,β i=some (some (b,C))->w'.heap[b]?=w.heap[b]?):RO P β' S' w' i ob:=by
 rcases h with⟨h1,h2⟩|⟨b,x,o,h1,h2,h3,h4,h5⟩|⟨b,C,cur,hx,h1,h2,h3,h4,h5,h6⟩
 .exact .inl (by grind)
 .exact .inr (.inl ⟨b,x,o,h1,h2,hβ _ _ h3,(by grind),h5.stepC hβ hS hk⟩)
 .refine .inr (.inr ⟨b,C,cur,hx,hβ _ _ h1,(by grind),h3,h4,h5,λj g hg=>?_⟩)
  grind [RV.stepC]
theorem RO.stepW{P:Bu}{β β':Bm}{S S':Fu}{w w':World}{i:Nat}{ob:Ob}(h:RO P β S w i ob)(hβ:∀i x,β i=some (some x)->β' i=some (some x))(hn:∀i,β i≠none->β' i≠none)(hi:β' i=β i)(hS:∀b,b<w.heap.size->S' b->S b)(hk:DW S w w')
  (hb:∀b C,β i=some (some (b,C))->w'.heap[b]?=w.heap[b]?):RO P β' S' w' i ob:=by
 rcases h with⟨h1,h2⟩|⟨b,x,o,h1,h2,h3,h4,h5⟩|⟨b,C,cur,hx,h1,h2,h3,h4,h5,h6⟩
 .exact .inl (by grind)
 .exact .inr (.inl ⟨b,x,o,h1,h2,hβ _ _ h3,(by grind),h5.stepW hβ hn hS hk⟩)
 .refine .inr (.inr ⟨b,C,cur,hx,hβ _ _ h1,(by grind),h3,h4,h5,λj g hg=>?_⟩)
  grind [RV.stepW]
theorem RO.step{P:Bu}{β β':Bm}{S S':Fu}{w w':World}{i:Nat}{ob:Ob}(h:RO P β S w i ob)(hβ:∀i x,β i=some x->β' i=some x)(hS:∀b,b<w.heap.size->S' b->S b)(hk:A3 S w w')
  (hb:∀b C,β i=some (some (b,C))->w'.heap[b]?=w.heap[b]?):RO P β' S' w' i ob:=h.stepC hβ hS hk.cells hb
theorem RO.at{P:Bu}{β:Bm}{S:Fu}{w:World}{i:Nat}{ob:Ob}(h:RO P β S w i ob):β i=some none\/∃b C o,β i=some (some (b,C))/\w.heap[b]?=some o/\∀l,o≠ .deferred l:=by
 rcases h with⟨h1,h2⟩|⟨b,x,o,h1,h2,h3,h4,h5⟩|⟨b,C,cur,hx,h1,h2,h3,h4,h5,h6⟩
 all_goals grind [XO.not_marks]
theorem A9(i j:Nat)(o:Option Ob)(σ:aQ):ag ((j,o)::σ) i=if j=i then o else ag σ i:=by show(bif Nat.beq j i then o else ag σ i)=_;simp_all
theorem aO(i j:Nat)(g:G)(f:Fr):aD ((j,g)::f) i=if j=i then g else aD f i:=by show(bif Nat.beq j i then g else aD f i)=_;simp_all
attribute [grind =] A9 aO
attribute [grind cases] Bx A3 DW
attribute [grind] Av
def St.put(st:St)(d:Option Tmp)(g:G):St:=
 match d with
 |some d=>{st with fr:=(d,g)::st.fr}
 |none=>st
theorem HI(a:Act)(d:Nat)(v:Value)(h:d<a.tmps.size)(i:Nat):(a.put (some d) v).tmps.getD i undef=if d=i then v else a.tmps.getD i undef:=by simp only[Act.put,Array.getD_eq_getD_getElem?,Array.getElem?_setIfInBounds];grind
theorem Bx.put{P:Bu}{cx:Cx}{st:St}{a:Act}{w:World}{β:Bm}(h:Bx P cx st a w β)(d:Option Tmp)(hd:∀x,d=some x->x<st.n){g:G}{v:Value}(hv:RV β (Av cx.S0 β st.σ) w g v):Bx P cx (st.put d g) (a.put d v) w β:=by
 cases d with
 |none=>exact h
 |some d=>
  have hd':d<a.tmps.size:=by grind
  refine{h with size:=by simp[Act.put,St.put,h.size],fr:=λi=>?_};rw[HI a d v hd'];show RV β _ w (aD ((d,g)::st.fr) i) _;rw[aO];split
  .exact hv
  .exact h.fr i
theorem Bx.world{P:Bu}{cx:Cx}{st:St}{a:Act}{w w':World}{β:Bm}(h:Bx P cx st a w β)(hk:A3 (λ_=>False) w w'):Bx P cx st a w' β:=by
 have hk':A3 (Av cx.S0 β st.σ) w w':=hk.mono (by grind);constructor<;>try grind [D7.keep,IV.keep,A3.trans,A3.mono]
 .exact λi=>(h.fr i).step (by grind) (by grind) hk'
 .exact λi o ho=>(h.ob i o ho).step (by grind) (by grind) hk' (by grind [RO.at])
theorem Bx.lt{P:Bu}{cx:Cx}{st:St}{a:Act}{w:World}{β:Bm}(h:Bx P cx st a w β){i:Nat}{o:Ob}{b C:Nat}(ho:ag st.σ i=some o)(hb:β i=some (some (b,C))):b<w.heap.size:=by grind [RO.at]
theorem Bx.alloc{P:Bu}{cx:Cx}{st:St}{a:Act}{w w':World}{β:Bm}(h:Bx P cx st a w β)(hk:A3 (λ_=>False) w w'){b C:Nat}{cur:Array Value}{ob:Ob}(hb:w.heap.size<=b)(hcur:w'.heap[b]?=some (.cells cur ob.t (0,0)))(hs:cur.size=C*NC P ob.t)(f:C<=maxLen)(hl:ob.l.length<=cur.size)
  (d:ob.x=none) (hr:∀(j:Nat) (g:G),ob.l[j]?=some g->∃u,cur[j]?=some u/\u.oneCell'=true/\RV β (Av cx.S0 β st.σ) w g u) {k:Nat} (hkc:st.c<=k):Bx P cx {st with σ:=(k,some ob)::st.σ,c:=k+1} a w' (λi=>if i=k then some (some (b,C))else β i):=by
 have hβ:∀i x,β i=some x->(λi=>if i=k then some (some (b,C))else β i) i=some x:=by grind
 have hSz:∀b',cx.S0 b'->b'<w.heap.size:=by grind
 have hS:∀b',b'<w.heap.size->Av cx.S0 (λi=>if i=k then some (some (b,C))else β i) ((k,some ob)::st.σ) b'->Av cx.S0 β st.σ b':=by grind
 have hk':A3 (Av cx.S0 β st.σ) w w':=hk.mono (by grind)
 exact{
  size:=h.size
  defers:=by grind [D7.keep]
  loose:=h.loose
  rnd:=h.rnd
  fr:=by grind [RV.step]
  ob:=λi o ho=>by
   have ho':ag ((k,some ob)::st.σ) i=some o:=ho;rw[A9] at ho';by_cases e:k=i
   .subst e;rw[BB rfl] at ho';cases ho';refine .inr (.inr ⟨b,C,cur,d,aC,hcur,hs,f,hl,λj g hg=>?_⟩);grind [RV.step]
   grind [RO.step,lt]
  inj:=λi j o n b' D E hi hj hbi m=>by
   have hi':ag ((k,some ob)::st.σ) i=some o:=hi;have hj':ag ((k,some ob)::st.σ) j=some n:=hj;rw[A9] at hi' hj';by_cases ei:i=k<;>by_cases ej:j=k
   .rw[ei,ej]
   .grind [lt]
   .grind [lt]
   grind
  own:=by grind
  sep:=by grind
  fresh:=by grind
  glob:=by grind [IV.step]
  keep:=h.keep.trans (hk.mono (by grind))
  old:=h.old
  pin:=by grind}
theorem Bx.allocX{P:Bu}{cx:Cx}{st:St}{a:Act}{w w':World}{β:Bm}(h:Bx P cx st a w β)(hk:A3 (λ_=>False) w w'){b:Nat}{ob:Ob}{x:QN}{o0:Obj}(hb:w.heap.size<=b)(hcur:w'.heap[b]?=some o0)(d:ob.x=some x)(hl:ob.l=[])(hr:XO β (Av cx.S0 β st.σ) w x o0){k:Nat}(hkc:st.c<=k):Bx P cx {st with σ:=(k,some ob)::st.σ,c:=k+1} a w' (λi=>if i=k then some (some (b,0))else β i):=by
 have hβ:∀i x,β i=some x->(λi=>if i=k then some (some (b,0))else β i) i=some x:=by grind
 have hSz:∀b',cx.S0 b'->b'<w.heap.size:=by grind
 have hS:∀b',b'<w.heap.size->Av cx.S0 (λi=>if i=k then some (some (b,0))else β i) ((k,some ob)::st.σ) b'->Av cx.S0 β st.σ b':=by grind
 have hk':A3 (Av cx.S0 β st.σ) w w':=hk.mono (by grind);exact{
  size:=h.size
  defers:=by grind [D7.keep]
  loose:=h.loose
  rnd:=h.rnd
  fr:=by grind [RV.step]
  ob:=λi o ho=>by
   have ho':ag ((k,some ob)::st.σ) i=some o:=ho;rw[A9] at ho';by_cases e:k=i
   .subst e;rw[BB rfl] at ho';cases ho';exact .inr (.inl ⟨b,x,o0,d,hl,aC,hcur,hr.step hβ hS hk'⟩)
   grind [RO.step,lt]
  inj:=λi j o g b' D E hi hj hbi f=>by
   have hi':ag ((k,some ob)::st.σ) i=some o:=hi;have hj':ag ((k,some ob)::st.σ) j=some g:=hj;rw[A9] at hi' hj';by_cases ei:i=k<;>by_cases ej:j=k
   .rw[ei,ej]
   .grind [lt]
   .grind [lt]
   grind
  own:=by grind
  sep:=by grind
  fresh:=by grind
  glob:=by grind [IV.step]
  keep:=h.keep.trans (hk.mono (by grind))
  old:=h.old
  pin:=by grind}
abbrev LV(o:Oper)(n:Nat):Prop:=∀d,o.dst=some d->d<n
abbrev H_a(o:Oper)(L:Array Bool):Prop:=∀e∈o.after,Region.binds .any e=true->L.getD e.on false=true
abbrev CC:=List (Nat×List G)
abbrev Bk:=List G
theorem Bx.kill{P:Bu}{cx:Cx}{st:St}{a:Act}{w:World}{β:Bm}(h:Bx P cx st a w β)(k:Nat):Bx P cx {st with σ:=(k,none)::st.σ} a w β:=by
 have hg:∀i o,ag ((k,none)::st.σ) i=some o->ag st.σ i=some o:=by grind
 have hS:∀b',b'<w.heap.size->Av cx.S0 β ((k,none)::st.σ) b'->Av cx.S0 β st.σ b':=by grind
 exact{h with
  fr:=λi=>(h.fr i).step (by grind) hS (A3.refl _ _)
  ob:=λi o ho=>(h.ob i o (hg i o ho)).step (by grind) hS (A3.refl _ _) (by grind)
  inj:=by grind
  glob:=by grind [IV.sub]
  own:=by grind
  sep:=by grind}
theorem Bx.virtX{P:Bu}{cx:Cx}{st:St}{a:Act}{w:World}{β:Bm}(h:Bx P cx st a w β)(t:Bj){d:Option QN}(f:d=none\/d=some .resv){k:Nat}(hkc:st.c<=k):
  Bx P cx {st with σ:=(k,some ⟨t,[],d⟩)::st.σ,c:=k+1} a w (λi=>if i=k then some none else β i):=by
 have hβ:∀i x,β i=some x->(λi=>if i=k then some none else β i) i=some x:=by grind
 have hg:∀(i:Nat) o b C,ag ((k,some ⟨t,[],d⟩)::st.σ) i=some o->(if i=k then some none else β i)=some (some (b,C))->i≠k/\ag st.σ i=some o/\β i=some (some (b,C)):=by grind
 have hS:∀b',b'<w.heap.size->Av cx.S0 (λi=>if i=k then some none else β i) ((k,some ⟨t,[],d⟩)::st.σ) b'->Av cx.S0 β st.σ b':=by grind
 exact{
  size:=h.size
  defers:=h.defers
  loose:=h.loose
  rnd:=h.rnd
  fr:=by grind [RV.step,A3.refl]
  ob:=λi o ho=>by
   have ho':ag ((k,some ⟨t,[],d⟩)::st.σ) i=some o:=ho;rw[A9] at ho';by_cases e:k=i
   .subst e;rw[BB rfl] at ho';cases ho';exact .inl (by grind)
   grind [RO.step,A3.refl]
  inj:=by grind
  own:=by grind
  sep:=by grind
  fresh:=by grind
  glob:=by grind [IV.sub]
  keep:=h.keep
  old:=h.old
  pin:=by grind}
theorem Bx.virt{P:Bu}{cx:Cx}{st:St}{a:Act}{w:World}{β:Bm}(h:Bx P cx st a w β)(t:Bj){k:Nat}(hkc:st.c<=k):
  Bx P cx {st with σ:=(k,some ⟨t,[],none⟩)::st.σ,c:=k+1} a w (λi=>if i=k then some none else β i):=h.virtX t (.inl rfl) hkc
theorem Bx.not_marks{P:Bu}{cx:Cx}{st:St}{a:Act}{w:World}{β:Bm}(h:Bx P cx st a w β){i:Nat}{ob:Ob}{b C:Nat}(ho:ag st.σ i=some ob)(hb:β i=some (some (b,C))){l:Option (List Deferred)}(hd:w.heap[b]?=some (.deferred l)):False:=by grind [RO.at]
theorem Bx.write{P:Bu}{cx:Cx}{st:St}{a:Act}{w w':World}{β:Bm}(h:Bx P cx st a w β){i:Nat}{ob:Ob}{b C:Nat}{cur:Array Value}{l:Bk}(ho:ag st.σ i=some ob)(hb:β i=some (some (b,C)))(hk:A3 (λk=>k=b) w w')
  (hcur:w'.heap[b]?=some (.cells cur ob.t (0,0))) (hs:cur.size=C*NC P ob.t) (d:C<=maxLen) (hl:l.length<=cur.size) (hr:∀(j:Nat) (g:G),l[j]?=some g->∃u,cur[j]?=some u/\u.oneCell'=true/\RV β (Av cx.S0 β st.σ) w g u):
  Bx P cx {st with σ:=(i,some ⟨ob.t,l,none⟩)::st.σ} a w' β:=by
 have hg:∀(j:Nat) o,ag ((i,some ⟨ob.t,l,none⟩)::st.σ) j=some o->∃f,ag st.σ j=some f:=by grind
 have hS:∀b',b'<w.heap.size->Av cx.S0 β ((i,some ⟨ob.t,l,none⟩)::st.σ) b'->Av cx.S0 β st.σ b':=by grind
 have hk':A3 (Av cx.S0 β st.σ) w w':=by grind [A3.mono]
 exact{
  size:=h.size
  defers:=by grind [D7.keep,not_marks]
  loose:=h.loose
  rnd:=h.rnd
  fr:=λj=>(h.fr j).step (by grind) hS hk'
  ob:=λj o hj=>by
   have hj':ag ((i,some ⟨ob.t,l,none⟩)::st.σ) j=some o:=hj;rw[A9] at hj';by_cases e:i=j
   .subst e;rw[BB rfl] at hj';cases hj';refine .inr (.inr ⟨b,C,cur,rfl,hb,hcur,hs,d,hl,λj g hj=>?_⟩);obtain⟨u,hu,h1,c⟩:=hr j g hj;exact⟨u,hu,h1,c.step (by grind) hS hk'⟩
   .rw[BX e] at hj';exact(h.ob j o hj').step (by grind) hS hk' (λb' D hb'=>hk.block b' (h.lt hj' hb') (by grind))
  inj:=by grind
  own:=by grind
  sep:=by grind
  fresh:=h.fresh
  glob:=by grind [IV.step]
  keep:=by grind [A3.then]
  old:=h.old
  pin:=h.pin}
theorem Bx.writeX{P:Bu}{cx:Cx}{st:St}{a:Act}{w w':World}{β:Bm}(h:Bx P cx st a w β){i:Nat}{ob:Ob}{b:Nat}{x:QN}{o0:Obj}(ho:ag st.σ i=some ob)(hb:β i=some (some (b,0)))(hk:A3 (λk=>k=b) w w')(hcur:w'.heap[b]?=some o0)(hr:XO β (Av cx.S0 β st.σ) w x o0):
  Bx P cx {st with σ:=(i,some ⟨ob.t,[],some x⟩)::st.σ} a w' β:=by
 have hg:∀(j:Nat) o,ag ((i,some ⟨ob.t,[],some x⟩)::st.σ) j=some o->∃c,ag st.σ j=some c:=by grind
 have hS:∀b',b'<w.heap.size->Av cx.S0 β ((i,some ⟨ob.t,[],some x⟩)::st.σ) b'->Av cx.S0 β st.σ b':=by grind
 have hk':A3 (Av cx.S0 β st.σ) w w':=by grind [A3.mono]
 exact{
  size:=h.size
  defers:=by grind [D7.keep,not_marks]
  loose:=h.loose
  rnd:=h.rnd
  fr:=λj=>(h.fr j).step (by grind) hS hk'
  ob:=λj o hj=>by
   have hj':ag ((i,some ⟨ob.t,[],some x⟩)::st.σ) j=some o:=hj;rw[A9] at hj';by_cases e:i=j
   .subst e;rw[BB rfl] at hj';cases hj';exact .inr (.inl ⟨b,x,o0,rfl,rfl,hb,hcur,hr.step (by grind) hS hk'⟩)
   .rw[BX e] at hj';exact(h.ob j o hj').step (by grind) hS hk' (λb' D hb'=>hk.block b' (h.lt hj' hb') (by grind))
  inj:=by grind
  own:=by grind
  sep:=by grind
  fresh:=h.fresh
  glob:=by grind [IV.step]
  keep:=by grind [A3.then]
  old:=h.old
  pin:=h.pin}
def g8(a:Br)(w:World):World:=a.foldl (λw D=>w.putObj D (.deferred none)) w
theorem tG:∀(ds:Br) (w:World),(g8 ds w).drawn=w.drawn
 |[],w=>rfl
 |D::ds,w=>(tG ds (w.putObj D (.deferred none))).trans rfl
theorem wj:∀(ds:Br) (w:World),(g8 ds w).heap.size=w.heap.size/\(g8 ds w).os=w.os/\(g8 ds w).tape=w.tape/\(g8 ds w).output=w.output/\∀k,k∉ds->(g8 ds w).heap[k]?=w.heap[k]?
 |[],w=>⟨rfl,rfl,rfl,rfl,λ_ _=>rfl⟩
 |D::ds,w=>by obtain⟨h1,h2,h3,h4,h5⟩:=wj ds (w.putObj D (.deferred none));refine⟨h1.trans aC,h2,h3,h4,λk hk=>?_⟩;simp only[EG,not_or] at hk;exact(h5 k hk.2).trans (World.putObj_heap_other hk.1)
theorem Bx.shut{P:Bu}{cx:Cx}{st:St}{a:Act}{w:World}{β:Bm}(h:Bx P cx st a w β){ds:Br}(c:∀D∈ds,cx.w0.heap.size<=D/\w.heap[D]?=some (.deferred (some []))):Bx P cx st {a with defers:=[]} (g8 ds w) β:=by
 obtain⟨s1,s2,s3,d,e⟩:=wj ds w;have hck0:w.heap.size<=(g8 ds w).heap.size/\∀{b o u},b<w.heap.size->¬Av cx.S0 β st.σ b->w.cell? ⟨b,o,none⟩=some u->(g8 ds w).cell? ⟨b,o,none⟩=some u:=by
  refine⟨Nat.le_of_eq s1.symm,λ{b o u} hb hs hc=>?_⟩;have hn:b∉ds:=by grind [World.cell?]
  grind [World.cell?]
 have hck:DW (Av cx.S0 β st.σ) w (g8 ds w):=by grind [DW]
 have hob:∀i o b C,ag st.σ i=some o->β i=some (some (b,C))->(g8 ds w).heap[b]?=w.heap[b]? :=by grind [not_marks]
 constructor<;>try grind [D7.nil,IV.stepC,A3,tG]
 .exact λi=>(h.fr i).stepC (by grind) (by grind) hck
 .exact λi o ho=>(h.ob i o ho).stepC (by grind) (by grind) hck (by grind)
section
variable {P:Bu}
theorem lP:JO Fence.wide:=⟨λ_=>trivial,rfl,rfl⟩
theorem JO.room{F:Fence}(h:JO F)(n:Nat):F.room n:=λd hd=>by grind [depth]
theorem JO.fenced{F:Fence}(h:JO F)(m:Machine):m.fenced P F:=λg _=>(by grind [alive,fn,room])
theorem JO.some{F:Fence}(h:JO F){n:Nat}(hs:F.depth.isSome=true):1<=n:=by grind [depth]
theorem JO.steps{F:Fence}(h:JO F){m m':Machine}(hs:Steps P m m'):StepsIn (Machine.fenced P F) P m m':=(StepsIn.of_steps hs).mono λm _=>h.fenced m
theorem JO.calls{F:Fence}(hL:JO F){n:Nat}{f:FuncId}{args:Array Value}{w:World}{R:Ending->World->Prop}(h:Calls P f args w R):CallsIn F n P f args w R:=
 ⟨hL.fn f,λcs _=>by
  obtain⟨e,w',fr,hR,hc,hf,hl⟩:=h cs;refine⟨e,w',fr,hR,?_,hf,hl⟩;cases e with
  |returned v=>exact hL.steps hc
  |panicked ch=>exact hL.steps hc
  |outgrown=>exact hc⟩
theorem JO.rows{F:Fence}(hL:JO F){n:Nat}{row:String}{args:Array Value}{w:World}{R:Value->World->Prop}(h:Rows P row args w R):RowsIn F n P row args w R:=λc cs _=>by obtain⟨v,w',hR,hc⟩:=h c cs;grind [steps]
theorem JO.oper{F:Fence}(hL:JO F){n:Nat}{o:Oper}(hd:∀c,o.op≠ .defer c){a:Act}{w:World}{K:Act->World->Prop}{R:Exit->Act->World->Prop}(h:o.wp P a w K R):o.wpIn F n P a w K R:=by
 refine⟨λf _=>hL.fn f,?_⟩;have hs:o.semAt F.round a.eval=execOp a.eval o:=by
  cases F.round with
  |none=>rfl
  |some l=>grind [Oper.semAt_some]
 rw[hs];unfold Oper.wp Oper.upon at h;unfold Oper.uponIn;revert h;generalize (execOp a.eval o).run P w=r;intro h;split at h
 .exact h
 .exact h
 .exact h
 .exact⟨hL.some,(hL.calls h).mono (by grind)⟩
 all_goals grind [some,rows]
def Tr(P:Bu)(c:Code)(st:St)(Q:Exit->St->Prop):Prop:=
 ∀cx a w R,mh P cx st a w->(∀x st' a' w',Q x st'->mh P cx st' a' w'->R x a' w')->c.wpIn cx.F cx.nn P R a w
def Le(P:Bu)(st st':St):Prop:=∀cx a w,mh P cx st a w->mh P cx st' a w
theorem Le.refl(st:St):Le P st st:=λ_ _ _ h=>h
theorem Le.trans{a b c:St}(h:Le P a b)(k:Le P b c):Le P a c:=λcx x w r=>k cx x w (h cx x w r)
theorem Tr.le{c:Code}{st st':St}{Q:Exit->St->Prop}(h:Tr P c st' Q)(l:Le P st st'):Tr P c st Q:=λcx a w R r k=>h cx a w R (l cx a w r) k
theorem Tr.mono{c:Code}{st:St}{Q Q':Exit->St->Prop}(h:Tr P c st Q)(hq:∀x s,Q x s->Q' x s):Tr P c st Q':=λcx a w R r k=>h cx a w R r (by grind)
theorem Fy{st:St}{Q:Exit->St->Prop}(h:Q .normal st):Tr P .skip st Q:=λ_ a w _ r k=>wpIn_skip (by grind)
theorem HJ{l:Nat}{st:St}{Q:Exit->St->Prop}(h:Q .normal st):Tr P (.label l) st Q:=λ_ a w _ r k=>wpIn_label (by grind)
theorem Fz{st:St}{Q:Exit->St->Prop}(h:Q (.exit id) st):Tr P (.exit id) st Q:=λ_ a w _ r k=>wpIn_exit (by grind)
theorem PW{st:St}{Q:Exit->St->Prop}(h:Q .ret st):Tr P .ret st Q:=λ_ a w _ r k=>wpIn_ret (by grind)
def uE(K:St->Prop)(Q:Exit->St->Prop):Exit->St->Prop
 | .normal,st=>K st
 |e,st=>Q e st
theorem BH{st:St}{Q:Exit->St->Prop}(h:Tr P x st (uE (λs=>Tr P y s Q) Q)):Tr P (.seq x y) st Q:=λcx a w R r k=>
 wpIn_seq (h cx a w _ r λe s a' w' q r'=>by
  cases e with
  |normal=>exact q cx a' w' R r' k
  |_=>exact k _ s a' w' q r')
theorem zA{F:Fence}{Q:Exit->Act->World->Prop}(I:Nat->Act->World->Prop)(f:Nat)(g:I f a w)
  (b:∀m a w,I m a w->c.wpIn F n P (Exit.then (λa' w'=>∃d,d<m/\I d a' w') Q) a w):(Code.loop c).wpIn F n P Q a w:=by
 have key:∀a w,(∃n,I n a w)->I (leastOf λn=>I n a w) a w:=λa w h=>(leastOf_spec h).1
 refine wpIn_loop (λa w=>∃n,I n a w) (λa w=>leastOf λn=>I n a w) (by grind) λa w h=>?_
 refine wpIn_mono (b _ a w (key a w h)) λe a' w' q=>?_
 cases e with
 |normal=>
  obtain⟨d,hm,hI⟩:=q
  exact⟨⟨d,hI⟩,Nat.lt_of_le_of_lt ((leastOf_spec (p:=λn=>I n a' w') ⟨d,hI⟩).2 d hI) hm⟩
 |_=>exact q
def pu(id:Nat)(Q:Exit->St->Prop):Exit->St->Prop
 | .exit id',st=>if id'=id then Q .normal st else Q (.exit id') st
 |e,st=>Q e st
theorem BI{st:St}{Q:Exit->St->Prop}(h:Tr P c st (pu id Q)):Tr P (.block id c) st Q:=λcx a w R r k=>
 wpIn_block (h cx a w _ r λe s a' w' q r'=>by cases e<;>grind [pu,Exit.inBlock])
theorem L4{ι:Type}(S:ι->St)(μ:ι->Nat)(d:ι){st:St}{Q:Exit->St->Prop}(h0:Le P st (S d))
  (b:∀i,Tr P c (S i) (uE (λs=>∃j,Le P s (S j)/\μ j<μ i) Q)):Tr P (.loop c) st Q:=λcx a w R r k=>
 zA (λn a w=>∃i,μ i=n/\mh P cx (S i) a w) (μ d) ⟨d,rfl,h0 cx a w r⟩ λn a1 f ⟨i,hi,ri⟩=>
  b i cx a1 f _ ri λe s a' w' q r'=>by
   cases e with
   |normal=>obtain⟨j,hj,hlt⟩:=q;exact⟨μ j,aa,j,rfl,hj cx a' w' r'⟩
   |_=>exact k _ s a' w' q r'
def db:Value->G
 | .agg cs=>if cs.toList.all Value.oneCell' then .agg (cs.toList.map .lit)else .lit (.agg cs)
 |v=> .lit v
def aB(st:St):DC->G
 | .tmp t=>aD st.fr t
 | .const v=>db v
 | .global g=>match st.gl.lookup g with|some l=> .ptr l 0|none=> .junk
 | .func f=> .clo (.func f) [] []
theorem IV.glit(S:Fu)(w:World)(v:Value):IV S w (db v) v:=by
 unfold db;split
 .rename_i cs;split
  .rename_i h;refine .agg _ _ aC (λi u hu=>?_) (λi g u hg hu=>?_)
   .exact GV.1 h u (bO (by simpa using hu))
   .rw[Mu] at hg;rw[<-Array.getElem?_toList] at hu;rw[hu] at hg;simp at hg;subst hg;exact .lit u
  .exact .lit _
 .exact .lit _
theorem Bx.ev{cx:Cx}{st:St}{a:Act}{w:World}{β:Bm}(h:Bx P cx st a w β)(x:DC):RV β (Av cx.S0 β st.σ) w (aB st x) (a.eval x):=by
 cases x with
 |tmp t=>exact h.fr t
 |const v=>exact .imm _ _ (.glit _ _ v)
 |global g=>
  simp only[aB];split
  .rename_i l hl;exact .imm _ _ (h.glob g l hl)
  .exact .junk _
 |func f=>exact .imm _ _ (.clo _ _ _ _ _ rfl rfl aC aC)
theorem RV.lit_eq{β:Bm}{S:Fu}{w:World}{u v:Value}(h:RV β S w (.lit u) v):v=u:=by
 cases h with
 |imm _ _ h=>cases h;rfl
theorem wk{c:DC}{t:Bool}{st:St}{Q:Exit->St->Prop}(hc:aB st c= .lit (.bool t))(h:Tr P (if t then x else y) st Q):Tr P (.cond c x y) st Q:=λcx a w R ⟨β,r⟩ k=>
 wpIn_cond (t:=t) (by have:=r.ev c;grind [RV.lit_eq]) (h cx a w R ⟨β,r⟩ k)
def GS(P:Bu)(o:Oper)(st st':St):Prop:=∀cx a w K R,mh P cx st a w->(∀a' w',mh P cx st' a' w'->K a' w')->o.wpIn cx.F cx.nn P a w K R
def ce(st:St)(ops:Array Oper)(o:Oper):Fo:=
 match o.guard with
 |none=>some true
 |some (j,want)=>match(ops[j]?).bind (·.dst) with
  |some d=>match aD st.fr d with
   | .lit (.bool b)=>some (b==want)
   | .lit _=>some false
   |_=>none
  |none=>some false
def D8(P:Bu)(ops:Array Oper)(K:St->Prop):HE->St->Prop
 |[],st=>K st
 |o::rest,st=>(ce st ops o=some true/\∃a,GS P o st a/\D8 P ops K rest a)\/(ce st ops o=some false/\(∀d,o.dst=some d->d<st.n)/\D8 P ops K rest (st.put o.dst (.lit undef)))
theorem cT{cx:Cx}{st:St}{β:Bm}(h:Bx P cx st a w β){ops:Array Oper}{o:Oper}{t:Bool}(hw:ce st ops o=some t):Region.wanted o (yielded ops a.tmps)=t:=by
 unfold ce at hw;unfold Region.wanted;cases hg:o.guard with
 |none=>grind
 |some x=>
  obtain⟨j,c⟩:=x;simp only[hg] at hw;simp only[yielded];cases hd:(ops[j]?).bind (·.dst) with
  |none=>grind
  |some d=>
   rw[hd] at hw;simp only at hw;have hf:=h.fr d;cases hv:aD st.fr d with
   |lit v=>
    rw[hv] at hw hf;have hx:=hf.lit_eq;cases v with
    |bool b=>
     simp only[Fe] at hw;have:a.tmps[d]?=some (.bool b):=by rw[Array.getD_eq_getD_getElem?] at hx;grind [undef]
     simp_all
    |_=>
     simp only[Fe] at hw;subst hw;rw[Array.getD_eq_getD_getElem?] at hx;cases he:a.tmps[d]? with
     |none=>simp[he]
     |some u=>rw[he] at hx;simp only[Nt] at hx;subst hx;simp[he]
   |_=>rw[hv] at hw;simp at hw
theorem xK{ops:Array Oper}{K:St->Prop}{cx:Cx}{Q:Exit->Act->World->Prop}(c:∀st a w,K st->mh P cx st a w->Q .normal a w):∀(l:HE) (st:St) (a:Act) (w:World),D8 P ops K l st->mh P cx st a w->wpListIn cx.F cx.nn P ops Q l a w
 |[],st,a,w,h,r=>wpListIn_nil (c st a w h r)
 |o::rest,st,a,w,h,r=>by
  obtain⟨β,rb⟩:=r;rcases h with⟨hg,d,hs,hr⟩|⟨hg,hd,hr⟩
  .refine wpListIn_step λK' b=>?_;rw[BB (cT rb hg)];exact hs cx a w K' Q ⟨β,rb⟩ λa' w' r'=>b _ _ (xK c rest d a' w' hr r')
  .refine wpListIn_step λK' b=>?_;rw[BX (by grind [cT])];exact⟨λf _=>rb.loose.fn f,b _ _ (xK c rest _ _ w hr ⟨β,rb.put o.dst hd (.imm _ _ (.lit _))⟩)⟩
theorem D9{id:Nat}{l:HE}{st:St}{Q:Exit->St->Prop}(h:D8 P l.toArray (Q .normal) l st):Tr P (.region id l.toArray false) st Q:=λcx a w R r k=>
 (by grind [wpIn_region_lit,xK])
theorem wm{K:St->Prop}{Q:Exit->St->Prop}{st:St}(h:K st):uE K Q .normal st:=h
theorem PX{Q:Exit->St->Prop}{st:St}(h:Q .normal st):pu id Q (.exit id) st:=by grind [pu]
theorem PY{Q:Exit->St->Prop}{st:St}(hi:i≠id)(h:Q (.exit i) st):pu id Q (.exit i) st:=by grind [pu]
theorem wn{F:Fence}{n:Nat}{fn:Func}{tmps:Array Value}{R:Ending->World->Prop}:∀(ds:Br) (w:World),(∀D∈ds,w.heap[D]?=some (.deferred (some [])))->ds.Nodup->LeavesInM F n P fn tmps R [] .returning (g8 ds w)->LeavesInM F n P fn tmps R (ds.map rp) .returning w
 |[],w,_,_,h=>h
 |D::ds,w,hd,hn,h=>by obtain⟨n1,n2⟩:=M0.1 hn;refine⟨aC,.inl ⟨D,_,rfl,run_takeDeferred (by grind),?_⟩⟩;refine wn ds _ (λD' hD'=>?_) n2 h;grind [World.putObj_heap_other]
theorem rq{fid:FuncId}{fn:Func}{body:Code}{args:Array Value}{R:Ending->World->Prop}{cx:Cx}{st:St}{Q:Exit->St->Prop}(hfn:P.funcs[fid]?=some fn)(hb:fn.body=some body)(hT:Tr P body st Q)(hF:cx.F=Fence.wide)(a:cx.nn=9)(hr:mh P cx st {tmps:=args++Array.replicate (fn.ntmps-args.size) undef,defers:=[]} w)
  (hQ:∀e s a' w',Q e s->mh P cx s a' w'->(e= .normal\/e= .ret)/\∃v,(results fn a'.tmps).run P w'= .ok v w'/\R (.returned v) w'):Calls P fid args w R:=by
 refine callsIn_wide.1 (callsIn_of_wp_marks hfn hb trivial (n:=9) ?_ rfl)
 have h:=hT cx _ w (bodyPostM Fence.wide 9 P fn R) hr λe s a' w' hq ⟨β,h'⟩=>by
  obtain⟨f,b,c,d⟩:=h'.defers;obtain⟨he,v,hv,hR⟩:=hQ e s _ _ hq ⟨β,h'.shut d⟩;have key:LeavesInM Fence.wide 9 P fn a'.tmps R a'.defers .returning w':=by rw[b];exact wn f w' (by grind) c ⟨v,hv,hR⟩
  rcases he with rfl|rfl<;>exact key
 grind
attribute [irreducible] uE pu
def bt{α:Type}(p:Bu):Sem α->Option α
 | .pure a=>some a
 | .program k=>bt p (k p)
 |_=>none
theorem oh{α:Type}{p:Bu}:∀{s:Sem α} {a:α},bt p s=some a->∀w,s.run p w= .ok a w
 | .pure b,a,h,w=>by simp[bt] at h;subst h;rfl
 | .program k,a,h,w=>by simp only[bt] at h;exact oh (s:=k p) h w
 | .load ..,a,h,w| .store ..,a,h,w| .new ..,a,h,w| .shape ..,a,h,w| .freeze ..,a,h,w| .frozen ..,a,h,w| .getObj ..,a,h,w| .setObj ..,a,h,w
 | .choose ..,a,h,w| .sys ..,a,h,w| .mark ..,a,h,w| .halt ..,a,h,w=>by simp[bt] at h
def rt:Bk->Option (List Value)
 |[]=>some []
 | .lit v::r=>(rt r).map (v::·)
 |_::_=>none
def cD:G->Option Value
 | .lit v=>some v
 | .agg l=>(rt l).map λus=> .agg us.toArray
 | .clo fn [] []=>some (.func fn #[] #[])
 |_=>none
theorem BJ:∀{l:Bk} {us:List Value},rt l=some us->us.length=l.length/\∀(i:Nat) (g:G),l[i]?=some g->∃u,us[i]?=some u/\g= .lit u
 |[],us,h=>by grind [rt]
 |g::r,us,h=>by
  cases g with
  |lit v=>simp only[rt,DQ] at h;obtain⟨a,h',rfl⟩:=h;obtain⟨h1,h2⟩:=BJ h';grind
  |_=>simp[rt] at h
theorem RV.arr{β:Bm}{S:Fu}{w:World}{l:Bk}{us:List Value}(hl:rt l=some us){xs:Array Value}(hs:xs.size=l.length)(h:∀(i:Nat) (g:G) (u:Value),l[i]?=some g->xs[i]?=some u->RV β S w g u):xs=us.toArray:=by obtain⟨h1,h2⟩:=BJ hl;apply Array.ext (by simp[hs,h1]);intro i hi hi';have hl:i<l.length:=aa;obtain⟨u,hu,hg⟩:=h2 i l[i] (by simp_all);have:=h i l[i] xs[i] (by simp_all) (by simp[hi]);grind [lit_eq]
theorem RV.val{β:Bm}{S:Fu}{w:World}{g:G}{u v:Value}(hg:cD g=some u)(h:RV β S w g v):v=u:=by
 cases g with
 |lit x=>grind [cD,lit_eq]
 |agg l=>
  simp only[cD,DQ] at hg;obtain⟨us,hl,rfl⟩:=hg;cases h with
  |imm _ _ h=>
   cases h with
   |agg _ xs hs h1 h=>rw[RV.arr (β:=λ_=>none) (S:=S) (w:=w) hl hs (by grind [RV])]
  |agg _ xs hs h1 h=>rw[RV.arr hl hs h]
 |clo fn f c=>
  cases f with
  |cons _ _=>simp[cD] at hg
  |nil=>
   cases c with
   |cons _ _=>simp[cD] at hg
   |nil=>
    simp[cD] at hg;subst hg;cases h with
    |imm _ _ h=>cases h<;>grind
    |clo _ _ _ fs cs hf hc _ _=>grind
 |_=>simp[cD] at hg
def gJ(P:Bu)(ρ:DC->G)(o:Oper):Option G:=
 if o.op.operands.all (λx=>(cD (ρ x)).isSome) then
  match bt P (execOp (λx=>(cD (ρ x)).getD undef) o) with
  |some (.value v)=>some (db v)
  |_=>none
 else none
def fg(P:Bu)(t:Bj):Fo:=(P.underlying t).map fun| .struct _| .array _ _=>true|_=>false
def dp(P:Bu)(t:Bj):Option Bj:=(P.underlying t).bind fun| .slice e=>some e|_=>none
def ND(P:Bu)(t:Bj):Option (Nat×Bj):=(P.underlying t).bind fun| .array n e=>some (n,e)|_=>none
def bw(P:Bu)(t:Bj):Fq:=(P.info? t).map (·.size)
def ru(P:Bu)(t:Bj)(k:Nat):Option (Nat×Bj):=(P.underlying t).bind fun| .struct fs=>fs[k]?.map (λf=>(f.offset,f.type))|_=>none
def dN(P:Bu)(t:Bj)(l:Bk)(o:Nat):Option G:=
 match fg P t,bw P t with
 |some true,some n=>if o+n<=l.length then some (.agg ((l.drop o).take n))else none
 |some false,_=>l[o]?
 |_,_=>none
def jU(P:Bu)(σ:aQ)(t:Bj):G->Option G
 | .ref i o=>(ag σ i).bind λob=>dN P t ob.l o
 | .ptr l o=>dN P t l o
 |_=>none
def wo(k:Nat):G->Option G
 | .ref i o=>some (.ref i (o+k))
 | .ptr l o=>some (.ptr l (o+k))
 |_=>none
def UM:G->JQ
 | .lit (.int _ n)=>some n
 |_=>none
def fh(P:Bu)(t:Bj)(x:G)(i:Int):Option G:=
 match x,dp P t,ND P t with
 | .sl l n,some e,_=>(bw P e).bind λs=>if 0<=i/\i<n/\i.toNat*s<l.length then some (.ptr l (i.toNat*s))else none
 | .rsl j o n,some e,_=>(bw P e).bind λs=>if 0<=i/\i<n then some (.ref j (o+i.toNat*s))else none
 |x,none,some (n,e)=>(bw P e).bind λs=>if 0<=i/\i<n then wo (i.toNat*s) x else none
 |_,_,_=>none
def ig(P:Bu)(t:Bj)(x:G)(lo hi:JQ):Option G:=
 match x,dp P t with
 | .sl l n,some e=>(bw P e).bind λs=>match lo,hi with
  |none,none=>some (.sl l n)
  |none,some h=>if 0<=h/\h<=n then some (.sl (l.take (h.toNat*s)) h.toNat)else none
  |some a,none=>if 0<=a/\a<=n/\l.length<=n*s then some (.sl (l.drop (a.toNat*s)) (n-a.toNat))else none
  |some a,some h=>if 0<=a/\a<=h/\h<=n then some (.sl ((l.take (h.toNat*s)).drop (a.toNat*s)) (h.toNat-a.toNat))else none
 | .rsl i o n,some e=>(bw P e).bind λs=>if s=0 then none else match lo,hi with
  |none,none=>some (.rsl i o n)
  |none,some h=>if 0<=h/\h<=n then some (.rsl i o h.toNat)else none
  |some a,none=>if 0<=a/\a<=n then some (.rsl i (o+a.toNat*s) (n-a.toNat))else none
  |some a,some h=>if 0<=a/\a<=h/\h<=n then some (.rsl i (o+a.toNat*s) (h.toNat-a.toNat))else none
 |_,_=>none
def HK:G->JQ
 | .sl _ n=>some n
 | .rsl _ _ n=>some n
 | .rsr _ n=>some n
 | .lit (.slice _ n _)=>some n
 |_=>none
def Ea:G->Fo
 | .lit (.bool b)=>some b
 |_=>none
def JX:Option G->Option JQ
 |none=>some none
 |some g=>(UM g).map some
def aX(P:Bu)(ρ:DC->G)(σ:aQ)(o:Oper):Option G:=
 match o.op with
 | .move x| .assign x=>some (ρ x)
 | .pick c a b=>(Ea (ρ c)).map λt=>if t then ρ a else ρ b
 | .load t x=>jU P σ t (ρ x)
 | .nilCheck x=>match ρ x with
  | .ref i o=>some (.ref i o)
  | .ptr l o=>some (.ptr l o)
  | .clo (.func f) a b=>some (.clo (.func f) a b)
  |_=>none
 | .makeFunc fn f c=>some (.clo fn (f.map ρ).toList (c.map ρ).toList)
 | .extract x k=>match ρ x with
  | .tup l=>l[k]?
  |_=>none
 | .makeInterface t x=>(P.underlying t).bind fun| .interface _=>none|_=>some (.ifc t (ρ x))
 | .fieldAddr t x k=>(ru P t k).bind λ(off,ft)=>(bw P ft).bind λn=>if n=0 then none else wo off (ρ x)
 | .field t x k=>match ρ x with
  | .agg l=>(ru P t k).bind λ(off,ft)=>dN P ft l off
  |_=>none
 | .indexAddr t x i=>(UM (ρ i)).bind λk=>fh P t (ρ x) k
 | .index t x i=>match ρ x with
  | .agg l=>(ND P t).bind λ(n,e)=>(UM (ρ i)).bind λk=>(bw P e).bind λs=>if 0<=k/\k<n then dN P e l (k.toNat*s)else none
  |_=>gJ P ρ o
 | .slice t x lo hi none=>match ρ x with
  | .lit _=>gJ P ρ o
  |g=>(JX (lo.map ρ)).bind λa=>(JX (hi.map ρ)).bind λb=>ig P t g a b
 | .call {callee:= .builtin .len,args,argTypes}=>match args.toList,argTypes.toList with
  |[x],[t]=>if(dp P t).isSome then(HK (ρ x)).map λn=> .lit (.int .i64 n)else gJ P ρ o
  |_,_=>none
 | .call {callee:= .builtin .max,.. }| .call {callee:= .builtin .min,.. }| .binOp .. | .unOp .. | .convert .. =>gJ P ρ o
 |_=>none
theorem sC{t:Bj}{b:Bool}(h:fg P t=some b)(w:World):(isAgg t).run P w= .ok b w:=by simp only[fg,DQ] at h;obtain⟨d,hd,rfl⟩:=h;unfold isAgg;simp only[E0,Gc hd,E1];cases d<;>rfl
theorem dG{t:Bj}(h:bw P t=some n)(w:World):(sizeOf t).run P w= .ok n w:=by simp only[bw,DQ] at h;obtain⟨i,hi,rfl⟩:=h;simp[sizeOf,typeInfo,hi]
theorem Ng{t:Bj}(h:bw P t=some n):NC P t=n:=by grind [NC,bw]
theorem fZ{cx:Cx}{st:St}{β:Bm}(h:Bx P cx st a w β)(hs:∀cs b,o.op≠ .select cs b){g:G}(hg:gJ P (aB st) o=some g):∃v,(execOp a.eval o).run P w= .ok (.value v) w/\RV β (Av cx.S0 β st.σ) w g v:=by
 unfold gJ at hg;split at hg
 .rename_i hall;have hc:execOp a.eval o=execOp (λx=>(cD (aB st x)).getD undef) o:=by refine execOp_congr o hs λx hx=>?_;have:=Array.all_eq_true_iff_forall_mem.1 hall x hx;obtain⟨u,hu⟩:=WE.1 this;rw[(h.ev x).val hu,hu];rfl
  grind [oh,RV,IV.glit]
 .cases hg
def Cl(β:Bm)(S:Fu)(w:World)(l:Bk)(b a:Nat)(us:Nat->Value):Prop:=
 (∀i,i<l.length->w.cell? ⟨b,a+i,none⟩=some (us i))/\(∀i,i<l.length->(us i).oneCell'=true)/\∀(i:Nat) (g:G),l[i]?=some g->RV β S w g (us i)
theorem BK(a:Addr):a.add 0=a:=by unfold Addr.add;simp
theorem iS(b o i:Nat):(⟨b,o,none⟩:Addr).add i=⟨b,o+i,none⟩:=by grind [Addr.add]
theorem BL{β:Bm}{S:Fu}{l:Bk}{us:Nat->Value}(hc:Cl β S w l b off us){t:Bj}{o:Nat}{g:G}(hg:dN P t l o=some g):
  ∃v,(loadVar t ⟨b,off+o,none⟩).run P w= .ok v w/\RV β S w g v:=by
 unfold dN at hg
 split at hg
 .rename_i n h1 h2
  split at hg
  .rename_i hle
   simp only[Fe] at hg
   subst hg
   refine⟨.agg ((List.range n).map λi=>us (o+i)).toArray,?_,?_⟩
   .unfold loadVar
    simp only[E0,sC h1,E1,if_true,dG h2]
    rw[run_loadCells w ⟨b,off+o,none⟩ n (λi=>us (o+i)) (λj hj=>by rw[iS,Nat.add_assoc];exact hc.1 (o+j) aa)]
    rfl
   .refine .agg _ _ cq (λi u hu=>?_) (λi g u hl hu=>?_)
    .have hi:i<n:=by grind
     obtain rfl:us (o+i)=u:=by grind
     exact hc.2.1 _ aa
    .have hi:i<n:=by grind
     obtain rfl:us (o+i)=u:=by grind
     rw[List.getElem?_take,BB hi,List.getElem?_drop] at hl
     exact hc.2.2 _ _ hl
  .cases hg
 .have h1:fg P t=some false:=by assumption
  have hlt:=(cr hg).1
  refine⟨us o,?_,hc.2.2 _ _ hg⟩
  unfold loadVar
  simp only[E0,sC h1,E1]
  simp[load,Sem.run,hc.1 o hlt]
 .cases hg
theorem BM{β:Bm}{S:Fu}{l:Bk}(hl:us.size=l.length)(h1:∀(i:Nat) (u:Value),us[i]?=some u->u.oneCell'=true)(h:∀(i:Nat) (g:G) (u:Value),l[i]?=some g->us[i]?=some u->RV β S w g u)
  {t:Bj} {o:Nat} {g:G} (hg:dN P t l o=some g):∃v,(part t us o).run P w= .ok v w/\RV β S w g v:=by
 unfold dN at hg
 split at hg
 .rename_i n h2 h3
  split at hg
  .rename_i hle
   simp only[Fe] at hg
   subst hg
   refine⟨.agg (us.extract o (o+n)),?_,?_⟩
   .unfold part
    simp only[E0,sC h2,E1,if_true,dG h3]
    rfl
   grind [RV,Array.getElem?_extract]
  .cases hg
 .have h2:fg P t=some false:=by assumption
  have hlt:=(cr hg).1
  have hu:us[o]?=some (us[o]'aa):=by grind
  refine⟨us[o]'aa,?_,h _ _ _ hg hu⟩
  unfold part
  simp only[E0,sC h2,E1,Bool.false_eq_true,if_false,hu]
  rfl
 .cases hg
theorem RV.ptr_cells{β:Bm}{S:Fu}{w:World}{l:Bk}{o:Nat}{v:Value}(h:RV β S w (.ptr l o) v):∃b a us,v= .pointer (some ⟨b,a+o,none⟩)/\¬S b/\b<w.heap.size/\Cl β S w l b a us:=by
 cases h with
 |imm _ _ h=>
  cases h with
  |ptr _ _ b a us hs hb hc h1 h=>exact⟨b,a,us,rfl,hs,hb,hc,h1,(by grind [RV])⟩
theorem RV.ref_addr{β:Bm}{S:Fu}{w:World}{i o:Nat}{v:Value}(h:RV β S w (.ref i o) v):∃b C,β i=some (some (b,C))/\v= .pointer (some ⟨b,o,none⟩):=by
 cases h with
 |imm _ _ h=>cases h
 |ref _ _ b C h=>grind
theorem RV.mref_form{β:Bm}{S:Fu}{w:World}{i:Nat}{v:Value}(h:RV β S w (.mref i) v):∃b C,β i=some (some (b,C))/\v= .map (some b):=by
 cases h with
 |imm _ _ h=>cases h
 |mref _ b C h=>grind
theorem RV.rsr_form{β:Bm}{S:Fu}{w:World}{i n:Nat}{v:Value}(h:RV β S w (.rsr i n) v):∃b C,β i=some (some (b,C))/\v= .slice (some ⟨b,0,none⟩) n C/\n<=C/\C<=maxLen:=by
 cases h with
 |imm _ _ h=>cases h
 |rsr _ _ b C h hn hm=>grind
theorem RV.yld_form{β:Bm}{S:Fu}{w:World}{i:Nat}{v:Value}(h:RV β S w (.yld i) v):∃b C,β i=some (some (b,C))/\v= .func (.yield b) #[] #[]:=by
 cases h with
 |imm _ _ h=>cases h
 |yld _ b C h=>grind
theorem RO.cells{β:Bm}{S:Fu}{w:World}{i b C:Nat}{ob:Ob}(h:RO P β S w i ob)(hb:β i=some (some (b,C))):∃us,Cl β S w ob.l b 0 us:=by
 rcases h with⟨h1,_⟩|⟨b',a,c,_,hl,_⟩|⟨b',C',cur,_,h1,h2,h3,h4,h5,h6⟩
 .grind
 .rw[hl];exact⟨λ_=>undef,λi hi=>absurd hi aC,λi hi=>absurd hi aC,λi g hg=>by simp at hg⟩
 .rw[h1] at hb;cases hb;have hu:∀i,i<ob.l.length->cur[i]?=some (cur.getD i undef):=λi hi=>by have:i<cur.size:=aa;simp[this]
  refine⟨λi=>cur.getD i undef,λi hi=>?_,λi hi=>?_,λi g hg=>?_⟩
  .grind [cell_of_row]
  .obtain⟨u,hu',h1',_⟩:=h6 i _ (EA hi);grind
  .have hi:=(cr hg).1;obtain⟨u,hu',_,hr⟩:=h6 i g hg;rw[hu i hi] at hu';cases hu';exact hr
theorem Eb{cx:Cx}{st:St}{β:Bm}(h:Bx P cx st a w β){t:Bj}{x g:G}(hx:RV β (Av cx.S0 β st.σ) w x v)(hg:jU P st.σ t x=some g):
  ∃u,(Instr.loadAt t v).run P w= .ok u w/\RV β (Av cx.S0 β st.σ) w g u:=by
 unfold jU at hg
 split at hg
 .rename_i i o
  rw[Gf] at hg
  obtain⟨ob,ho,hg⟩:=hg
  obtain⟨b,C,hb,rfl⟩:=hx.ref_addr
  obtain⟨us,hc⟩:=(h.ob i ob ho).cells hb
  grind [BL,Instr.loadAt,Instr.sureAddr]
 all_goals grind [RV.ptr_cells,BL,Instr.loadAt,Instr.sureAddr]
theorem Ec{β:Bm}{S:Fu}{x g:G}(hx:RV β S w x v)(hg:wo k x=some g):∃a,v= .pointer (some a)/\RV β S w g (.pointer (some (a.add k))):=by
 cases x with
 |ref i o=>grind [wo,RV.ref_addr,iS,RV]
 |ptr l o=>
  simp[wo] at hg;subst hg;cases hx with
  |imm _ _ h=>
   cases h with
   |ptr _ _ b off us hs hb hc h1 h=>exact⟨_,rfl,by rw[iS,Nat.add_assoc];exact .imm _ _ (.ptr l (o+k) b off us hs hb hc h1 h)⟩
 |_=>simp[wo] at hg
theorem ol{β:Bm}{S:Fu}{x:G}{n:Int}(hx:RV β S w x v)(hg:UM x=some n):∃k,v= .int k n:=by
 cases x with
 |lit u=>cases u<;>grind [UM,RV.lit_eq]
 |_=>simp[UM] at hg
theorem cE{t e:Bj}(h:dp P t=some e):P.underlying t=some (.slice e):=by grind [dp,Gf]
theorem xM{t e:Bj}(h:ND P t=some (n,e)):P.underlying t=some (.array n e):=by grind [ND,Gf]
theorem yO{t ft:Bj}(h:ru P t k=some (off,ft)):∃fs f,P.underlying t=some (.struct fs)/\fs[k]?=some f/\f.offset=off/\f.type=ft:=by grind [ru,Gf]
theorem RV.sl_cells{β:Bm}{S:Fu}{w:World}{l:Bk}{n:Nat}{v:Value}(h:RV β S w (.sl l n) v):∃(a:Option Addr) (cap:Nat) (us:Nat->Value),v= .slice a n cap/\n<=cap/\cap<=maxLen/\(∀i,i<l.length->∃b c,a=some ⟨b,c,none⟩/\¬S b/\b<w.heap.size/\w.cell? ⟨b,c+i,none⟩=some (us i))/\(∀i,i<l.length->(us i).oneCell'=true)/\∀(i:Nat) (g:G),l[i]?=some g->IV S w g (us i):=by
 cases h with
 |imm _ _ h=>
  cases h with
  |sl _ _ a cap us hn hm ha h1 h=>exact⟨a,cap,us,rfl,hn,hm,ha,h1,h⟩
theorem RV.rsl_form{β:Bm}{S:Fu}{w:World}{i o n:Nat}{v:Value}(h:RV β S w (.rsl i o n) v):
  (β i≠none/\v= .slice none 0 0/\n=0)\/∃b C a cap,β i=some (some (b,C))/\v= .slice (some ⟨b,a,none⟩) n cap/\n<=cap/\cap<=maxLen/\(cap≠0->a=o)/\(o=0->cap=C/\a=0):=by
 cases h with
 |imm _ _ h=>cases h
 |rsl0 _ _ h=>grind
 |rsl _ _ _ b C a cap h hn hm ho c=>grind
theorem AbV{β:Bm}{S:Fu}{t:Bj}{x g:G}{i:Int}{k:IntKind}(hx:RV β S w x v)(hg:fh P t x i=some g):∃u,(Instr.indexAt t v (.int k i)).run P w= .ok u w/\RV β S w g u:=by
 unfold fh at hg;split at hg
 .rename_i l n e he;have ht:=cE he;rw[Gf] at hg;obtain⟨s,hs,hg⟩:=hg;split at hg
  .rename_i hb;obtain⟨h0,hn,hl⟩:=hb;simp only[Fe] at hg;subst hg;obtain⟨a,cap,us,rfl,d,hm,ha,h1,h⟩:=hx.sl_cells;obtain⟨b,c,rfl,hS,hlt,_⟩:=ha 0 aa;refine⟨.pointer (some ⟨b,c+i.toNat*s,none⟩),?_,.imm _ _ (.ptr l _ b c us hS hlt (λi hi=>?_) h1 h)⟩
   .simp[Instr.indexAt,asIntOf,Gc ht,h0,hn,dG hs,iS]
   .obtain⟨b',f,e',_,_,hc⟩:=ha i hi;cases e';exact hc
  .cases hg
 .rename_i j o n e he;have ht:=cE he;rw[Gf] at hg;obtain⟨s,hs,hg⟩:=hg;split at hg
  .rename_i hb;obtain⟨h0,hn⟩:=hb;simp only[Fe] at hg;subst hg;rcases hx.rsl_form with⟨_,_,rfl⟩|⟨b,C,m,cap,hbt,rfl,d,hm,ho,q⟩
   .omega
   .have:m=o:=ho aa;subst this;refine⟨.pointer (some ⟨b,m+i.toNat*s,none⟩),?_,.ref _ _ b C hbt⟩;simp[Instr.indexAt,asIntOf,Gc ht,h0,hn,dG hs,iS]
  .cases hg
 .rename_i x n e p he;have ht:=xM he;rw[Gf] at hg;obtain⟨s,hs,hg⟩:=hg;split at hg
  .rename_i hb;obtain⟨h0,hn⟩:=hb;obtain⟨a,rfl,hr⟩:=Ec hx hg;refine⟨_,?_,hr⟩;simp[Instr.indexAt,Instr.sureAddr,asIntOf,Gc ht,h0,hn,dG hs]
  .cases hg
 .cases hg
theorem jp{P:Bu}(x:Value)(n:Int)(y:Nat)(a:BoundsCode)(hx:∃k,x= .int k n)(h0:0<=n)(hn:n<=y)(w:World):(Instr.sliceBound x y a).run P w= .ok n.toNat w:=by obtain⟨k,rfl⟩:=hx;simp[Instr.sliceBound,asIntOf,h0,hn]
theorem sD{t e:Bj}(ht:P.underlying t=some (.slice e))(hs:bw P e=some s)(a:Option Addr)(n cap:Nat)(lo hi:Option Value)(L H:Nat)
  (hL:(lo=none/\L=0)\/∃v k,lo=some v/\v= .int k (L:Int)) (hH:(hi=none/\H=n)\/∃v k,hi=some v/\v= .int k (H:Int)) (h1:L<=H) (h2:H<=cap) (w:World):
  (Instr.sliceAt t (.slice a n cap) lo hi none).run P w= .ok (.slice (if cap=L then a else a.map (·.add (L*s))) (H-L) (cap-L)) w:=by
 have e1:(Instr.sliceBounds true n cap lo hi none).run P w= .ok (L,H,cap) w:=by
  unfold Instr.sliceBounds;rcases hH with⟨rfl,rfl⟩|⟨v,k,rfl,rfl⟩<;>rcases hL with⟨rfl,rfl⟩|⟨v',k',rfl,rfl⟩
  .simp
  .simp[jp (P:=P) (.int k' (L:Int)) (L:Int) H .sliceB ⟨k',rfl⟩ aa aa]
  .simp[jp (P:=P) (.int k (H:Int)) (H:Int) cap .sliceAcap ⟨k,rfl⟩ aa aa]
  .simp[jp (P:=P) (.int k (H:Int)) (H:Int) cap .sliceAcap ⟨k,rfl⟩ aa aa,jp (P:=P) (.int k' (L:Int)) (L:Int) H .sliceB ⟨k',rfl⟩ aa aa]
 unfold Instr.sliceAt
 simp only[E0,Gc ht,E1]
 unfold Instr.slice
 simp only[E0,Gc ht,E1,e1,dG hs]
 rfl
theorem PZ{S:Fu}{l l':Bk}{n N L s:Nat}{a:Option Addr}{cap:Nat}{us:Nat->Value}(hn:N<=cap-L)(d:L<=cap)(hm:cap<=maxLen)(ha:∀i,i<l.length->∃b c,a=some ⟨b,c,none⟩/\¬S b/\b<w.heap.size/\w.cell? ⟨b,c+i,none⟩=some (us i))
  (h1:∀i,i<l.length->(us i).oneCell'=true) (h:∀(i:Nat) (g:G),l[i]?=some g->IV S w g (us i)) (hl:∀(i:Nat) (g:G),l'[i]?=some g->l[L*s+i]?=some g) (h0:cap=L->l'=[]):
  IV S w (.sl l' N) (.slice (if cap=L then a else a.map (·.add (L*s))) N (cap-L)):=by
 by_cases hc:cap=L
 .rw[h0 hc,BB hc]
  exact .sl [] N _ _ us hn aa aC aC aC
 .rw[BX hc]
  have hlt:∀i,i<l'.length->L*s+i<l.length:=λi hi=>(cr (hl i _ (EA hi))).1
  refine .sl l' N _ _ (λi=>us (L*s+i)) hn aa (λi hi=>?_) (by grind) (by grind)
  grind [iS]
def VF(β:Bm)(S:Fu)(w:World)(x:JQ)(v:Option Value):Prop:=(x=none/\v=none)\/∃n u k,x=some n/\v=some u/\u= .int k n
theorem N9{β:Bm}{S:Fu}{w:World}{x:Option G}{v:Option Value}{b:JQ}(h:∀g,x=some g->∃u,v=some u/\RV β S w g u)(hn:x=none->v=none)(hb:JX x=some b):VF β S w b v:=by
 cases x with
 |none=>simp[JX] at hb;exact .inl (by grind)
 |some g=>simp only[JX,DQ] at hb;obtain⟨n,hg,rfl⟩:=hb;obtain⟨u,hu,hr⟩:=h g rfl;obtain⟨k,hk⟩:=ol hr hg;exact .inr (by grind)
theorem VF.lo{β:Bm}{S:Fu}{w:World}{x:JQ}{v:Option Value}(h:VF β S w x v)(L:Nat)(h0:x=none->L=0)(h1:∀n,x=some n->(L:Int)=n):(v=none/\L=0)\/∃u k,v=some u/\u= .int k (L:Int):=by
 rcases h with⟨rfl,rfl⟩|⟨n,u,k,rfl,rfl,rfl⟩
 all_goals simp_all
theorem VF.hi{β:Bm}{S:Fu}{w:World}{x:JQ}{v:Option Value}(h:VF β S w x v)(H n:Nat)(h0:x=none->H=n)(h1:∀m,x=some m->(H:Int)=m):(v=none/\H=n)\/∃u k,v=some u/\u= .int k (H:Int):=by
 rcases h with⟨rfl,rfl⟩|⟨m,u,k,rfl,rfl,rfl⟩
 all_goals simp_all
theorem J3{β:Bm}{S:Fu}{t:Bj}{x g:G}{lo hi:JQ}{vl vh:Option Value}(hx:RV β S w x v)(bl:VF β S w lo vl)(d:VF β S w hi vh)(hg:ig P t x lo hi=some g):
  ∃u,(Instr.sliceAt t v vl vh none).run P w= .ok u w/\RV β S w g u:=by
 unfold ig at hg
 split at hg
 .rename_i l n e he
  have ht:=cE he
  rw[Gf] at hg
  obtain⟨s,hs,hg⟩:=hg
  obtain⟨a,cap,us,rfl,hn,hm,ha,h1,h⟩:=hx.sl_cells
  have key:∀(L H:Nat) (f:Bk),(lo=none->L=0)->(∀n,lo=some n->(L:Int)=n)->(hi=none->H=n)->(∀m,hi=some m->(H:Int)=m)->L<=H->H<=n->(∀(i:Nat) (g:G),f[i]?=some g->l[L*s+i]?=some g)->(H=L->f=[])->
    ∃u,(Instr.sliceAt t (.slice a n cap) vl vh none).run P w= .ok u w/\RV β S w (.sl f (H-L)) u:=by
   intro L H f a1 a2 a3 a4 a5 a6 j p
   refine⟨_,sD ht hs a n cap vl vh L H (bl.lo L a1 a2) (d.hi H n a3 a4) a5 aa w,.imm _ _ (PZ (n:=n) aa aa hm ha h1 h j (by grind))⟩
  split at hg
  .simp only[Fe] at hg
   subst hg
   refine⟨_,sD ht hs a n cap vl vh 0 n (bl.lo 0 (λ_=>rfl) aC) (d.hi n n (λ_=>rfl) aC) aa hn w,?_⟩
   have hz:(if cap=0 then a else a.map (·.add (0*s)))=a:=by
    split
    .rfl
    .cases a<;>simp[BK]
   grind
  .rename_i h'
   split at hg
   .rename_i hb
    simp only[Fe] at hg
    subst hg
    obtain⟨u,hu,hr⟩:=key 0 h'.toNat (l.take (h'.toNat*s)) (λ_=>rfl) aC aC cq aa aa (by grind) (λe=>by rw[e];simp)
    grind
   .cases hg
  .rename_i a'
   split at hg
   .rename_i hb
    simp only[Fe] at hg
    subst hg
    obtain⟨u,hu,hr⟩:=key a'.toNat n (l.drop (a'.toNat*s)) aC cq (λ_=>rfl) aC aa aa (by grind) (by grind [List.drop_eq_nil_iff])
    grind
   .cases hg
  .rename_i a' h'
   split at hg
   .rename_i hb
    simp only[Fe] at hg
    subst hg
    obtain⟨u,hu,hr⟩:=key a'.toNat h'.toNat ((l.take (h'.toNat*s)).drop (a'.toNat*s)) aC cq aC cq aa aa (by grind) (by grind)
    grind
   .cases hg
 .rename_i i o n e he
  have ht:=cE he
  rw[Gf] at hg
  obtain⟨s,hs,hg⟩:=hg
  split at hg
  .cases hg
  rename_i c
  have key:∀(L H:Nat),(lo=none->L=0)->(∀n,lo=some n->(L:Int)=n)->(hi=none->H=n)->(∀m,hi=some m->(H:Int)=m)->L<=H->H<=n->
    ∃u,(Instr.sliceAt t v vl vh none).run P w= .ok u w/\RV β S w (.rsl i (o+L*s) (H-L)) u:=by
   intro L H a1 a2 a3 a4 a5 a6
   rcases hx.rsl_form with⟨hb,rfl,rfl⟩|⟨b,C,k,cap,hb,rfl,hn,hm,ho,q⟩
   .obtain rfl:H=0:=aa
    obtain rfl:L=0:=aa
    refine⟨_,sD ht hs none 0 0 vl vh 0 0 (bl.lo 0 a1 a2) (d.hi 0 0 (λ_=>rfl) a4) aa aa w,?_⟩
    grind
   .refine⟨_,sD ht hs _ n cap vl vh L H (bl.lo L a1 a2) (d.hi H n a3 a4) a5 aa w,?_⟩
    by_cases hc:cap=L
    .rw[BB hc]
     refine .rsl i _ _ b C k _ hb aa aa (by grind) (λhz=>?_)
     have:L=0:=by
      rcases Nat.eq_zero_or_pos L with h|h
      .exact h
      .have:=Nat.mul_pos h (Nat.pos_of_ne_zero c);omega
     grind
    .rw[BX hc]
     simp only[Option.map_some,iS]
     refine .rsl i _ _ b C _ _ hb aa aa (by grind) (λhz=>?_)
     have:L=0:=by
      rcases Nat.eq_zero_or_pos L with h|h
      .exact h
      .have:=Nat.mul_pos h (Nat.pos_of_ne_zero c);omega
     grind
  split at hg
  .simp_all
  .rename_i h'
   split at hg
   .rename_i hb
    simp only[Fe] at hg
    subst hg
    obtain⟨u,hu,hr⟩:=key 0 h'.toNat (λ_=>rfl) aC aC cq aa aa
    grind
   .cases hg
  .rename_i a'
   split at hg
   .rename_i hb
    simp only[Fe] at hg
    subst hg
    exact key a'.toNat n aC cq (λ_=>rfl) aC aa aa
   .cases hg
  .rename_i a' h'
   split at hg
   .rename_i hb
    simp only[Fe] at hg
    subst hg
    exact key a'.toNat h'.toNat aC cq aC cq aa aa
   .cases hg
 .cases hg
theorem RV.clo_form{β:Bm}{S:Fu}{w:World}{fn:Fn}{a b:Bk}{v:Value}(h:RV β S w (.clo fn a b) v):∃fs cs:Array Value,v= .func fn fs cs/\fs.size=a.length/\cs.size=b.length/\(∀(i:Nat) (g:G) (u:Value),a[i]?=some g->fs[i]?=some u->RV β S w g u)/\(∀(i:Nat) (g:G) (u:Value),b[i]?=some g->cs[i]?=some u->RV β S w g u):=by
 cases h with
 |imm _ _ h=>cases h<;>grind [RV]
 |clo _ _ _ fs cs hf hc h h'=>grind
theorem RV.tup_form{β:Bm}{S:Fu}{w:World}{l:Bk}{v:Value}(h:RV β S w (.tup l) v):∃us:Array Value,v= .tuple us/\us.size=l.length/\(∀(i:Nat) (g:G) (u:Value),l[i]?=some g->us[i]?=some u->RV β S w g u):=by
 cases h with
 |imm _ _ h=>cases h<;>grind [RV]
 |tup _ us hl h=>grind
theorem RV.agg_form{β:Bm}{S:Fu}{w:World}{l:Bk}{v:Value}(h:RV β S w (.agg l) v):∃us:Array Value,v= .agg us/\us.size=l.length/\(∀(i:Nat) (u:Value),us[i]?=some u->u.oneCell'=true)/\(∀(i:Nat) (g:G) (u:Value),l[i]?=some g->us[i]?=some u->RV β S w g u):=by
 cases h with
 |imm _ _ h=>cases h<;>grind [RV]
 |agg _ us hl h1 h=>grind
theorem P0{β:Bm}{S:Fu}{x:G}{n:Int}(hx:RV β S w x v)(hg:HK x=some n){t e:Bj}(ht:P.underlying t=some (.slice e))(ty:Bj):(Builtin.len_ #[t] ty #[v]).run P w= .ok (.int .i64 n) w:=by
 cases x with
 |rsr i m=>simp[HK] at hg;subst hg;obtain⟨b,C,_,rfl,_⟩:=hx.rsr_form;simp[Builtin.len_,goInt,Gc ht]
 |sl l m=>simp[HK] at hg;subst hg;obtain⟨a,cap,us,rfl,_⟩:=hx.sl_cells;simp[Builtin.len_,goInt,Gc ht]
 |rsl i o m=>simp[HK] at hg;subst hg;rcases hx.rsl_form with⟨_,rfl,rfl⟩|⟨b,C,d,cap,_,rfl,_⟩<;>simp[Builtin.len_,goInt,Gc ht]
 |lit u=>
  cases u with
  |slice a k c=>simp[HK] at hg;subst hg;rw[hx.lit_eq];simp[Builtin.len_,goInt,Gc ht]
  |_=>simp[HK] at hg
 |_=>simp[HK] at hg
theorem P1{x:G}{b:Bool}(h:Ea x=some b):x= .lit (.bool b):=by
 cases x with
 |lit v=>cases v<;>grind [Ea]
 |_=>simp[Ea] at h
theorem NE{cx:Cx}{st:St}{β:Bm}(h:Bx P cx st a w β){g:G}(he:aX P (aB st) st.σ o=some g):∃v,(execOp a.eval o).run P w= .ok (.value v) w/\RV β (Av cx.S0 β st.σ) w g v:=by
 obtain⟨D,op,A,pos,z,guard⟩:=o;cases op;case move x=>simp only[aX,Fe] at he;subst he;exact⟨_,by simp[execOp],h.ev x⟩
 case assign x=>simp only[aX,Fe] at he;subst he;exact⟨_,by simp[execOp],h.ev x⟩
 case pick c x y=>
  simp only[aX,DQ] at he
  obtain⟨t,ht,rfl⟩:=he
  have hc:=h.ev c
  rw[P1 ht] at hc
  refine⟨if t then a.eval x else a.eval y,by simp[execOp,hc.lit_eq,asBool],?_⟩
  grind [Bx.ev]
 case load t x=>
  obtain⟨u,hu,hr⟩:=Eb h (h.ev x) he
  exact⟨u,by simp[execOp,hu],hr⟩
 case nilCheck x=>
  have hx:=h.ev x
  simp only[aX] at he
  split at he
  .rename_i i o hg
   cases he
   rw[hg] at hx
   obtain⟨b,C,_,hv⟩:=hx.ref_addr
   exact⟨_,by simp only[execOp,hv];rfl,by grind⟩
  .rename_i l o hg
   cases he
   rw[hg] at hx
   obtain⟨b,q,us,hv,_⟩:=hx.ptr_cells
   exact⟨_,by simp only[execOp,hv];rfl,by grind⟩
  .rename_i f F H hg
   cases he
   rw[hg] at hx
   obtain⟨fs,cs,hv,_⟩:=hx.clo_form
   exact⟨_,by simp only[execOp,hv];rfl,by grind⟩
  .cases he
 case makeFunc fn f c=>
  simp only[aX,Fe] at he
  subst he
  refine⟨.func fn (f.map a.eval) (c.map a.eval),by simp[execOp,Instr.makeFunc],.clo _ _ _ _ _ aC aC (λi g u hg hu=>?_) (λi g u hg hu=>?_)⟩<;>
   (grind [Bx.ev])
 case extract x k=>
  have hx:=h.ev x
  simp only[aX] at he
  split at he
  .rename_i l hg
   rw[hg] at hx
   obtain⟨us,hv,hl,hr⟩:=hx.tup_form
   have hk:=(cr he).1
   have hu:us[k]?=some (us[k]'aa):=by grind
   exact⟨us[k]'aa,by simp[execOp,hv,Instr.extract,hu],hr _ _ _ he hu⟩
  .cases he
 case makeInterface t x=>
  simp only[aX,Gf] at he
  obtain⟨d,hd,he⟩:=he
  refine⟨.iface t (a.eval x),?_,?_⟩
  .simp only[execOp,Instr.makeInterface,E0,Gc hd,E1]
   cases d<;>simp at he⊢
  grind [RV,Bx.ev]
 case fieldAddr t x k=>
  simp only[aX,Gf] at he
  obtain⟨⟨q,E⟩,hf,n,hn,he⟩:=he
  split at he
  .cases he
  rename_i hn0
  obtain⟨fs,f,hd,j,rfl,rfl⟩:=yO hf
  obtain⟨ad,hv,hr⟩:=Ec (h.ev x) he
  refine⟨_,?_,hr⟩
  simp[execOp,Instr.fieldAt,Gc hd,j,hv,Instr.sureAddr,fieldPlace,dG hn,hn0]
 case field t x k=>
  have hx:=h.ev x
  simp only[aX] at he
  split at he
  .rename_i l hg
   rw[hg] at hx
   rw[Gf] at he
   obtain⟨⟨q,E⟩,hf,he⟩:=he
   obtain⟨fs,f,hd,j,rfl,rfl⟩:=yO hf
   obtain⟨us,hv,hl,h1,hr⟩:=hx.agg_form
   obtain⟨u,hu,m⟩:=BM hl h1 hr he
   exact⟨u,by simp[execOp,Instr.field,Gc hd,j,hv,asAgg,hu],m⟩
  .cases he
 case indexAddr t x i=>
  simp only[aX,Gf] at he
  obtain⟨k,hk,he⟩:=he
  obtain⟨B,hi⟩:=ol (h.ev i) hk
  obtain⟨u,hu,hr⟩:=AbV (k:=B) (h.ev x) he
  exact⟨u,by simp[execOp,hi,hu],hr⟩
 case index t x i=>
  have hx:=h.ev x
  simp only[aX] at he
  split at he
  .rename_i l hg
   rw[hg] at hx
   simp only[Gf] at he
   obtain⟨⟨n,e⟩,ha,k,hk,s,hs,he⟩:=he
   have ht:=xM ha
   split at he
   .rename_i hb
    obtain⟨us,hv,hl,h1,hr⟩:=hx.agg_form
    obtain⟨B,hi⟩:=ol (h.ev i) hk
    obtain⟨u,hu,m⟩:=BM hl h1 hr he
    exact⟨u,by simp[execOp,Instr.index,asIntOf,hi,Gc ht,hv,hb.1,hb.2,dG hs,hu],m⟩
   .cases he
  .exact fZ h aC he
 case slice t x lo hi mx=>
  have hx:=h.ev x
  cases mx with
  |some _=>simp[aX] at he
  |none=>
   simp only[aX] at he
   split at he
   .exact fZ h aC he
   .simp only[Gf] at he
    obtain⟨al,hal,bl,hbl,he⟩:=he
    have b1:=N9 (β:=β) (S:=Av cx.S0 β st.σ) (w:=w) (x:=lo.map (aB st)) (v:=lo.map a.eval) (λg hg=>by
     cases lo with
     |none=>cases hg
     |some y=>simp at hg;subst hg;exact⟨_,rfl,h.ev y⟩) (by simp_all) hal
    have b2:=N9 (β:=β) (S:=Av cx.S0 β st.σ) (w:=w) (x:=hi.map (aB st)) (v:=hi.map a.eval) (λg hg=>by
     cases hi with
     |none=>cases hg
     |some y=>simp at hg;subst hg;exact⟨_,rfl,h.ev y⟩) (by simp_all) hbl
    obtain⟨u,hu,hr⟩:=J3 hx b1 b2 he
    exact⟨u,by simp[execOp,hu],hr⟩
 case call c=>
  obtain⟨callee,args,ats⟩:=c
  cases callee with
  |builtin b=>
   cases b
   case len=>
    simp only[aX] at he
    split at he
    .rename_i x t hx hat
     split at he
     .rename_i p
      obtain⟨e,r⟩:=WE.1 p
      simp only[DQ] at he
      obtain⟨n,hn,rfl⟩:=he
      have hargs:args= #[x]:=by grind
      have hats:ats= #[t]:=by grind
      subst hargs;subst hats
      refine⟨.int .i64 n,?_,.imm _ _ (.lit _)⟩
      simp[execOp,resolve,invoke,builtin,P0 (h.ev x) hn (cE r)]
     .exact fZ h aC he
    .cases he
   case max=>exact fZ h aC he
   case min=>exact fZ h aC he
   all_goals simp[aX] at he
  |_=>simp[aX] at he
 case binOp=>exact fZ h aC he
 case unOp=>exact fZ h aC he
 case convert=>exact fZ h aC he
 all_goals simp[aX] at he
theorem fM{o:Oper}{st:St}{g:G}(hd:LV o st.n)(he:aX P (aB st) st.σ o=some g):GS P o st (st.put o.dst g):=by intro cx a w K R ⟨β,h⟩ b;obtain⟨v,hv,hr⟩:=NE h he;refine h.loose.oper (by grind [aX]) ?_;unfold Oper.wp;rw[hv];exact b _ _ ⟨β,h.put o.dst hd hr⟩
def dH:G->Option Bk
 | .agg l=>some l
 | .lit v=>if v.oneCell' then some [.lit v]else none
 | .tup _=>none
 | .junk=>none
 |g=>some [g]
theorem RV.cells{β:Bm}{S:Fu}{w:World}{g:G}{v:Value}{l:Bk}(h:RV β S w g v)(hg:dH g=some l):v.cells.size=l.length/\(∀(i:Nat) (u:Value),v.cells[i]?=some u->u.oneCell'=true)/\∀(i:Nat) (g:G) (u:Value),l[i]?=some g->v.cells[i]?=some u->RV β S w g u:=by
 have one:∀{g:G} {v:Value},RV β S w g v->v.oneCell'=true->v.cells.size=[g].length/\(∀(i:Nat) (u:Value),v.cells[i]?=some u->u.oneCell'=true)/\∀(i:Nat) (g':G) (u:Value),[g][i]?=some g'->v.cells[i]?=some u->RV β S w g' u:=by
  intro g v h h1;have hc:v.cells= #[v]:=by cases v<;>first|rfl|grind [Value.oneCell']
  grind
 cases g with
 |agg l'=>simp[dH] at hg;subst hg;obtain⟨us,rfl,hl,h1,hr⟩:=h.agg_form;exact⟨hl,h1,hr⟩
 |lit u=>grind [dH,lit_eq]
 |tup _=>simp[dH] at hg
 |junk=>simp[dH] at hg
 |ptr l' o=>simp[dH] at hg;subst hg;obtain⟨b,d,us,rfl,_⟩:=h.ptr_cells;exact one h rfl
 |sl l' n=>simp[dH] at hg;subst hg;obtain⟨a,cap,us,rfl,_⟩:=h.sl_cells;exact one h rfl
 |clo fn f c=>simp[dH] at hg;subst hg;obtain⟨fs,cs,rfl,_⟩:=h.clo_form;exact one h rfl
 |ifc t g=>simp[dH] at hg;subst hg;cases h with
  |imm _ _ h'=>cases h' with
   |ifc _ _ u h''=>exact one (by grind [RV]) rfl
  |ifc _ _ u h'=>exact one (.ifc _ _ u h') rfl
 |ref i o=>simp[dH] at hg;subst hg;obtain⟨b,C,_,rfl⟩:=h.ref_addr;exact one h rfl
 |mref i=>simp[dH] at hg;subst hg;obtain⟨b,C,_,rfl⟩:=h.mref_form;exact one h rfl
 |mp ks vs ns c=>simp[dH] at hg;subst hg;obtain⟨b,ents,rfl,_⟩:=h.mp_form;exact one h rfl
 |rsr i n=>simp[dH] at hg;subst hg;obtain⟨b,C,_,rfl,_⟩:=h.rsr_form;exact one h rfl
 |yld i=>simp[dH] at hg;subst hg;obtain⟨b,C,_,rfl⟩:=h.yld_form;exact one h rfl
 |rsl i o n=>simp[dH] at hg;subst hg;rcases h.rsl_form with⟨_,rfl,_⟩|⟨b,C,e,cap,_,rfl,_⟩<;>exact one h rfl
theorem Bx.regrow{cx:Cx}{st:St}{a:Act}{w w':World}{β:Bm}(h:Bx P cx st a w β){i:Nat}{row:Fq}(hrow:∀b,row=some b->∃ob C,ag st.σ i=some ob/\β i=some (some (b,C)))(hk:A3 (λx=>row=some x) w w')
  {b C:Nat} {cur:Array Value} {ob:Ob} (hb:row=some b\/w.heap.size<=b) (hcur:w'.heap[b]?=some (.cells cur ob.t (0,0))) (hs:cur.size=C*NC P ob.t) (n:C<=maxLen) (hl:ob.l.length<=cur.size)
  (f:ob.x=none) (hr:∀(j:Nat) (g:G),ob.l[j]?=some g->∃u,cur[j]?=some u/\u.oneCell'=true/\RV β (Av cx.S0 β st.σ) w g u) {k:Nat} (hkc:st.c<=k):
  Bx P cx {st with σ:=(k,some ob)::(i,none)::st.σ,c:=k+1} a w' (λj=>if j=k then some (some (b,C))else β j):=by
 have hβ:∀i x,β i=some x->(λj=>if j=k then some (some (b,C))else β j) i=some x:=by grind
 have hSz:∀b',cx.S0 b'->b'<w.heap.size:=by grind
 have hg:∀(j:Nat) o b' D,ag ((k,some ob)::(i,none)::st.σ) j=some o->(if j=k then some (some (b,C))else β j)=some (some (b',D))->(j=k/\o=ob/\b'=b)\/(j≠k/\j≠i/\ag st.σ j=some o/\β j=some (some (b',D))/\b'≠b):=by
  intro j o b' D hj d;rw[A9] at hj;by_cases e:j=k
  .grind
  .rw[BX e] at d;rw[BX (by grind),A9] at hj;split at hj
   .cases hj
   .rename_i hne;refine .inr ⟨e,λx=>hne x.symm,hj,d,λx=>?_⟩;subst x;rcases hb with hb|hb
    .grind
    grind [lt]
 have hS:∀b',b'<w.heap.size->Av cx.S0 (λj=>if j=k then some (some (b,C))else β j) ((k,some ob)::(i,none)::st.σ) b'->Av cx.S0 β st.σ b':=by grind
 have hk':A3 (Av cx.S0 β st.σ) w w':=by grind [A3.mono]
 exact{
  size:=h.size
  defers:=by grind [D7.keep,not_marks]
  loose:=h.loose
  rnd:=h.rnd
  fr:=by grind [RV.step]
  ob:=λj o ho=>by
   have ho':ag ((k,some ob)::(i,none)::st.σ) j=some o:=ho;rw[A9] at ho';by_cases e:k=j
   .subst e;rw[BB rfl] at ho';cases ho';refine .inr (.inr ⟨b,C,cur,f,aC,hcur,hs,n,hl,λj g hg=>?_⟩);obtain⟨u,hu,h1,m⟩:=hr j g hg;exact⟨u,hu,h1,m.step hβ hS hk'⟩
   .rw[BX e,A9] at ho';split at ho'
    .cases ho'
    .rename_i hne;exact(h.ob j o ho').step hβ hS hk' (λb' D hb'=>hk.block b' (h.lt ho' hb') (by grind))
  inj:=by grind
  own:=by grind
  sep:=by grind
  fresh:=by grind
  glob:=by grind [IV.step]
  keep:=by grind [A3.then]
  old:=h.old
  pin:=by grind}
theorem Bx.mat{cx:Cx}{st:St}{a:Act}{w w':World}{β:Bm}(h:Bx P cx st a w β){i:Nat}{row:Fq}(hrow:∀b,row=some b->∃ob C,ag st.σ i=some ob/\β i=some (some (b,C)))(hk:A3 (λx=>row=some x) w w')
  {b C:Nat} {cur:Array Value} {ob:Ob} (hb:row=some b\/w.heap.size<=b) (hcur:w'.heap[b]?=some (.cells cur ob.t (0,0))) (hs:cur.size=C*NC P ob.t) (n:C<=maxLen) (hl:ob.l.length<=cur.size)
  (d:ob.x=none) (hr:∀(j:Nat) (g:G),ob.l[j]?=some g->∃u,cur[j]?=some u/\u.oneCell'=true/\RV β (Av cx.S0 β st.σ) w g u) {k:Nat} {ob0:Ob} (hr0:ag st.σ k=some ob0) (f:ob0.x=some .resv) (q:st.p<=k):
  Bx P cx {st with σ:=(k,some ob)::(i,none)::st.σ} a w' (λj=>if j=k then some (some (b,C))else β j):=by
 have hk0:β k=some none:=by
  rcases h.ob k ob0 hr0 with⟨h1,_⟩|⟨b,x,o,h1,_,_,_,h5⟩|⟨b,C,cur,h1,_⟩
  .exact h1
  .rw[f] at h1;cases h1;exact h5.elim
  grind
 have hβ:∀i x,β i=some (some x)->(λj=>if j=k then some (some (b,C))else β j) i=some (some x):=by grind
 have hn:∀i,β i≠none->(λj=>if j=k then some (some (b,C))else β j) i≠none:=by grind
 have hSz:∀b',cx.S0 b'->b'<w.heap.size:=by grind
 have hg:∀(j:Nat) o b' D,ag ((k,some ob)::(i,none)::st.σ) j=some o->(if j=k then some (some (b,C))else β j)=some (some (b',D))->(j=k/\o=ob/\b'=b)\/(j≠k/\j≠i/\ag st.σ j=some o/\β j=some (some (b',D))/\b'≠b):=by
  intro j o b' D hj c;rw[A9] at hj;by_cases e:j=k
  .grind
  .rw[BX e] at c;rw[BX (by grind),A9] at hj;split at hj
   .cases hj
   .rename_i hne;refine .inr ⟨e,λx=>hne x.symm,hj,c,λx=>?_⟩;subst x;rcases hb with hb|hb
    .grind
    grind [lt]
 have hS:∀b',b'<w.heap.size->Av cx.S0 (λj=>if j=k then some (some (b,C))else β j) ((k,some ob)::(i,none)::st.σ) b'->Av cx.S0 β st.σ b':=by rintro b' hlt (hx|⟨j,o,D,hj,hx⟩);all_goals grind
 have hk':A3 (Av cx.S0 β st.σ) w w':=by grind [A3.mono]
 exact{
  size:=h.size
  defers:=by grind [D7.keep,not_marks]
  loose:=h.loose
  rnd:=h.rnd
  fr:=by grind [RV.stepW,A3.cells]
  ob:=λj o ho=>by
   have ho':ag ((k,some ob)::(i,none)::st.σ) j=some o:=ho;rw[A9] at ho';by_cases e:k=j
   .subst e;rw[BB rfl] at ho';cases ho';refine .inr (.inr ⟨b,C,cur,d,aC,hcur,hs,n,hl,λj g hg=>?_⟩);obtain⟨u,hu,h1,m⟩:=hr j g hg;exact⟨u,hu,h1,m.stepW hβ hn hS hk'.cells⟩
   .rw[BX e,A9] at ho';split at ho'
    .cases ho'
    .rename_i hne;exact(h.ob j o ho').stepW hβ hn (by grind) hS hk'.cells (λb' D hb'=>hk.block b' (h.lt ho' hb') (by grind))
  inj:=by grind
  own:=by grind
  sep:=by grind
  fresh:=by grind
  glob:=by grind [IV.step]
  keep:=by grind [A3.then]
  old:=h.old
  pin:=by grind}
theorem Bx.matV{cx:Cx}{st:St}{a:Act}{w:World}{β:Bm}(h:Bx P cx st a w β)(t:Bj){k:Nat}{ob0:Ob}(hr0:ag st.σ k=some ob0)(c:ob0.x=some .resv):Bx P cx {st with σ:=(k,some ⟨t,[],none⟩)::st.σ} a w β:=by
 have hk0:β k=some none:=by
  rcases h.ob k ob0 hr0 with⟨h1,_⟩|⟨b,x,o,h1,_,_,_,h5⟩|⟨b,C,cur,h1,_⟩
  .exact h1
  .rw[c] at h1;cases h1;exact h5.elim
  grind
 have hg:∀i o b C,ag ((k,some ⟨t,[],none⟩)::st.σ) i=some o->β i=some (some (b,C))->ag st.σ i=some o:=by grind
 have hS:∀b',b'<w.heap.size->Av cx.S0 β ((k,some ⟨t,[],none⟩)::st.σ) b'->Av cx.S0 β st.σ b':=by grind
 exact{h with
  fr:=λi=>(h.fr i).step (by grind) hS (A3.refl _ _)
  ob:=λi o ho=>by
   have ho':ag ((k,some ⟨t,[],none⟩)::st.σ) i=some o:=ho;rw[A9] at ho';split at ho'
   .subst_vars;cases ho';exact .inl (by grind)
   .exact(h.ob i o ho').step (by grind) hS (A3.refl _ _) (by grind)
  inj:=by grind
  glob:=by grind [IV.sub]
  own:=by grind
  sep:=by grind}
def iT(st:St):Fq->Nat
 |none=>st.c
 |some k=>k
def ZS(st:St):Fq->Nat
 |none=>st.c+1
 |some _=>st.c
def zB(st:St):Fq->Prop
 |none=>True
 |some k=>st.p<=k/\∃ob0,ag st.σ k=some ob0/\ob0.x=some .resv
theorem Bx.regrowP{cx:Cx}{st:St}{a:Act}{w w':World}{β:Bm}(h:Bx P cx st a w β){i:Nat}{row:Fq}(hrow:∀b,row=some b->∃ob C,ag st.σ i=some ob/\β i=some (some (b,C)))(hk:A3 (λx=>row=some x) w w')
  {b C:Nat} {cur:Array Value} {ob:Ob} (hb:row=some b\/w.heap.size<=b) (hcur:w'.heap[b]?=some (.cells cur ob.t (0,0))) (hs:cur.size=C*NC P ob.t) (e:C<=maxLen) (hl:ob.l.length<=cur.size)
  (d:ob.x=none) (hr:∀(j:Nat) (g:G),ob.l[j]?=some g->∃u,cur[j]?=some u/\u.oneCell'=true/\RV β (Av cx.S0 β st.σ) w g u) {pl:Fq} (hpl:zB st pl):
  Bx P cx {st with σ:=(iT st pl,some ob)::(i,none)::st.σ,c:=ZS st pl} a w' (λj=>if j=iT st pl then some (some (b,C))else β j):=by
 cases pl with
 |none=>exact h.regrow hrow hk hb hcur hs e hl d hr (Dk _)
 |some k=>
  obtain⟨h1,ob0,h2,h3⟩:=hpl
  exact h.mat hrow hk hb hcur hs e hl d hr h2 h3 h1
def St.new(st:St)(d:Option Tmp)(t:Bj)(l:Bk)(g:G):St:={st with σ:=(st.c,some ⟨t,l,none⟩)::st.σ,c:=st.c+1}.put d g
def St.newP(st:St)(pl:Fq)(d:Option Tmp)(t:Bj)(l:Bk)(g:G):St:=match pl with
 |none=>st.new d t l g
 |some k=>{st with σ:=(k,some ⟨t,l,none⟩)::(k,none)::st.σ}.put d g
theorem Bx.newP{cx:Cx}{st:St}{a:Act}{w:World}{β:Bm}(h:Bx P cx st a w β){t:Bj}{cur:Array Value}{l:Bk}{C:Nat}(hs:cur.size=C*NC P t)(e:C<=maxLen)(hl:l.length=cur.size)(h1:∀(i:Nat) (u:Value),cur[i]?=some u->u.oneCell'=true)
  (hr:∀(i:Nat) (g:G) (u:Value),l[i]?=some g->cur[i]?=some u->RV β (Av cx.S0 β st.σ) w g u) (d:Option Tmp) (hd:∀x,d=some x->x<st.n) {g:G} {v:Value} {pl:Fq} (hpl:zB st pl) (hv:∀f:Bm,f (iT st pl)=some (some (w.heap.size,C))->∀S w',RV f S w' g v):
  mh P cx (st.newP pl d t l g) (a.put d v) (w.alloc (.cells cur t)):=by
 have hrr:∀(j:Nat) (g:G),l[j]?=some g->∃u,cur[j]?=some u/\u.oneCell'=true/\RV β (Av cx.S0 β st.σ) w g u:=λj g hg=>by
  have hlt:=(cr hg).1;have hu:cur[j]?=some (cur[j]'aa):=by grind
  grind
 cases pl with
 |none=>
  have:=h.alloc (w':=w.alloc (.cells cur t)) ((A3.refl _ _).alloc _) (b:=w.heap.size) (C:=C) (cur:=cur) (ob:=⟨t,l,none⟩) (Dk _) (heap_alloc_new w _) hs e (by simp[hl]) rfl hrr (Dk st.c)
  exact⟨_,this.put d hd (by grind [iT])⟩
 |some k=>
  have:=h.regrowP (i:=k) (row:=none) (w':=w.alloc (.cells cur t)) (by grind) ((A3.refl _ _).alloc _) (b:=w.heap.size) (C:=C) (cur:=cur) (ob:=⟨t,l,none⟩) (by grind) (heap_alloc_new w _) hs e (by simp[hl]) rfl hrr hpl
  exact⟨_,this.put d hd (by grind)⟩
theorem L5{pl:Fq}{st:St}{t:Bj}{x:DC}{l:Bk}(ho:o.op= .box t x)(hd:LV o st.n)(hg:dH (aB st x)=some l)(hl:l.length=NC P t)(hpl:zB st pl):GS P o st (st.newP pl o.dst t l (.ref (iT st pl) 0)):=by
 intro cx a w K R ⟨β,h⟩ b;obtain⟨c1,c2,c3⟩:=(h.ev x).cells hg;have hrun:(execOp a.eval o).run P w= .ok (.value (.pointer (some ⟨w.heap.size,0,none⟩))) (w.alloc (.cells (a.eval x).cells t)):=by unfold execOp;simp[ho,Instr.box,newVar,newRow]
 refine h.loose.oper (by grind) ?_;unfold Oper.wp;rw[hrun];exact b _ _ (h.newP (hpl:=hpl) (C:=1) aa (by grind [maxLen]) c1.symm c2 c3 o.dst hd (by grind [RV]))
def jj(P:Bu)(t:Bj):Option (List Value):=((P.info? t).bind (·.zero)).bind λz=>if z.cells.all (·.oneCell')then some z.cells.toList else none
theorem ii{t:Bj}(h:jj P t=some zs):∃i z,P.info? t=some i/\i.zero=some z/\z.cells.toList=zs/\∀v∈zs,v.oneCell'=true:=by grind [jj,Gf,Array.all_eq_true_iff_forall_mem]
theorem ST{β:Bm}{S:Fu}(hu:us.toList=zs):∀(i:Nat) (g:G) (u:Value),(zs.map G.lit)[i]?=some g->us[i]?=some u->RV β S w g u:=by intro i g u hg h;subst hu;rw[Mu,Array.getElem?_toList,h] at hg;simp at hg;subst hg;exact .imm _ _ (.lit u)
theorem Ed{pl:Fq}{st:St}{t:Bj}(ho:o.op= .alloc t)(hd:LV o st.n)(hz:jj P t=some zs)(hl:zs.length=NC P t)(hpl:zB st pl):GS P o st (st.newP pl o.dst t (zs.map .lit) (.ref (iT st pl) 0)):=by
 intro cx a w K R ⟨β,h⟩ b;obtain⟨i,z,hi,hz,he,h1⟩:=ii hz;have hrun:(execOp a.eval o).run P w= .ok (.value (.pointer (some ⟨w.heap.size,0,none⟩))) (w.alloc (.cells z.cells t)):=by unfold execOp;simp[ho,Instr.alloc,newVar,newRow,zeroValue,typeInfo,hi,hz]
 have hsz:z.cells.size=zs.length:=by grind
 refine h.loose.oper (by grind) ?_;unfold Oper.wp;rw[hrun];exact b _ _ (h.newP (hpl:=hpl) (C:=1) aa (by grind [maxLen]) (by simp[hsz]) (by grind) (ST he) o.dst hd (by grind [RV]))
theorem pw{R:G->Value->Prop}{gs gs':Bk}{xs xs':List Value}(h:∀(j:Nat) (g:G),gs[j]?=some g->∃u,xs[j]?=some u/\R g u)(h':∀(j:Nat) (g:G),gs'[j]?=some g->∃u,xs'[j]?=some u/\R g u)(hl:gs'.length=xs'.length)(hx:gs.length<=xs.length)(hk:k+gs'.length<=gs.length):
  ∀(j:Nat) (g:G),(gs.take k++gs'++gs.drop (k+gs'.length))[j]?=some g->∃u,(xs.take k++xs'++xs.drop (k+xs'.length))[j]?=some u/\R g u:=by
 grind [UQ]
theorem P3{st:St}{t:Bj}{x y:DC}{ob:Ob}{l:Bk}(ho:o.op= .store t x y)(hd:LV o st.n)(hx:aB st x= .ref i k)(hob:ag st.σ i=some ob)(c:ob.x=none)(hy:dH (aB st y)=some l)(ht:bw P t=some n)(hl:l.length=n)(hle:k+n<=ob.l.length):
  GS P o st ({st with σ:=(i,some ⟨ob.t,ob.l.take k++l++ob.l.drop (k+n),none⟩)::st.σ}.put o.dst (.lit undef)):=by
 intro cx a w K R ⟨β,h⟩ d
 have hx':=h.ev x
 rw[hx] at hx'
 obtain⟨b,C,hb,hv⟩:=hx'.ref_addr
 obtain⟨c1,c2,c3⟩:=(h.ev y).cells hy
 rcases h.ob i ob hob with⟨h1,_⟩|⟨b',e,f,hx',_⟩|⟨b',C',cur,_,h1,h2,h3,h4,h5,h6⟩
 .grind
 .grind
 rw[h1] at hb;cases hb
 have hst:=run_storeCells_at (P:=P) b k ob.t (a.eval y).cells.toList 0 cur w h2 cq (λv hv=>by obtain⟨j,hj⟩:=List.mem_iff_getElem?.1 hv;exact c2 j v (by simpa using hj))
 simp only[Nat.add_zero,Array.length_toList] at hst
 have hrun:(execOp a.eval o).run P w= .ok .skip (w.setRow b (cur.toList.take k++(a.eval y).cells.toList++cur.toList.drop (k+(a.eval y).cells.size)).toArray):=by unfold execOp;simp only[ho,hv,Instr.storeAt,Instr.sureAddr];simp only[E0,HA,E1,storeVar,dG ht];grind [E1]
 have hsz:(cur.toList.take k++(a.eval y).cells.toList++cur.toList.drop (k+(a.eval y).cells.size)).toArray.size=cur.size:=by simp;omega
 have hh:=setRow_heap w b cur (cur.toList.take k++(a.eval y).cells.toList++cur.toList.drop (k+(a.eval y).cells.size)).toArray ob.t (0,0) h2
 have hkeep:A3 (λx=>x=b) w (w.setRow b (cur.toList.take k++(a.eval y).cells.toList++cur.toList.drop (k+(a.eval y).cells.size)).toArray):=⟨rfl,rfl,rfl,aC,(by grind [setRow_other]),Dk _⟩
 have hw:=h.write (l:=ob.l.take k++l++ob.l.drop (k+n)) hob h1 hkeep hh (by grind) h4 (by grind) (λj g hg=>by
  rw[<-hl] at hg;obtain⟨u,hu,h7,h8⟩:=pw (R:=λg u=>u.oneCell'=true/\RV β (Av cx.S0 β st.σ) w g u) (xs:=cur.toList) (xs':=(a.eval y).cells.toList) (by grind) (λj g hg=>by
   have hlt:=(cr hg).1;have hu:(a.eval y).cells[j]?=some ((a.eval y).cells[j]'aa):=by grind
   grind) (by simp[c1]) (by grind) aa j g hg
  grind)
 refine h.loose.oper (by grind) ?_
 unfold Oper.wp
 rw[hrun]
 exact d _ _ ⟨β,hw.put o.dst hd (.imm _ _ (.lit _))⟩
def Rw(β:Bm)(S:Fu)(w:World)(l:Bk)(us:List Value):Prop:=us.length=l.length/\(∀u∈us,u.oneCell'=true)/\∀(i:Nat) (g:G) (u:Value),l[i]?=some g->us[i]?=some u->RV β S w g u
theorem Rw.splice{β:Bm}{S:Fu}{w:World}{l l':Bk}{us us':List Value}(h:Rw β S w l us)(h':Rw β S w l' us'){k:Nat}(hk:k+l'.length<=l.length):Rw β S w (l.take k++l'++l.drop (k+l'.length)) (us.take k++us'++us.drop (k+us'.length)):=by obtain⟨a1,a2,a3⟩:=h;obtain⟨b1,b2,b3⟩:=h';constructor<;>grind
theorem Rw.of_cells{β:Bm}{S:Fu}{w:World}{g:G}{v:Value}{l:Bk}(h:RV β S w g v)(hg:dH g=some l):Rw β S w l v.cells.toList:=by obtain⟨c1,c2,c3⟩:=h.cells hg;constructor<;>grind [List.mem_iff_getElem?]
theorem Rw.lits{β:Bm}{S:Fu}{w:World}{zs:List Value}(h:∀v∈zs,v.oneCell'=true):Rw β S w (zs.map .lit) zs:=by refine⟨aC,h,λi g u hg hu=>?_⟩;rw[Mu,hu] at hg;simp at hg;subst hg;exact .imm _ _ (.lit u)
def R2(a:Nat->Option (Nat×Nat)):Bk->List (Nat×G)->Option Bk
 |cells,[]=>some cells
 |cells,(i,g)::r=>match a i,dH g with
  |some (off,sz),some cs=>if cs.length=sz/\off+sz<=cells.length then R2 a (cells.take off++cs++cells.drop (off+cs.length)) r else none
  |_,_=>none
theorem sE{β:Bm}{S:Fu}{w:World}{place:Nat->Option (Nat×Nat)}{ρ:DC->G}{e:DC->Value}(he:∀x,RV β S w (ρ x) (e x)):∀(parts:List (Nat×DC)) {cells out:Bk} {us:List Value},Rw β S w cells us->R2 place cells (parts.map λp=>(p.1,ρ p.2))=some out->
  ∃b,Instr.fill place us.toArray (parts.map λp=>(p.1,e p.2))=some b.toArray/\Rw β S w out b
 |[],cells,out,us,h,hg=>by simp[R2] at hg;subst hg;exact⟨us,rfl,h⟩
 |(i,x)::r,cells,out,us,h,hg=>by
  simp only[Fi,R2] at hg;split at hg
  .rename_i a sz cs hp hc;split at hg
   .rename_i hb;have hx:=Rw.of_cells (he x) hc;have hsz:(e x).cells.size=sz:=by have:=hx.1;grind
    obtain⟨b,hu,hr⟩:=sE he r (h.splice hx (k:=a) aa) hg;refine⟨b,?_,hr⟩;rw[Fi,NV place us.toArray i a sz (e x) _ hp hsz (by have:=h.1;simp;omega)];have h1:=h.1;have hf:=NU (e x).cells.toList (us.take a) (us.drop a) a cq cq;rw[Pw] at hf;rw[<-Array.foldl_toList,Array.toList_zipIdx,hf,<-hu];simp
   .cases hg
  .cases hg
def FA(P:Bu)(t:Bj):Option DH:=(P.underlying t).bind fun| .struct fs=>fs.toList.mapM (λf=>(P.info? f.type).map λi=>(f.offset,i.size))|_=>none
theorem FB{t:Bj}{pl:DH}(h:FA P t=some pl):∃fs,P.underlying t=some (.struct fs)/\fs.toList.mapM (λf=>(P.info? f.type).map λi=>(f.offset,i.size))=some pl:=by grind [FA,Gf]
def uH(P:Bu)(t:Bj)(a:List (Nat×G)):Option G:=
 match FA P t,jj P t with
 |some pl,some zs=>(R2 (pl[·]?) (zs.map .lit) a).map .agg
 |_,_=>none
theorem BO{st:St}{t:Bj}{parts:Array (Nat×DC)}{g:G}(ho:o.op= .build t parts)(hd:LV o st.n)(hg:uH P t (parts.toList.map λp=>(p.1,aB st p.2))=some g):GS P o st (st.put o.dst g):=by
 intro cx a w K R ⟨β,h⟩ f;unfold uH at hg;split at hg
 .rename_i pl zs hp hz;obtain⟨i,z,hi,hz',c,h1⟩:=ii hz;obtain⟨fs,hu,hpl⟩:=FB hp;simp only[DQ] at hg;obtain⟨out,b,rfl⟩:=hg;obtain⟨us,d,hr⟩:=sE (β:=β) (S:=Av cx.S0 β st.σ) (w:=w) (e:=a.eval) (λx=>h.ev x) parts.toList (Rw.lits h1) b;have hb:P.built t ((parts.map λ(p:Nat×DC)=>(p.1,a.eval p.2)).toList)=some us.toArray:=by unfold Program.built;simp only[hi,hu,hz',hpl];rw[<-d,<-c];simp
  have hrun:(execOp a.eval o).run P w= .ok (.value (.agg us.toArray)) w:=by unfold execOp;simp[ho,run_build w t _ _ hb]
  refine h.loose.oper (by grind) ?_;unfold Oper.wp;rw[hrun];refine f _ _ ⟨β,h.put o.dst hd (.agg _ _ (by simpa using hr.1) (λi u hu=>?_) (λi g u hg hu=>hr.2.2 i g u hg (by grind)))⟩;exact hr.2.1 u (by grind)
 .cases hg
def bN(zs:List Value)(n:Nat):List Value:=(List.range n).map λi=>zs.getD (i%zs.length) undef
theorem BP{pl:Fq}{st:St}{t e:Bj}{parts:Array (Nat×DC)}{l:Bk}(ho:o.op= .buildSlice t n parts)(hd:LV o st.n)(he:dp P t=some e)(hs:bw P e=some s)(hz:jj P e=some zs)(b:zs.length=s)(hn:n*s<=16777216)(c:n<=1000000)
  (hg:R2 (λi=>some (i*s,s)) ((bN zs (n*s)).map .lit) (parts.toList.map λp=>(p.1,aB st p.2))=some l) (hpl:zB st pl):GS P o st (st.newP pl o.dst e l (.rsl (iT st pl) 0 n)):=by
 intro cx a w K R ⟨β,h⟩ d
 obtain⟨i,z,hi,hz',f,h1⟩:=ii hz
 have ht:=cE he
 have hzz:∀v∈bN zs (n*s),v.oneCell'=true:=by grind [bN,Nat.mod_lt]
 obtain⟨us,k,hr⟩:=sE (β:=β) (S:=Av cx.S0 β st.σ) (w:=w) (e:=a.eval) (λx=>h.ev x) parts.toList (Rw.lits hzz) hg
 have hlen:∀(ps:List (Nat×G)) (cells out:Bk),R2 (λi=>some (i*s,s)) cells ps=some out->out.length=cells.length:=by intro ps;induction ps<;>grind [R2]
 have hll:l.length=n*s:=by grind [bN]
 have hnew:(newRow e us.toArray).run P w= .ok ⟨w.heap.size,0,none⟩ (w.alloc (.cells us.toArray e)):=by simp[newRow]
 have hrun:(execOp a.eval o).run P w= .ok (.value (.slice (some ⟨w.heap.size,0,none⟩) n n)) (w.alloc (.cells us.toArray e)):=by
  unfold execOp;simp only[ho];unfold Instr.buildSlice;simp only[E0,Gc ht,E1,dG hs];have e1:¬(n*s>2^24):=aa;rw[BX e1];have hparts:(parts.map λ(x:Nat×DC)=>(x.1,a.eval x.2)).toList=parts.toList.map λp=>(p.1,a.eval p.2):=aC;by_cases h0:n*s=0
  .grind [E0,HA,E1]
  .have hrep:((Array.range (n*s)).map λx=>z.cells[x%z.cells.size]!)=(bN zs (n*s)).toArray:=by apply Array.ext (by simp[bN]);grind [Nat.mod_lt,bN]
   have hzv:(zeroValue e).run P w= .ok z w:=by simp[zeroValue,typeInfo,hi,hz']
   simp_all
 refine h.loose.oper (by grind) ?_
 unfold Oper.wp
 rw[hrun]
 have hul:us.length=n*s:=by rw[hr.1,hll]
 refine d _ _ (h.newP (hpl:=hpl) (C:=n) (by grind [Ng]) (by grind [maxLen]) (by simp[hul,hll]) (λj u hu=>hr.2.1 u (by grind)) (λj g u hg hu=>hr.2.2 j g u hg (by grind)) o.dst hd (by grind [RV,maxLen]))
end
end Go.Proofs.YtjbfcillbjiajaaGreatDoor
