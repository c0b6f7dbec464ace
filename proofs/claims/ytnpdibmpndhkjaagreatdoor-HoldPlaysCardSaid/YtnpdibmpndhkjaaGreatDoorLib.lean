/- Texts. -/
import Derived.BigQuiet
import Derived.CallsIn
import Derived.Deep.Cut
import Derived.Deep.CutBlock
import Derived.Deep.DeepCutAuto
import Derived.Deep.DeepFit
import Derived.Deep.Light
import Derived.Deep.LoopGhost
import Derived.Deep.MidRow
import Derived.Deep.QuietTactic
import Derived.Deep.RegionWith
import Derived.KernelRfl
import Derived.Laws.Cells
import Derived.Laws.CopyRow
import Derived.Lib.Hide
import Derived.LoopIn
import Derived.LoopNIn
import Derived.Maps.OwnSet
import Derived.Orders
import Derived.OrdersIn
import Derived.RangeFuncBound
import Derived.RangeFuncCalls
import Derived.RangeFuncLeaves
import Derived.RangeFuncNested
import Derived.RangeFuncSeq
import Derived.TacticsInMore
import Derived.WalkKit
import Derived.WalkLawsBesides
import Derived.WalkSpells
namespace Go.Proofs.YtnpdibmpndhkjaaGreatDoor
set_option linter.unusedVariables false
set_option linter.unusedSimpArgs false
open Go.RowKit
variable {α:Type}{a:Act}{b clock i id j k m n off s:Nat}{p:Program}{w w':World}{v:Value}{at':Bool}{l:List Addr}{f x y:Operand}{c:Code}{o:Oper}{fid:FuncId}{fn:Func}{e t:TypeId}{us:Array Value}{zs:List Value}{parts:Array (Nat×Operand)}{pl:Option Nat}{xs:Array Operand}{ats:Array TypeId}{ρ:List (Nat×Nat)}{L:Array Bool}
theorem aa{p:Prop}(h:p:=by omega):p:=h
theorem aC{p:Prop}(h:p:=by simp):p:=h
theorem aH{p:Prop}(h:p:=by kernel_rfl):p:=h
theorem a9{p:Prop}(h:p:=by decide):p:=h
theorem cq{p:Prop}(h:p:=by simp;omega):p:=h
theorem fK{p:Prop}(h:p:=by simp[Op.operands]):p:=h
theorem zG{p:Prop}(h:p:=by simp[Op.operands,Call.operands]):p:=h
theorem aL{α β:Type _}(a:α)(f:α->Option β):(some a).bind f=f a:=rfl
theorem cr{α:Type _}{l:List α}{i:Nat}{a:α}(h:l[i]?=some a):∃h:i<l.length,l[i]=a:=List.getElem?_eq_some_iff.1 h
theorem cv{α:Type _}{l:List α}{i:Nat}(h:i<l.length):l[i]?=some l[i]:=List.getElem?_eq_getElem h
theorem bc{a:Nat}(h:Nat.beq a b=true):a=b:=Nat.eq_of_beq_eq_true h
theorem bg{α:Type _}(a b:α):(some a=some b)=(a=b):=Option.some.injEq a b
theorem bO{α:Type _}{l:List α}{i:Nat}{a:α}(h:l[i]?=some a):a∈l:=List.mem_of_getElem? h
theorem bn{α:Type _}{a b:α}(h:some a=some b):a=b:=Option.some.inj h
theorem cm{a:Nat}(h:Nat.ble a b=true):a<=b:=Nat.le_of_ble_eq_true h
theorem cn{α β:Type _}{x:Option α}{f:α->β}{b:β}:x.map f=some b↔∃a,x=some a/\f a=b:=Option.map_eq_some_iff
theorem bA(a b:Bool):((a&&b)=true)=(a=true/\b=true):=Bool.and_eq_true a b
theorem ax{α:Type _}(a b:α):(bif true then a else b)=a:=rfl
theorem aM{α:Type _}(a b:α):(bif false then a else b)=b:=rfl
theorem xW{α:Type}:∀(q:Ask α) (w:World),w.drawn<=(w.ask q).2.drawn
 | .done a,w=>Nat.le_refl _
 | .ask what range k,w=>by
  unfold World.ask;dsimp only;split
  .exact xW (k _) w
  .exact Nat.le_trans (Nat.le_succ _) (xW (k _) {w with drawn:=w.drawn+1})
theorem NT(c:Sys)(w:World):w.drawn<=(w.sys c).2.drawn:=by
 have h:=xW (Kernel.perform c w.os) w;unfold World.sys;split
 .exact Nat.le_refl _
 .rename_i r os w' _ e;rw[e] at h;exact h
theorem H5{ε β:Type}{x:Except ε α}{f:α->Except ε β}{b:β}(h:(x>>=f)= .ok b):∃a,x= .ok a/\f a= .ok b:=by
 cases x with
 |error e=>cases h
 |ok a=>exact⟨a,rfl,h⟩
theorem zH{a k:Addr}{u:TypeId}(h:w.viewStore p a u k v at'= .ok (w',l)):w'.drawn=w.drawn:=by
 unfold World.viewStore at h;repeat'(first
  |(obtain⟨_,_,h⟩:=H5 h)
  |(split at h)
  |(cases h;done)
  |(cases h;rfl))
theorem Cc{a:Addr}(h:w.farStore p a v at'= .ok (w',l)):w'.drawn=w.drawn:=by
 unfold World.farStore at h;split at h
 .split at h
  .rename_i r hr;cases h;exact zH hr
  .cases h
 .cases h
theorem Ep(p:Program)(s:Sem α):∀(w w':World) (v:α),s.run p w= .ok v w'->w.drawn<=w'.drawn:=by
 induction s with
 |pure a=>intro w w' v h;unfold Sem.run at h;cases h;exact Nat.le_refl _
 |load m a k ih=>
  intro w w' v h;unfold Sem.run at h;split at h
  .exact(have x:=ih _ _ _ _ h;x)
  .split at h
   .exact(have x:=ih _ _ _ _ h;x)
   .cases h
 |store m a u k ih=>
  intro w w' v h;by_cases hu:(∃x,u= .agg x)\/(∃x,u= .tuple x)
  .rcases hu with⟨x,rfl⟩|⟨x,rfl⟩<;>(unfold Sem.run at h;cases h)
  .rw[Sem.run] at h
   .split at h
    .split at h
     .cases h
     .exact(have x:=ih _ _ _ h;x)
    .split at h
     .rename_i b l e;have:=Cc e;have:=ih _ _ _ h;omega
     .cases h
   .exact λx e=>hu (.inl ⟨x,e⟩)
   .exact λx e=>hu (.inr ⟨x,e⟩)
 |new o k ih=>intro w w' v h;unfold Sem.run at h;exact(have x:=ih _ _ _ _ h;x)
 |shape r k ih=>intro w w' v h;unfold Sem.run at h;exact(have x:=ih _ _ _ _ h;x)
 |freeze a n k ih=>
  intro w w' v h;unfold Sem.run at h;have e:(w.freeze a n).drawn=w.drawn:=by unfold World.freeze;split<;>rfl
  have:=ih _ _ _ h;omega
 |frozen a k ih=>intro w w' v h;unfold Sem.run at h;exact(have x:=ih _ _ _ _ h;x)
 |getObj r k ih=>
  intro w w' v h;unfold Sem.run at h;split at h
  .cases h
  .exact(have x:=ih _ _ _ _ h;x)
  .cases h
 |setObj r o k ih=>
  intro w w' v h;unfold Sem.run at h;split at h
  .cases h
  .exact(have x:=ih _ _ _ h;x)
  .cases h
 |choose q k ih=>
  intro w w' v h;unfold Sem.run at h;split at h
  .exact(have x:=ih _ _ _ _ h;x)
  .have:=ih _ _ _ _ h;exact Nat.le_trans (Nat.le_succ _) this
 |sys c k ih=>intro w w' v h;unfold Sem.run at h;exact Nat.le_trans (NT c w) (ih _ _ _ _ h)
 |program k ih=>intro w w' v h;unfold Sem.run at h;exact(have x:=ih _ _ _ _ h;x)
 |mark m k ih=>intro w w' v h;unfold Sem.run at h;exact(have x:=ih _ _ _ h;x)
 |halt x=>intro w w' v h;unfold Sem.run at h;cases h
structure Keeps (S:Nat->Prop) (w w':World):Prop where
 os:w'.os=w.os
 tape:w'.tape=w.tape
 output:w'.output=w.output
 size:w.heap.size<=w'.heap.size
 block:∀k,k<w.heap.size->¬S k->w'.heap[k]?=w.heap[k]?
 drawn:w.drawn<=w'.drawn
theorem Keeps.refl(S:Nat->Prop)(w:World):Keeps S w w:=⟨rfl,rfl,rfl,Nat.le_refl _,λ_ _ _=>rfl,Nat.le_refl _⟩
theorem Keeps.trans{S:Nat->Prop}{a b c:World}(h:Keeps S a b)(k:Keeps S b c):Keeps S a c:=
 ⟨k.os.trans h.os,k.tape.trans h.tape,k.output.trans h.output,Nat.le_trans h.size k.size,λi hi hs=>(k.block i (Nat.lt_of_lt_of_le hi h.size) hs).trans (h.block i hi hs),Nat.le_trans h.drawn k.drawn⟩
theorem Keeps.mono{S S':Nat->Prop}{w w':World}(h:Keeps S w w')(hS:∀k,k<w.heap.size->S k->S' k):Keeps S' w w':=
 ⟨h.os,h.tape,h.output,h.size,λk hk hs=>h.block k hk (λx=>hs (hS k hk x)),h.drawn⟩
theorem Keeps.then{S S':Nat->Prop}{a b c:World}(h:Keeps S a b)(k:Keeps S' b c)(hS:∀i,i<a.heap.size->S' i->S i):Keeps S a c:=
 ⟨k.os.trans h.os,k.tape.trans h.tape,k.output.trans h.output,Nat.le_trans h.size k.size,λi hi hs=>(k.block i (Nat.lt_of_lt_of_le hi h.size) (λx=>hs (hS i hi x))).trans (h.block i hi hs),Nat.le_trans h.drawn k.drawn⟩
theorem Keeps.drew{S:Nat->Prop}{a w:World}(h:Keeps S a w):Keeps S a w.drew:=h.trans ⟨rfl,rfl,rfl,Nat.le_refl _,λ_ _ _=>rfl,Nat.le_succ _⟩
theorem Keeps.alloc{S:Nat->Prop}{a w:World}(h:Keeps S a w)(o:Obj):Keeps S a (w.alloc o):=
 h.trans ⟨rfl,rfl,rfl,by simp,λk hk _=>Below.heap_alloc _ _ _ hk,Nat.le_refl _⟩
theorem Keeps.lt{S:Nat->Prop}{w w':World}(h:Keeps S w w'){k:Nat}(hk:k<w.heap.size):k<w'.heap.size:=Nat.lt_of_lt_of_le hk h.size
theorem Keeps.cell{S:Nat->Prop}{w w':World}(h:Keeps S w w'){p:Addr}(hk:p.block<w.heap.size)(hs:¬S p.block):w'.cell? p=w.cell? p:=World.cell?_of_block (w:=w) (h.block p.block hk hs)
section
variable {P:Program} {kT eT mT:TypeId}
end
section
variable {P:Program}
theorem NU(arr:List Value):∀(b a:List Value) (c:Nat),c=b.length->arr.length<=a.length->
  (arr.zipIdx).foldl (λ(cs:Array Value) (p:Value×Nat)=>cs.setIfInBounds (c+p.2) p.1) (b++a).toArray=(b++arr++a.drop arr.length).toArray:=by
 suffices H:∀(arr:List Value) (n:Nat) (b a:List Value) (c:Nat),c+n=b.length->arr.length<=a.length->
   (arr.zipIdx n).foldl (λ(cs:Array Value) (p:Value×Nat)=>cs.setIfInBounds (c+p.2) p.1) (b++a).toArray=(b++arr++a.drop arr.length).toArray by
  intro b a c h1 h2
  exact H arr 0 b a c (by omega) h2
 intro arr
 induction arr with
 |nil=>intro n b a c h1 h2;simp
 |cons v r ih=>
  intro n b a c h1 h2
  cases a with
  |nil=>simp at h2
  |cons s a=>
   rw[List.zipIdx_cons,List.foldl_cons]
   have e:((b++s::a).toArray).setIfInBounds (c+n) v=((b++[v])++a).toArray:=by simp only[List.setIfInBounds_toArray];rw[List.set_append_right _ _ (by omega),h1];simp
   rw[e,ih (n+1) (b++[v]) a c (by simp;omega) (by simpa using h2)]
   simp
theorem NV(b:Nat->Option (Nat×Nat))(a:Array Value)(i c size:Nat)(v:Value)(rest:List (Nat×Value))(hp:b i=some (c,size))(hs:v.cells.size=size)(hb:c+size<=a.size):
  Instr.fill b a ((i,v)::rest)=Instr.fill b (v.cells.zipIdx.foldl (λ(cs:Array Value) (p:Value×Nat)=>cs.setIfInBounds (c+p.2) p.1) a) rest:=by
 have e:¬(size<size\/a.size<c+size):=by omega
 simp[Instr.fill,hp,hs]
 omega
end
section
variable {P:Program}
theorem zw(w:World)(o:Nat)(t ty e:TypeId)(i:TypeInfo)(z:Value)(size l:Nat)(ht:P.underlying t=some (.slice e))(hi:P.info? e=some i)(hz:i.zero=some z)
  (hsize:i.size=size) (p:i.bytes=l) (x:z.cells.size=size) (hsz:0<size)
  (v:Value) (n:Nat) (xs:List Value) (k:w.ownsRow o e size v n xs)
  (a:Addr) (m c:Nat) (b:List Value) (hl:b.length=m*size) (d:∀j u,b[j]?=some u->w.cell? (a.add j)=some u) (h1:∀u∈b,u.oneCell'=true)
  (h0:0<m) (s:n+m<=maxLen) (f:(n+m)*l<=140737488355328) (q:o<=w.heap.size):
  ∃r w',(Builtin.append_ #[t,t] ty #[v,.slice (some a) m c]).run P w= .ok r w'/\w'.ownsRow o e size r (n+m) (xs++b)/\w.grownBy w' v.ownBlock/\(r.ownBlock=v.ownBlock\/r.ownBlock=some w.heap.size)/\v.ownBlock≠some w.heap.size:=by
 obtain⟨r,w',hrun,ho,hg,_⟩:=run_append_own (P:=P) w o t ty e i z size l ht hi hz hsize p x hsz v n xs k a m c b hl d h1 s f q
 have hm:((n+m:Nat):Int)<=9223372036854775807:=by simp only[maxLen] at s;omega
 have hne:v.ownBlock≠some w.heap.size:=λh=>by have:=(k.lt _ h).2;omega
 refine⟨r,w',hrun,ho,hg,?_,hne⟩
 rcases k.2 with⟨rfl,rfl⟩|⟨g,cap,cur,rfl,B,y,C,D,hcs,A⟩
 .have hr:=run_append_nil (P:=P) w t ty e i z ht hi hz a m c b (by rw[hsize];exact hl) d h0 aa (by rw[p];have hb:=f;simp only[Nat.zero_add] at hb;omega)
  rw[hrun] at hr
  injection hr with e1 e2
  subst e1
  right;rfl
 .by_cases hroom:n+m<=cap
  .have hfit:n*i.size+b.length<=cur.size:=by rw[hl,hcs,hsize,<-Nat.add_mul];exact Nat.mul_le_mul_right _ hroom
   have hr:=run_append_room (P:=P) w t ty e i ht hi g n cap cur y a m c b (by rw[hsize];exact hl) d h1 hroom hfit
   rw[hrun] at hr
   injection hr with e1 e2
   subst e1
   left;rfl
  .have holds:∀j u,xs[j]?=some u->w.cell? ((⟨g,0,none⟩:Addr).add j)=some u:=k.cells (g:=g) rfl
   have hr:=run_append_grow (P:=P) w t ty e i z ht hi hz ⟨g,0,none⟩ n cap xs (by rw[hsize];exact k.1) holds a m c b (by rw[hsize];exact hl) d aa hm (growslice_fits aa (by rw[p];exact f))
   rw[hrun] at hr
   injection hr with e1 e2
   subst e1
   right;rfl
end
inductive G where
 |lit (v:Value)
 |agg (l:List G)
 |tup (l:List G)
 |ptr (l:List G) (o:Nat)
 |sl (l:List G) (n:Nat)
 |clo (fn:Fn) (first cap:List G)
 |ifc (t:TypeId) (g:G)
 |ref (i o:Nat)
 |rsl (i o n:Nat)
 |mref (i:Nat)
 |mp (ks:List Value) (vs:List G) (ns:List Nat) (clock:Nat)
 |yld (i:Nat)
 |junk
 deriving Inhabited
inductive IV (S:Nat->Prop) (w:World):G->Value->Prop
 |lit (v:Value):IV S w (.lit v) v
 |agg (l:List G) (us:Array Value) (hl:us.size=l.length) (h1:∀(i:Nat) (u:Value),us[i]?=some u->u.oneCell'=true) (h:∀(i:Nat) (g:G) (u:Value),l[i]?=some g->us[i]?=some u->IV S w g u):IV S w (.agg l) (.agg us)
 |tup (l:List G) (us:Array Value) (hl:us.size=l.length) (h:∀(i:Nat) (g:G) (u:Value),l[i]?=some g->us[i]?=some u->IV S w g u):IV S w (.tup l) (.tuple us)
 |ptr (l:List G) (o b off:Nat) (us:Nat->Value) (hs:¬S b) (hb:b<w.heap.size) (hc:∀i,i<l.length->w.cell? ⟨b,off+i,none⟩=some (us i)) (h1:∀i,i<l.length->(us i).oneCell'=true)
   (h:∀(i:Nat) (g:G),l[i]?=some g->IV S w g (us i)):IV S w (.ptr l o) (.pointer (some ⟨b,off+o,none⟩))
 |sl (l:List G) (n:Nat) (a:Option Addr) (cap:Nat) (us:Nat->Value) (hn:n<=cap) (hm:cap<=maxLen) (ha:∀i,i<l.length->∃b off,a=some ⟨b,off,none⟩/\¬S b/\b<w.heap.size/\w.cell? ⟨b,off+i,none⟩=some (us i))
   (h1:∀i,i<l.length->(us i).oneCell'=true) (h:∀(i:Nat) (g:G),l[i]?=some g->IV S w g (us i)):IV S w (.sl l n) (.slice a n cap)
 |clo (fn:Fn) (first cap:List G) (fs cs:Array Value) (hf:fs.size=first.length) (hc:cs.size=cap.length) (h:∀(i:Nat) (g:G) (u:Value),first[i]?=some g->fs[i]?=some u->IV S w g u) (h':∀(i:Nat) (g:G) (u:Value),cap[i]?=some g->cs[i]?=some u->IV S w g u):
   IV S w (.clo fn first cap) (.func fn fs cs)
 |ifc (t:TypeId) (g:G) (v:Value) (h:IV S w g v):IV S w (.ifc t g) (.iface t v)
 |mp (ks:List Value) (vs:List G) (ns:List Nat) (clock b:Nat) (ents:Array MapEntry) (hs:¬S b) (hb:b<w.heap.size) (ho:w.heap[b]?=some (.map ents clock)) (hl:ents.size=vs.length) (hk:ents.toList.map (·.key)=ks) (hn:ents.toList.map (·.born)=ns)
   (h:∀(j:Nat) (g:G) (e:MapEntry),vs[j]?=some g->ents[j]?=some e->IV S w g e.val):IV S w (.mp ks vs ns clock) (.map (some b))
structure CellKeeps (S:Nat->Prop) (w w':World):Prop where
 size:w.heap.size<=w'.heap.size
 cell:∀{b o u},b<w.heap.size->¬S b->w.cell? ⟨b,o,none⟩=some u->w'.cell? ⟨b,o,none⟩=some u
 map:∀{b ents c},b<w.heap.size->¬S b->w.heap[b]?=some (.map ents c)->w'.heap[b]?=some (.map ents c)
theorem CellKeeps.lt{S:Nat->Prop}{w w':World}(h:CellKeeps S w w'){b:Nat}(hb:b<w.heap.size):b<w'.heap.size:=Nat.lt_of_lt_of_le hb h.size
theorem Keeps.cells{S:Nat->Prop}{w w':World}(h:Keeps S w w'):CellKeeps S w w':=⟨h.size,λ{b o u} hb hs hc=>(h.cell (p:=⟨b,o,none⟩) hb hs).trans hc,λ{b ents c} hb hs ho=>(h.block b hb hs).trans ho⟩
theorem IV.stepC{S S':Nat->Prop}{w w':World}{g:G}{v:Value}(h:IV S w g v)(hS:∀b,b<w.heap.size->S' b->S b)(hk:CellKeeps S w w'):IV S' w' g v:=by
 induction h with
 |lit v=>exact .lit v
 |agg l us hl h1 h ih=>exact .agg l us hl h1 ih
 |tup l us hl h ih=>exact .tup l us hl ih
 |ptr l o b c us hs hb hc h1 h ih=>exact .ptr l o b c us (λx=>hs (hS b hb x)) (hk.lt hb) (λi hi=>hk.cell hb hs (hc i hi)) h1 ih
 |sl l n a cap us hn hm ha h1 h ih=>refine .sl l n a cap us hn hm (λi hi=>?_) h1 ih;obtain⟨b,c,e,hs,hb,hc⟩:=ha i hi;exact⟨b,c,e,λx=>hs (hS b hb x),hk.lt hb,hk.cell hb hs hc⟩
 |clo fn first cap fs cs hf hc h h' ih ih'=>exact .clo fn first cap fs cs hf hc ih ih'
 |ifc t g v h ih=>exact .ifc t g v ih
 |mp ks vs ns clock b ents hs hb ho hl hkk hn h ih=>exact .mp ks vs ns clock b ents (λx=>hs (hS b hb x)) (hk.lt hb) (hk.map hb hs ho) hl hkk hn ih
theorem IV.step{S S':Nat->Prop}{w w':World}{g:G}{v:Value}(h:IV S w g v)(hS:∀b,b<w.heap.size->S' b->S b)(hk:Keeps S w w'):IV S' w' g v:=h.stepC hS hk.cells
theorem IV.sub{S S':Nat->Prop}{w:World}{g:G}{v:Value}(h:IV S w g v)(hS:∀b,b<w.heap.size->S' b->S b):IV S' w g v:=h.step hS (Keeps.refl _ _)
theorem IV.keep{S:Nat->Prop}{w w':World}{g:G}{v:Value}(h:IV S w g v)(hk:Keeps S w w'):IV S w' g v:=h.step (λ_ _ x=>x) hk
abbrev Bm:=Nat->Option (Option (Nat×Nat))
inductive RV (β:Bm) (S:Nat->Prop) (w:World):G->Value->Prop
 |imm (g:G) (v:Value) (h:IV S w g v):RV β S w g v
 |agg (l:List G) (us:Array Value) (hl:us.size=l.length) (h1:∀(i:Nat) (u:Value),us[i]?=some u->u.oneCell'=true) (h:∀(i:Nat) (g:G) (u:Value),l[i]?=some g->us[i]?=some u->RV β S w g u):RV β S w (.agg l) (.agg us)
 |tup (l:List G) (us:Array Value) (hl:us.size=l.length) (h:∀(i:Nat) (g:G) (u:Value),l[i]?=some g->us[i]?=some u->RV β S w g u):RV β S w (.tup l) (.tuple us)
 |clo (fn:Fn) (first cap:List G) (fs cs:Array Value) (hf:fs.size=first.length) (hc:cs.size=cap.length) (h:∀(i:Nat) (g:G) (u:Value),first[i]?=some g->fs[i]?=some u->RV β S w g u) (h':∀(i:Nat) (g:G) (u:Value),cap[i]?=some g->cs[i]?=some u->RV β S w g u):
   RV β S w (.clo fn first cap) (.func fn fs cs)
 |ifc (t:TypeId) (g:G) (v:Value) (h:RV β S w g v):RV β S w (.ifc t g) (.iface t v)
 |ref (i o b C:Nat) (h:β i=some (some (b,C))):RV β S w (.ref i o) (.pointer (some ⟨b,o,none⟩))
 |rsl0 (i o:Nat) (h:β i≠none):RV β S w (.rsl i o 0) (.slice none 0 0)
 |rsl (i o n b C o' cap:Nat) (h:β i=some (some (b,C))) (hn:n<=cap) (hm:cap<=maxLen) (ho:cap≠0->o'=o) (hC:o=0->cap=C/\o'=0):RV β S w (.rsl i o n) (.slice (some ⟨b,o',none⟩) n cap)
 |mref (i b C:Nat) (h:β i=some (some (b,C))):RV β S w (.mref i) (.map (some b))
 |yld (i b C:Nat) (h:β i=some (some (b,C))):RV β S w (.yld i) (.func (.yield b) #[] #[])
 |junk (v:Value):RV β S w .junk v
theorem RV.stepW{β β':Bm}{S S':Nat->Prop}{w w':World}{g:G}{v:Value}(h:RV β S w g v)(hβ:∀i x,β i=some (some x)->β' i=some (some x))(hn:∀i,β i≠none->β' i≠none)(hS:∀b,b<w.heap.size->S' b->S b)(hk:CellKeeps S w w'):RV β' S' w' g v:=by
 induction h with
 |imm g v h=>exact .imm g v (h.stepC hS hk)
 |agg l us hl h1 h ih=>exact .agg l us hl h1 ih
 |tup l us hl h ih=>exact .tup l us hl ih
 |clo fn first cap fs cs hf hc h h' ih ih'=>exact .clo fn first cap fs cs hf hc ih ih'
 |ifc t g v h ih=>exact .ifc t g v ih
 |ref i o b C h=>exact .ref i o b C (hβ _ _ h)
 |rsl0 i o h=>exact .rsl0 i o (hn _ h)
 |rsl i o n b C o' cap h hn hm ho hC=>exact .rsl i o n b C o' cap (hβ _ _ h) hn hm ho hC
 |mref i b C h=>exact .mref i b C (hβ _ _ h)
 |yld i b C h=>exact .yld i b C (hβ _ _ h)
 |junk v=>exact .junk v
theorem RV.stepC{β β':Bm}{S S':Nat->Prop}{w w':World}{g:G}{v:Value}(h:RV β S w g v)(hβ:∀i x,β i=some x->β' i=some x)(hS:∀b,b<w.heap.size->S' b->S b)(hk:CellKeeps S w w'):RV β' S' w' g v:=
 h.stepW (λi x hx=>hβ i _ hx) (λi hx e=>by
  cases hb:β i with
  |none=>exact hx hb
  |some y=>rw[hβ i y hb] at e;cases e) hS hk
theorem RV.step{β β':Bm}{S S':Nat->Prop}{w w':World}{g:G}{v:Value}(h:RV β S w g v)(hβ:∀i x,β i=some x->β' i=some x)(hS:∀b,b<w.heap.size->S' b->S b)(hk:Keeps S w w'):RV β' S' w' g v:=h.stepC hβ hS hk.cells
theorem RV.mp_form{β:Bm}{S:Nat->Prop}{w:World}{ks:List Value}{vs:List G}{ns:List Nat}{c:Nat}{v:Value}(h:RV β S w (.mp ks vs ns c) v):∃b ents,v= .map (some b)/\w.heap[b]?=some (.map ents c)/\ents.size=vs.length/\ents.toList.map (·.key)=ks/\ents.toList.map (·.born)=ns/\∀(j:Nat) (g:G) (e:MapEntry),vs[j]?=some g->ents[j]?=some e->IV S w g e.val:=by
 cases h with
 |imm _ _ h=>
  cases h with
  |mp _ _ _ _ b ents hs hb ho hl hk hn h=>exact⟨b,ents,rfl,ho,hl,hk,hn,h⟩
abbrev Fr:=List (Nat×G)
inductive Xob where
 |map (es:List (Value×G×Nat)) (clock:Nat)
 |iter (m:Option Nat) (since:Nat) (seen:List Nat) (last:Nat)
 |loop (s:LoopState) (pe:Option Code) (n:Nat) (fr:Fr) (ps:Array Tmp) (assign body:Code)
 |resv
 deriving Inhabited
structure Ob where
 t:TypeId
 l:List G
 x:Option Xob
 deriving Inhabited
abbrev aQ:=List (Nat×Option Ob)
def aD:Fr->Nat->G
 |[],_=> .junk
 |(d,g)::r,i=>bif Nat.beq d i then g else aD r i
def ag:aQ->Nat->Option Ob
 |[],_=>none
 |(d,o)::r,i=>bif Nat.beq d i then o else ag r i
structure St where
 n:Nat
 gl:List (Nat×List G)
 fr:Fr
 σ:aQ
 c:Nat
 p:Nat
 r:Bool
def NC(P:Program)(t:TypeId):Nat:=((P.info? t).map (·.size)).getD 0
def Av(S:Nat->Prop)(β:Bm)(σ:aQ)(b:Nat):Prop:=S b\/∃i ob C,ag σ i=some ob/\β i=some (some (b,C))
def XO(β:Bm)(S:Nat->Prop)(w:World):Xob->Obj->Prop
 | .map es clock,o=>∃ents:Array MapEntry,o= .map ents clock/\ents.size=es.length/\∀(j:Nat) (k:Value) (g:G) (n:Nat),es[j]?=some (k,g,n)->∃e,ents[j]?=some e/\e.key=k/\e.born=n/\RV β S w g e.val
 | .iter m since seen last,o=>∃a,o= .mapIter a since seen.toArray last/\((m=none/\a=none)\/∃i b C,m=some i/\a=some b/\β i=some (some (b,C)))
 | .resv,_=>False
 | .loop s pe n fr ps az9 bd,o=>∃fn tmps D,o= .loop {state:=s,pending:=pe,fn:=fn,tmps:=tmps,params:=ps,assign:=az9,body:=bd,defers:=D}/\tmps.size=n/\∀j,RV β S w (aD fr j) (tmps.getD j undef)
def RO(P:Program)(β:Bm)(S:Nat->Prop)(w:World)(i:Nat)(ob:Ob):Prop:=
 (β i=some none/\ob.l=[]/\(ob.x=none\/ob.x=some .resv))\/
 (∃b x o,ob.x=some x/\ob.l=[]/\β i=some (some (b,0))/\w.heap[b]?=some o/\XO β S w x o)\/
 ∃b C cur,ob.x=none/\β i=some (some (b,C))/\w.heap[b]?=some (.cells cur ob.t (0,0))/\cur.size=C*NC P ob.t/\C<=maxLen/\ob.l.length<=cur.size/\∀(j:Nat) (g:G),ob.l[j]?=some g->∃u,cur[j]?=some u/\u.oneCell'=true/\RV β S w g u
structure Cx where
 w0:World
 B0:Nat->Prop
 S0:Nat->Prop
 pin:Nat->Option (Option (Nat×Nat))
 F:Fence
 nn:Nat
structure Loose (F:Fence):Prop where
 fn:∀f,F.fn f
 depth:F.depth=none
 alive:F.alive=false
def rp(D:Nat):Deferred:={target:= .collected D,args:= #[]}
def D7(w0:World)(a:Act)(w:World):Prop:=∃b:List Nat,a.defers=b.map rp/\b.Nodup/\∀D∈b,w0.heap.size<=D/\w.heap[D]?=some (.deferred (some []))
theorem D7.nil{w0 w:World}{a:Act}(h:a.defers=[]):D7 w0 a w:=⟨[],h,List.nodup_nil,λ_ h=>by cases h⟩
theorem D7.keep{w0 w w':World}{a:Act}{S:Nat->Prop}(h:D7 w0 a w)(hk:Keeps S w w')(hS:∀D,w.heap[D]?=some (.deferred (some []))->¬S D):D7 w0 a w':=by obtain⟨b,h1,h2,h3⟩:=h;refine⟨b,h1,h2,λD hD=>?_⟩;obtain⟨h4,h5⟩:=h3 D hD;exact⟨h4,(hk.block D (Array.getElem?_eq_some_iff.1 h5).1 (hS D h5)).trans h5⟩
structure RelB (P:Program) (cx:Cx) (st:St) (a:Act) (w:World) (β:Bm):Prop where
 size:a.tmps.size=st.n
 defers:D7 cx.w0 a w
 loose:Loose cx.F
 rnd:st.r=false->cx.F.round=none
 fr:∀i,RV β (Av cx.S0 β st.σ) w (aD st.fr i) (a.tmps.getD i undef)
 ob:∀i o,ag st.σ i=some o->RO P β (Av cx.S0 β st.σ) w i o
 inj:∀i j o o' b C D,ag st.σ i=some o->ag st.σ j=some o'->β i=some (some (b,C))->β j=some (some (b,D))->i=j
 own:∀i o b C,ag st.σ i=some o->β i=some (some (b,C))->cx.B0 b\/cx.w0.heap.size<=b
 sep:∀i o b C,ag st.σ i=some o->β i=some (some (b,C))->¬cx.S0 b
 fresh:∀i,st.c<=i->β i=none
 glob:∀g l,st.gl.lookup g=some l->IV (Av cx.S0 β st.σ) w (.ptr l 0) (.pointer (some ⟨g,0,none⟩))
 keep:Keeps cx.B0 cx.w0 w
 old:∀b,cx.S0 b->b<cx.w0.heap.size
 pin:∀i x,cx.pin i=some x->i<st.p/\β i=some x
def mh(P:Program)(cx:Cx)(st:St)(a:Act)(w:World):Prop:=∃β,RelB P cx st a w β
theorem XO.stepC{β β':Bm}{S S':Nat->Prop}{w w':World}{x:Xob}{o:Obj}(h:XO β S w x o)(hβ:∀i x,β i=some x->β' i=some x)(hS:∀b,b<w.heap.size->S' b->S b)(hk:CellKeeps S w w'):XO β' S' w' x o:=by
 cases x with
 |map es clock=>obtain⟨ents,h1,h2,h3⟩:=h;refine⟨ents,h1,h2,λj k g n hj=>?_⟩;obtain⟨e,e1,e2,e3,e4⟩:=h3 j k g n hj;exact⟨e,e1,e2,e3,e4.stepC hβ hS hk⟩
 |iter m since seen last=>
  obtain⟨a,h1,h2⟩:=h;refine⟨a,h1,?_⟩;rcases h2 with h2|⟨i,b,C,h3,h4,h5⟩
  .exact .inl h2
  .exact .inr ⟨i,b,C,h3,h4,hβ _ _ h5⟩
 |loop s pe n fr ps az9 bd=>obtain⟨fn,tmps,D,h1,h2,h3⟩:=h;exact⟨fn,tmps,D,h1,h2,λj=>(h3 j).stepC hβ hS hk⟩
 |resv=>exact h.elim
theorem XO.stepW{β β':Bm}{S S':Nat->Prop}{w w':World}{x:Xob}{o:Obj}(h:XO β S w x o)(hβ:∀i x,β i=some (some x)->β' i=some (some x))(hn:∀i,β i≠none->β' i≠none)(hS:∀b,b<w.heap.size->S' b->S b)(hk:CellKeeps S w w'):XO β' S' w' x o:=by
 cases x with
 |map es clock=>obtain⟨ents,h1,h2,h3⟩:=h;refine⟨ents,h1,h2,λj k g n hj=>?_⟩;obtain⟨e,e1,e2,e3,e4⟩:=h3 j k g n hj;exact⟨e,e1,e2,e3,e4.stepW hβ hn hS hk⟩
 |iter m since seen last=>
  obtain⟨a,h1,h2⟩:=h;refine⟨a,h1,?_⟩;rcases h2 with h2|⟨i,b,C,h3,h4,h5⟩
  .exact .inl h2
  .exact .inr ⟨i,b,C,h3,h4,hβ _ _ h5⟩
 |loop s pe n fr ps az9 bd=>obtain⟨fn,tmps,D,h1,h2,h3⟩:=h;exact⟨fn,tmps,D,h1,h2,λj=>(h3 j).stepW hβ hn hS hk⟩
 |resv=>exact h.elim
theorem XO.step{β β':Bm}{S S':Nat->Prop}{w w':World}{x:Xob}{o:Obj}(h:XO β S w x o)(hβ:∀i x,β i=some x->β' i=some x)(hS:∀b,b<w.heap.size->S' b->S b)(hk:Keeps S w w'):XO β' S' w' x o:=h.stepC hβ hS hk.cells
theorem XO.not_marks{β:Bm}{S:Nat->Prop}{w:World}{x:Xob}{o:Obj}(h:XO β S w x o)(l:Option (List Deferred)):o≠ .deferred l:=by
 cases x with
 |map es clock=>obtain⟨ents,rfl,_⟩:=h;intro e;cases e
 |iter m since seen last=>obtain⟨a,rfl,_⟩:=h;intro e;cases e
 |loop s pe n fr ps az9 bd=>obtain⟨fn,tmps,D,rfl,_⟩:=h;intro e;cases e
 |resv=>exact h.elim
theorem RO.stepC{P:Program}{β β':Bm}{S S':Nat->Prop}{w w':World}{i:Nat}{ob:Ob}(h:RO P β S w i ob)(hβ:∀i x,β i=some x->β' i=some x)(hS:∀b,b<w.heap.size->S' b->S b)(hk:CellKeeps S w w')
  (hb:∀b C,β i=some (some (b,C))->w'.heap[b]?=w.heap[b]?):RO P β' S' w' i ob:=by
 rcases h with⟨h1,h2⟩|⟨b,x,o,h1,h2,h3,h4,h5⟩|⟨b,C,cur,hx,h1,h2,h3,h4,h5,h6⟩
 .exact .inl ⟨hβ _ _ h1,h2⟩
 .exact .inr (.inl ⟨b,x,o,h1,h2,hβ _ _ h3,(hb b 0 h3).trans h4,h5.stepC hβ hS hk⟩)
 .refine .inr (.inr ⟨b,C,cur,hx,hβ _ _ h1,(hb b C h1).trans h2,h3,h4,h5,λj g hg=>?_⟩)
  obtain⟨u,hu,h1',hr⟩:=h6 j g hg
  exact⟨u,hu,h1',hr.stepC hβ hS hk⟩
theorem RO.stepW{P:Program}{β β':Bm}{S S':Nat->Prop}{w w':World}{i:Nat}{ob:Ob}(h:RO P β S w i ob)(hβ:∀i x,β i=some (some x)->β' i=some (some x))(hn:∀i,β i≠none->β' i≠none)(hi:β' i=β i)(hS:∀b,b<w.heap.size->S' b->S b)(hk:CellKeeps S w w')
  (hb:∀b C,β i=some (some (b,C))->w'.heap[b]?=w.heap[b]?):RO P β' S' w' i ob:=by
 rcases h with⟨h1,h2⟩|⟨b,x,o,h1,h2,h3,h4,h5⟩|⟨b,C,cur,hx,h1,h2,h3,h4,h5,h6⟩
 .exact .inl ⟨hi.trans h1,h2⟩
 .exact .inr (.inl ⟨b,x,o,h1,h2,hβ _ _ h3,(hb b 0 h3).trans h4,h5.stepW hβ hn hS hk⟩)
 .refine .inr (.inr ⟨b,C,cur,hx,hβ _ _ h1,(hb b C h1).trans h2,h3,h4,h5,λj g hg=>?_⟩)
  obtain⟨u,hu,h1',hr⟩:=h6 j g hg
  exact⟨u,hu,h1',hr.stepW hβ hn hS hk⟩
theorem RO.step{P:Program}{β β':Bm}{S S':Nat->Prop}{w w':World}{i:Nat}{ob:Ob}(h:RO P β S w i ob)(hβ:∀i x,β i=some x->β' i=some x)(hS:∀b,b<w.heap.size->S' b->S b)(hk:Keeps S w w')
  (hb:∀b C,β i=some (some (b,C))->w'.heap[b]?=w.heap[b]?):RO P β' S' w' i ob:=h.stepC hβ hS hk.cells hb
theorem RO.at{P:Program}{β:Bm}{S:Nat->Prop}{w:World}{i:Nat}{ob:Ob}(h:RO P β S w i ob):β i=some none\/∃b C o,β i=some (some (b,C))/\w.heap[b]?=some o/\∀l,o≠ .deferred l:=by
 rcases h with⟨h1,h2⟩|⟨b,x,o,h1,h2,h3,h4,h5⟩|⟨b,C,cur,hx,h1,h2,h3,h4,h5,h6⟩
 .exact .inl h1
 .exact .inr ⟨b,0,o,h3,h4,h5.not_marks⟩
 .exact .inr ⟨b,C,_,h1,h2,λl e=>by cases e⟩
theorem am(i j:Nat)(o:Option Ob)(σ:aQ):ag ((j,o)::σ) i=if j=i then o else ag σ i:=by
 show(bif Nat.beq j i then o else ag σ i)=_;by_cases h:j=i
 .subst h;simp
 .rw[if_neg h];cases hb:Nat.beq j i with
  |true=>exact absurd (bc hb) h
  |false=>rfl
theorem aO(i j:Nat)(g:G)(f:Fr):aD ((j,g)::f) i=if j=i then g else aD f i:=by
 show(bif Nat.beq j i then g else aD f i)=_;by_cases h:j=i
 .subst h;simp
 .rw[if_neg h];cases hb:Nat.beq j i with
  |true=>exact absurd (bc hb) h
  |false=>rfl
def St.put(st:St)(d:Option Tmp)(g:G):St:=
 match d with
 |some d=>{st with fr:=(d,g)::st.fr}
 |none=>st
theorem HI(a:Act)(d:Nat)(v:Value)(h:d<a.tmps.size)(i:Nat):(a.put (some d) v).tmps.getD i undef=if d=i then v else a.tmps.getD i undef:=by
 simp only[Act.put,Array.getD_eq_getD_getElem?,Array.getElem?_setIfInBounds];split
 .subst_vars;simp
 .rfl
theorem RelB.put{P:Program}{cx:Cx}{st:St}{a:Act}{w:World}{β:Bm}(h:RelB P cx st a w β)(d:Option Tmp)(hd:∀x,d=some x->x<st.n){g:G}{v:Value}(hv:RV β (Av cx.S0 β st.σ) w g v):RelB P cx (st.put d g) (a.put d v) w β:=by
 cases d with
 |none=>exact h
 |some d=>
  have hd':d<a.tmps.size:=by rw[h.size];exact hd d rfl
  refine{h with size:=by simp[Act.put,St.put,h.size],fr:=λi=>?_};rw[HI a d v hd'];show RV β _ w (aD ((d,g)::st.fr) i) _;rw[aO];split
  .exact hv
  .exact h.fr i
theorem RelB.world{P:Program}{cx:Cx}{st:St}{a:Act}{w w':World}{β:Bm}(h:RelB P cx st a w β)(hk:Keeps (λ_=>False) w w'):RelB P cx st a w' β:=by
 have hk':Keeps (Av cx.S0 β st.σ) w w':=hk.mono λ_ _ x=>x.elim;exact{h with
  defers:=h.defers.keep hk (λ_ _ x=>x)
  fr:=λi=>(h.fr i).step (λ_ _ x=>x) (λ_ _ x=>x) hk'
  ob:=λi o ho=>(h.ob i o ho).step (λ_ _ x=>x) (λ_ _ x=>x) hk' (λb C hb=>by
   rcases(h.ob i o ho).at with h1|⟨c,C',d,h1,h2,_⟩
   .rw[h1] at hb;cases hb
   .rw[h1] at hb;cases hb;exact hk.block b (Array.getElem?_eq_some_iff.1 h2).1 (λx=>x))
  glob:=λg l hl=>(h.glob g l hl).keep hk'
  keep:=h.keep.trans (hk.mono λ_ _ x=>x.elim)}
theorem RelB.lt{P:Program}{cx:Cx}{st:St}{a:Act}{w:World}{β:Bm}(h:RelB P cx st a w β){i:Nat}{o:Ob}{b C:Nat}(ho:ag st.σ i=some o)(hb:β i=some (some (b,C))):b<w.heap.size:=by
 rcases(h.ob i o ho).at with h1|⟨c,C',d,h1,h2,_⟩
 .rw[h1] at hb;cases hb
 .rw[h1] at hb;cases hb;exact(Array.getElem?_eq_some_iff.1 h2).1
theorem RelB.alloc{P:Program}{cx:Cx}{st:St}{a:Act}{w w':World}{β:Bm}(h:RelB P cx st a w β)(hk:Keeps (λ_=>False) w w'){b C:Nat}{cur:Array Value}{ob:Ob}(hb:w.heap.size<=b)(m:w'.heap[b]?=some (.cells cur ob.t (0,0)))(hs:cur.size=C*NC P ob.t)(hC:C<=maxLen)(hl:ob.l.length<=cur.size)
  (n:ob.x=none) (hr:∀(j:Nat) (g:G),ob.l[j]?=some g->∃u,cur[j]?=some u/\u.oneCell'=true/\RV β (Av cx.S0 β st.σ) w g u) {k:Nat} (hkc:st.c<=k):RelB P cx {st with σ:=(k,some ob)::st.σ,c:=k+1} a w' (λi=>if i=k then some (some (b,C)) else β i):=by
 have hβ:∀i x,β i=some x->(λi=>if i=k then some (some (b,C)) else β i) i=some x:=by
  intro i x hx;have:i≠k:=λe=>by rw[e,h.fresh k hkc] at hx;cases hx
  simp[this,hx]
 have hSz:∀d,cx.S0 d->d<w.heap.size:=λd hb'=>h.keep.lt (h.old d hb')
 have hS:∀d,d<w.heap.size->Av cx.S0 (λi=>if i=k then some (some (b,C)) else β i) ((k,some ob)::st.σ) d->Av cx.S0 β st.σ d:=by
  rintro d hlt (hx|⟨i,o,D,ho,hx⟩)
  .exact .inl hx
  .rw[am] at ho;by_cases e:k=i
   .subst e;simp at hx;omega
   .rw[if_neg e] at ho;have e':i≠k:=λx=>e x.symm;simp only[e',if_false] at hx;exact .inr ⟨i,o,D,ho,hx⟩
 have hk':Keeps (Av cx.S0 β st.σ) w w':=hk.mono λ_ _ x=>x.elim
 exact{
  size:=h.size
  defers:=h.defers.keep hk (λ_ _ x=>x)
  loose:=h.loose
  rnd:=h.rnd
  fr:=λi=>(h.fr i).step hβ hS hk'
  ob:=λi o ho=>by
   have ho':ag ((k,some ob)::st.σ) i=some o:=ho;rw[am] at ho';by_cases e:k=i
   .subst e;rw[if_pos rfl] at ho';cases ho';refine .inr (.inr ⟨b,C,cur,n,aC,m,hs,hC,hl,λj g hg=>?_⟩);obtain⟨u,hu,h1,p⟩:=hr j g hg;exact⟨u,hu,h1,p.step hβ hS hk'⟩
   .rw[if_neg e] at ho';exact(h.ob i o ho').step hβ hS hk' (λd D hb'=>hk.block d (h.lt ho' hb') (λx=>x))
  inj:=λi j o q d D E hi hj hbi f=>by
   have hi':ag ((k,some ob)::st.σ) i=some o:=hi;have hj':ag ((k,some ob)::st.σ) j=some q:=hj;rw[am] at hi' hj';by_cases ei:i=k<;>by_cases ej:j=k
   .rw[ei,ej]
   .simp only[ei,ej,if_true,if_false] at hbi f;rw[if_neg (λx=>ej x.symm)] at hj';have:=h.lt hj' f;simp at hbi;omega
   .simp only[ei,ej,if_true,if_false] at hbi f;rw[if_neg (λx=>ei x.symm)] at hi';have:=h.lt hi' hbi;simp at f;omega
   .simp only[ei,ej,if_false] at hbi f;rw[if_neg (λx=>ei x.symm)] at hi';rw[if_neg (λx=>ej x.symm)] at hj';exact h.inj i j o q d D E hi' hj' hbi f
  own:=λi o d D hi hbi=>by
   have hi':ag ((k,some ob)::st.σ) i=some o:=hi;rw[am] at hi';by_cases ei:i=k
   .simp only[ei,if_true] at hbi;simp at hbi;have:=h.keep.size;right;omega
   .simp only[ei,if_false] at hbi;rw[if_neg (λx=>ei x.symm)] at hi';exact h.own i o d D hi' hbi
  sep:=λi o d D hi hbi=>by
   have hi':ag ((k,some ob)::st.σ) i=some o:=hi;rw[am] at hi';by_cases ei:i=k
   .simp only[ei,if_true] at hbi;simp at hbi;intro hx;have:=hSz d hx;omega
   .simp only[ei,if_false] at hbi;rw[if_neg (λx=>ei x.symm)] at hi';exact h.sep i o d D hi' hbi
  fresh:=λi hi=>by have hi':k+1<=i:=hi;have e:i≠k:=aa;simp only[e,if_false];exact h.fresh i aa
  glob:=λg l hl=>(h.glob g l hl).step hS hk'
  keep:=h.keep.trans (hk.mono λ_ _ x=>x.elim)
  old:=h.old
  pin:=λi x hx=>⟨(h.pin i x hx).1,hβ i x (h.pin i x hx).2⟩}
theorem RelB.allocX{P:Program}{cx:Cx}{st:St}{a:Act}{w w':World}{β:Bm}(h:RelB P cx st a w β)(hk:Keeps (λ_=>False) w w'){b:Nat}{ob:Ob}{x:Xob}{o0:Obj}(hb:w.heap.size<=b)(m:w'.heap[b]?=some o0)(n:ob.x=some x)(hl:ob.l=[])(hr:XO β (Av cx.S0 β st.σ) w x o0){k:Nat}(hkc:st.c<=k):RelB P cx {st with σ:=(k,some ob)::st.σ,c:=k+1} a w' (λi=>if i=k then some (some (b,0)) else β i):=by
 have hβ:∀i x,β i=some x->(λi=>if i=k then some (some (b,0)) else β i) i=some x:=by
  intro i x hx;have:i≠k:=λe=>by rw[e,h.fresh k hkc] at hx;cases hx
  simp[this,hx]
 have hSz:∀d,cx.S0 d->d<w.heap.size:=λd hb'=>h.keep.lt (h.old d hb');have hS:∀d,d<w.heap.size->Av cx.S0 (λi=>if i=k then some (some (b,0)) else β i) ((k,some ob)::st.σ) d->Av cx.S0 β st.σ d:=by
  rintro d hlt (hx|⟨i,o,D,ho,hx⟩)
  .exact .inl hx
  .rw[am] at ho;by_cases e:k=i
   .subst e;simp at hx;omega
   .rw[if_neg e] at ho;have e':i≠k:=λx=>e x.symm;simp only[e',if_false] at hx;exact .inr ⟨i,o,D,ho,hx⟩
 have hk':Keeps (Av cx.S0 β st.σ) w w':=hk.mono λ_ _ x=>x.elim;exact{
  size:=h.size
  defers:=h.defers.keep hk (λ_ _ x=>x)
  loose:=h.loose
  rnd:=h.rnd
  fr:=λi=>(h.fr i).step hβ hS hk'
  ob:=λi o ho=>by
   have ho':ag ((k,some ob)::st.σ) i=some o:=ho;rw[am] at ho';by_cases e:k=i
   .subst e;rw[if_pos rfl] at ho';cases ho';exact .inr (.inl ⟨b,x,o0,n,hl,aC,m,hr.step hβ hS hk'⟩)
   .rw[if_neg e] at ho';exact(h.ob i o ho').step hβ hS hk' (λd D hb'=>hk.block d (h.lt ho' hb') (λx=>x))
  inj:=λi j o p d D E hi hj hbi f=>by
   have hi':ag ((k,some ob)::st.σ) i=some o:=hi;have hj':ag ((k,some ob)::st.σ) j=some p:=hj;rw[am] at hi' hj';by_cases ei:i=k<;>by_cases ej:j=k
   .rw[ei,ej]
   .simp only[ei,ej,if_true,if_false] at hbi f;rw[if_neg (λx=>ej x.symm)] at hj';have:=h.lt hj' f;simp at hbi;omega
   .simp only[ei,ej,if_true,if_false] at hbi f;rw[if_neg (λx=>ei x.symm)] at hi';have:=h.lt hi' hbi;simp at f;omega
   .simp only[ei,ej,if_false] at hbi f;rw[if_neg (λx=>ei x.symm)] at hi';rw[if_neg (λx=>ej x.symm)] at hj';exact h.inj i j o p d D E hi' hj' hbi f
  own:=λi o d D hi hbi=>by
   have hi':ag ((k,some ob)::st.σ) i=some o:=hi;rw[am] at hi';by_cases ei:i=k
   .simp only[ei,if_true] at hbi;simp at hbi;have:=h.keep.size;right;omega
   .simp only[ei,if_false] at hbi;rw[if_neg (λx=>ei x.symm)] at hi';exact h.own i o d D hi' hbi
  sep:=λi o d D hi hbi=>by
   have hi':ag ((k,some ob)::st.σ) i=some o:=hi;rw[am] at hi';by_cases ei:i=k
   .simp only[ei,if_true] at hbi;simp at hbi;intro hx;have:=hSz d hx;omega
   .simp only[ei,if_false] at hbi;rw[if_neg (λx=>ei x.symm)] at hi';exact h.sep i o d D hi' hbi
  fresh:=λi hi=>by have hi':k+1<=i:=hi;have e:i≠k:=aa;simp only[e,if_false];exact h.fresh i aa
  glob:=λg l hl=>(h.glob g l hl).step hS hk'
  keep:=h.keep.trans (hk.mono λ_ _ x=>x.elim)
  old:=h.old
  pin:=λi x hx=>⟨(h.pin i x hx).1,hβ i x (h.pin i x hx).2⟩}
abbrev H_d(o:Oper)(n:Nat):Prop:=∀d,o.dst=some d->d<n
abbrev H_a(o:Oper)(L:Array Bool):Prop:=∀e∈o.after,Region.binds .any e=true->L.getD e.on false=true
theorem RelB.kill{P:Program}{cx:Cx}{st:St}{a:Act}{w:World}{β:Bm}(h:RelB P cx st a w β)(k:Nat):RelB P cx {st with σ:=(k,none)::st.σ} a w β:=by
 have hg:∀i o,ag ((k,none)::st.σ) i=some o->ag st.σ i=some o:=by
  intro i o ho;rw[am] at ho;split at ho
  .cases ho
  .exact ho
 have hS:∀c,c<w.heap.size->Av cx.S0 β ((k,none)::st.σ) c->Av cx.S0 β st.σ c:=by
  rintro c _ (hx|⟨i,o,D,ho,hx⟩)
  .exact .inl hx
  .exact .inr ⟨i,o,D,hg i o ho,hx⟩
 exact{h with
  fr:=λi=>(h.fr i).step (λ_ _ x=>x) hS (Keeps.refl _ _)
  ob:=λi o ho=>(h.ob i o (hg i o ho)).step (λ_ _ x=>x) hS (Keeps.refl _ _) (λ_ _ _=>rfl)
  inj:=λi j o d b C D hi hj=>h.inj i j o d b C D (hg i o hi) (hg j d hj)
  glob:=λg l hl=>(h.glob g l hl).sub hS
  own:=λi o b C hi=>h.own i o b C (hg i o hi)
  sep:=λi o b C hi=>h.sep i o b C (hg i o hi)}
theorem RelB.virtX{P:Program}{cx:Cx}{st:St}{a:Act}{w:World}{β:Bm}(h:RelB P cx st a w β)(t:TypeId){d:Option Xob}(m:d=none\/d=some .resv){k:Nat}(hkc:st.c<=k):
  RelB P cx {st with σ:=(k,some ⟨t,[],d⟩)::st.σ,c:=k+1} a w (λi=>if i=k then some none else β i):=by
 have hβ:∀i x,β i=some x->(λi=>if i=k then some none else β i) i=some x:=by
  intro i x hx;have:i≠k:=λe=>by rw[e,h.fresh k hkc] at hx;cases hx
  simp[this,hx]
 have hg:∀(i:Nat) o b C,ag ((k,some ⟨t,[],d⟩)::st.σ) i=some o->(if i=k then some none else β i)=some (some (b,C))->i≠k/\ag st.σ i=some o/\β i=some (some (b,C)):=by
  intro i o b C ho hb;rw[am] at ho;by_cases e:i=k
  .rw[if_pos e] at hb;cases hb
  .rw[if_neg e] at hb;rw[if_neg (λx=>e x.symm)] at ho;exact⟨e,ho,hb⟩
 have hS:∀f,f<w.heap.size->Av cx.S0 (λi=>if i=k then some none else β i) ((k,some ⟨t,[],d⟩)::st.σ) f->Av cx.S0 β st.σ f:=by
  rintro f _ (hx|⟨i,o,D,ho,hx⟩)
  .exact .inl hx
  .obtain⟨_,h1,h2⟩:=hg i o f D ho hx;exact .inr ⟨i,o,D,h1,h2⟩
 exact{
  size:=h.size
  defers:=h.defers
  loose:=h.loose
  rnd:=h.rnd
  fr:=λi=>(h.fr i).step hβ hS (Keeps.refl _ _)
  ob:=λi o ho=>by
   have ho':ag ((k,some ⟨t,[],d⟩)::st.σ) i=some o:=ho;rw[am] at ho';by_cases e:k=i
   .subst e;rw[if_pos rfl] at ho';cases ho';exact .inl ⟨aC,rfl,m⟩
   .rw[if_neg e] at ho';exact(h.ob i o ho').step hβ hS (Keeps.refl _ _) (λ_ _ _=>rfl)
  inj:=λi j o p b C D hi hj hbi n=>by obtain⟨_,h1,h2⟩:=hg i o b C hi hbi;obtain⟨_,h3,h4⟩:=hg j p b D hj n;exact h.inj i j o p b C D h1 h3 h2 h4
  own:=λi o b C hi hbi=>by obtain⟨_,h1,h2⟩:=hg i o b C hi hbi;exact h.own i o b C h1 h2
  sep:=λi o b C hi hbi=>by obtain⟨_,h1,h2⟩:=hg i o b C hi hbi;exact h.sep i o b C h1 h2
  fresh:=λi hi=>by have hi':k+1<=i:=hi;have e:i≠k:=aa;simp only[e,if_false];exact h.fresh i aa
  glob:=λg l hl=>(h.glob g l hl).sub hS
  keep:=h.keep
  old:=h.old
  pin:=λi x hx=>⟨(h.pin i x hx).1,hβ i x (h.pin i x hx).2⟩}
theorem RelB.virt{P:Program}{cx:Cx}{st:St}{a:Act}{w:World}{β:Bm}(h:RelB P cx st a w β)(t:TypeId){k:Nat}(hkc:st.c<=k):
  RelB P cx {st with σ:=(k,some ⟨t,[],none⟩)::st.σ,c:=k+1} a w (λi=>if i=k then some none else β i):=h.virtX t (.inl rfl) hkc
theorem RelB.not_marks{P:Program}{cx:Cx}{st:St}{a:Act}{w:World}{β:Bm}(h:RelB P cx st a w β){i:Nat}{ob:Ob}{b C:Nat}(ho:ag st.σ i=some ob)(hb:β i=some (some (b,C))){l:Option (List Deferred)}(hd:w.heap[b]?=some (.deferred l)):False:=by
 rcases(h.ob i ob ho).at with h1|⟨c,C',o,h1,h2,h3⟩
 .rw[h1] at hb;cases hb
 .rw[h1] at hb;cases hb;rw[h2] at hd;cases hd;exact h3 l rfl
theorem RelB.write{P:Program}{cx:Cx}{st:St}{a:Act}{w w':World}{β:Bm}(h:RelB P cx st a w β){i:Nat}{ob:Ob}{b C:Nat}{cur:Array Value}{l:List G}(ho:ag st.σ i=some ob)(hb:β i=some (some (b,C)))(hk:Keeps (λk=>k=b) w w')
  (f:w'.heap[b]?=some (.cells cur ob.t (0,0))) (hs:cur.size=C*NC P ob.t) (hC:C<=maxLen) (hl:l.length<=cur.size) (hr:∀(j:Nat) (g:G),l[j]?=some g->∃u,cur[j]?=some u/\u.oneCell'=true/\RV β (Av cx.S0 β st.σ) w g u):
  RelB P cx {st with σ:=(i,some ⟨ob.t,l,none⟩)::st.σ} a w' β:=by
 have hg:∀(j:Nat) o,ag ((i,some ⟨ob.t,l,none⟩)::st.σ) j=some o->∃m,ag st.σ j=some m:=by
  intro j o hj;rw[am] at hj;split at hj
  .subst_vars;exact⟨_,ho⟩
  .exact⟨o,hj⟩
 have hS:∀c,c<w.heap.size->Av cx.S0 β ((i,some ⟨ob.t,l,none⟩)::st.σ) c->Av cx.S0 β st.σ c:=by
  rintro c _ (hx|⟨j,o,D,hj,hx⟩)
  .exact .inl hx
  .obtain⟨m,h1⟩:=hg j o hj;exact .inr ⟨j,m,D,h1,hx⟩
 have hk':Keeps (Av cx.S0 β st.σ) w w':=hk.mono λx _ e=>by subst e;exact .inr ⟨i,ob,C,ho,hb⟩
 exact{
  size:=h.size
  defers:=h.defers.keep hk (λD hD e=>by subst e;exact h.not_marks ho hb hD)
  loose:=h.loose
  rnd:=h.rnd
  fr:=λj=>(h.fr j).step (λ_ _ x=>x) hS hk'
  ob:=λj o hj=>by
   have hj':ag ((i,some ⟨ob.t,l,none⟩)::st.σ) j=some o:=hj;rw[am] at hj';by_cases e:i=j
   .subst e;rw[if_pos rfl] at hj';cases hj';refine .inr (.inr ⟨b,C,cur,rfl,hb,f,hs,hC,hl,λj g hj=>?_⟩);obtain⟨u,hu,h1,n⟩:=hr j g hj;exact⟨u,hu,h1,n.step (λ_ _ x=>x) hS hk'⟩
   .rw[if_neg e] at hj';exact(h.ob j o hj').step (λ_ _ x=>x) hS hk' (λc D hb'=>hk.block c (h.lt hj' hb') (λx=>e (by subst x;exact h.inj i j ob o c C D ho hj' hb hb')))
  inj:=λx y o m c C' D hx hy d p=>by obtain⟨o1,h1⟩:=hg x o hx;obtain⟨q,h2⟩:=hg y m hy;exact h.inj x y o1 q c C' D h1 h2 d p
  own:=λx o c C' hx d=>by obtain⟨o1,h1⟩:=hg x o hx;exact h.own x o1 c C' h1 d
  sep:=λx o c C' hx d=>by obtain⟨o1,h1⟩:=hg x o hx;exact h.sep x o1 c C' h1 d
  fresh:=h.fresh
  glob:=λg l hl=>(h.glob g l hl).step hS hk'
  keep:=h.keep.then hk (λx hx e=>by
   subst e;rcases h.own i ob x C ho hb with h1|h1
   .exact h1
   .omega)
  old:=h.old
  pin:=h.pin}
theorem RelB.writeX{P:Program}{cx:Cx}{st:St}{a:Act}{w w':World}{β:Bm}(h:RelB P cx st a w β){i:Nat}{ob:Ob}{b:Nat}{x:Xob}{o0:Obj}(ho:ag st.σ i=some ob)(hb:β i=some (some (b,0)))(hk:Keeps (λk=>k=b) w w')(f:w'.heap[b]?=some o0)(hr:XO β (Av cx.S0 β st.σ) w x o0):
  RelB P cx {st with σ:=(i,some ⟨ob.t,[],some x⟩)::st.σ} a w' β:=by
 have hg:∀(j:Nat) o,ag ((i,some ⟨ob.t,[],some x⟩)::st.σ) j=some o->∃m,ag st.σ j=some m:=by
  intro j o hj;rw[am] at hj;split at hj
  .subst_vars;exact⟨_,ho⟩
  .exact⟨o,hj⟩
 have hS:∀c,c<w.heap.size->Av cx.S0 β ((i,some ⟨ob.t,[],some x⟩)::st.σ) c->Av cx.S0 β st.σ c:=by
  rintro c _ (hx|⟨j,o,D,hj,hx⟩)
  .exact .inl hx
  .obtain⟨m,h1⟩:=hg j o hj;exact .inr ⟨j,m,D,h1,hx⟩
 have hk':Keeps (Av cx.S0 β st.σ) w w':=hk.mono λx _ e=>by subst e;exact .inr ⟨i,ob,0,ho,hb⟩
 exact{
  size:=h.size
  defers:=h.defers.keep hk (λD hD e=>by subst e;exact h.not_marks ho hb hD)
  loose:=h.loose
  rnd:=h.rnd
  fr:=λj=>(h.fr j).step (λ_ _ x=>x) hS hk'
  ob:=λj o hj=>by
   have hj':ag ((i,some ⟨ob.t,[],some x⟩)::st.σ) j=some o:=hj;rw[am] at hj';by_cases e:i=j
   .subst e;rw[if_pos rfl] at hj';cases hj';exact .inr (.inl ⟨b,x,o0,rfl,rfl,hb,f,hr.step (λ_ _ x=>x) hS hk'⟩)
   .rw[if_neg e] at hj';exact(h.ob j o hj').step (λ_ _ x=>x) hS hk' (λc D hb'=>hk.block c (h.lt hj' hb') (λx=>e (by subst x;exact h.inj i j ob o c 0 D ho hj' hb hb')))
  inj:=λx y o m c C' D hx hy d n=>by obtain⟨o1,h1⟩:=hg x o hx;obtain⟨p,h2⟩:=hg y m hy;exact h.inj x y o1 p c C' D h1 h2 d n
  own:=λx o c C' hx d=>by obtain⟨o1,h1⟩:=hg x o hx;exact h.own x o1 c C' h1 d
  sep:=λx o c C' hx d=>by obtain⟨o1,h1⟩:=hg x o hx;exact h.sep x o1 c C' h1 d
  fresh:=h.fresh
  glob:=λg l hl=>(h.glob g l hl).step hS hk'
  keep:=h.keep.then hk (λx hx e=>by
   subst e;rcases h.own i ob _ 0 ho hb with h1|h1
   .exact h1
   .omega)
  old:=h.old
  pin:=h.pin}
def g8(a:List Nat)(w:World):World:=a.foldl (λw D=>w.putObj D (.deferred none)) w
theorem tG:∀(ds:List Nat) (w:World),(g8 ds w).drawn=w.drawn
 |[],w=>rfl
 |D::ds,w=>(tG ds (w.putObj D (.deferred none))).trans rfl
theorem wj:∀(ds:List Nat) (w:World),(g8 ds w).heap.size=w.heap.size/\(g8 ds w).os=w.os/\(g8 ds w).tape=w.tape/\(g8 ds w).output=w.output/\∀k,k∉ds->(g8 ds w).heap[k]?=w.heap[k]?
 |[],w=>⟨rfl,rfl,rfl,rfl,λ_ _=>rfl⟩
 |D::ds,w=>by obtain⟨h1,h2,h3,h4,h5⟩:=wj ds (w.putObj D (.deferred none));refine⟨h1.trans aC,h2,h3,h4,λk hk=>?_⟩;simp only[List.mem_cons,not_or] at hk;exact(h5 k hk.2).trans (World.putObj_heap_other hk.1)
theorem RelB.shut{P:Program}{cx:Cx}{st:St}{a:Act}{w:World}{β:Bm}(h:RelB P cx st a w β){ds:List Nat}(d:∀D∈ds,cx.w0.heap.size<=D/\w.heap[D]?=some (.deferred (some []))):RelB P cx st {a with defers:=[]} (g8 ds w) β:=by
 obtain⟨s1,s2,s3,f,e⟩:=wj ds w;have hck0:w.heap.size<=(g8 ds w).heap.size/\∀{b o u},b<w.heap.size->¬Av cx.S0 β st.σ b->w.cell? ⟨b,o,none⟩=some u->(g8 ds w).cell? ⟨b,o,none⟩=some u:=by
  refine⟨Nat.le_of_eq s1.symm,λ{b o u} hb hs hc=>?_⟩;have hn:b∉ds:=λhD=>by have:=(d b hD).2;simp[World.cell?,this] at hc
  unfold World.cell? at hc⊢;simp only[e b hn];exact hc
 have hck:CellKeeps (Av cx.S0 β st.σ) w (g8 ds w):=⟨hck0.1,hck0.2,λ{b ents c} hb hs ho=>(e b λhD=>by have:=(d b hD).2;rw[ho] at this;cases this).trans ho⟩;have hob:∀i o b C,ag st.σ i=some o->β i=some (some (b,C))->(g8 ds w).heap[b]?=w.heap[b]? :=λi o b C ho hb=>e b λhD=>h.not_marks ho hb (d b hD).2;exact{h with
  size:=h.size
  defers:= .nil rfl
  fr:=λi=>(h.fr i).stepC (λ_ _ x=>x) (λ_ _ x=>x) hck
  ob:=λi o ho=>(h.ob i o ho).stepC (λ_ _ x=>x) (λ_ _ x=>x) hck (λb C hb=>hob i o b C ho hb)
  glob:=λg l hl=>(h.glob g l hl).stepC (λ_ _ x=>x) hck
  keep:=⟨s2.trans h.keep.os,s3.trans h.keep.tape,f.trans h.keep.output,by rw[s1];exact h.keep.size,λk hk hB=>(e k (λhD=>by have:=(d k hD).1;omega)).trans (h.keep.block k hk hB),by rw[tG];exact h.keep.drawn⟩}
section
variable {P:Program}
theorem lP:Loose Fence.wide:=⟨λ_=>trivial,rfl,rfl⟩
theorem Loose.room{F:Fence}(h:Loose F)(n:Nat):F.room n:=λd hd=>by rw[h.depth] at hd;cases hd
theorem Loose.fenced{F:Fence}(h:Loose F)(m:Machine):m.fenced P F:=λg _=>⟨(λha=>by rw[h.alive] at ha;cases ha),.inl (h.fn _),λ_ _=>h.fn _,h.room _⟩
theorem Loose.some{F:Fence}(h:Loose F){n:Nat}(hs:F.depth.isSome=true):1<=n:=by rw[h.depth] at hs;cases hs
theorem Loose.steps{F:Fence}(h:Loose F){m m':Machine}(hs:Steps P m m'):StepsIn (Machine.fenced P F) P m m':=(StepsIn.of_steps hs).mono λm _=>h.fenced m
theorem Loose.calls{F:Fence}(hL:Loose F){n:Nat}{f:FuncId}{args:Array Value}{w:World}{R:Ending->World->Prop}(h:Calls P f args w R):CallsIn F n P f args w R:=
 ⟨hL.fn f,λb _=>by
  obtain⟨e,w',fr,a,hc,hf,hl⟩:=h b;refine⟨e,w',fr,a,?_,hf,hl⟩;cases e with
  |returned v=>exact hL.steps hc
  |panicked ch=>exact hL.steps hc
  |outgrown=>exact hc⟩
theorem Loose.rows{F:Fence}(hL:Loose F){n:Nat}{row:String}{args:Array Value}{w:World}{R:Value->World->Prop}(h:Rows P row args w R):RowsIn F n P row args w R:=λc b _=>by obtain⟨v,w',a,hc⟩:=h c b;exact⟨v,w',a,hL.steps hc⟩
theorem Loose.oper{F:Fence}(hL:Loose F){n:Nat}{o:Oper}(hd:∀c,o.op≠ .defer c){a:Act}{w:World}{K:Act->World->Prop}{R:Exit->Act->World->Prop}(h:o.wp P a w K R):o.wpIn F n P a w K R:=by
 refine⟨λf _=>hL.fn f,?_⟩;have hs:o.semAt F.round a.eval=execOp a.eval o:=by
  cases F.round with
  |none=>rfl
  |some l=>exact Oper.semAt_some l _ _ hd
 rw[hs];unfold Oper.wp Oper.upon at h;unfold Oper.uponIn;revert h;generalize (execOp a.eval o).run P w=r;intro h;split at h
 .exact h
 .exact h
 .exact h
 .exact⟨hL.some,(hL.calls h).mono λe w' hq=>by cases e<;>exact hq⟩
 .exact⟨hL.some,hL.rows h⟩
 .exact h
 .exact h.elim
def Tr(P:Program)(c:Code)(st:St)(Q:Exit->St->Prop):Prop:=
 ∀cx a w R,mh P cx st a w->(∀x st' b w',Q x st'->mh P cx st' b w'->R x b w')->c.wpIn cx.F cx.nn P R a w
def Le(P:Program)(st st':St):Prop:=∀cx a w,mh P cx st a w->mh P cx st' a w
theorem Le.refl(st:St):Le P st st:=λ_ _ _ h=>h
theorem Le.trans{a b c:St}(h:Le P a b)(k:Le P b c):Le P a c:=λcx x w r=>k cx x w (h cx x w r)
theorem Tr.le{c:Code}{st st':St}{Q:Exit->St->Prop}(h:Tr P c st' Q)(l:Le P st st'):Tr P c st Q:=λcx a w R r k=>h cx a w R (l cx a w r) k
theorem Tr.mono{c:Code}{st:St}{Q Q':Exit->St->Prop}(h:Tr P c st Q)(hq:∀x s,Q x s->Q' x s):Tr P c st Q':=λcx a w R r k=>h cx a w R r λx s b w' q=>k x s b w' (hq x s q)
theorem Fy{st:St}{Q:Exit->St->Prop}(h:Q .normal st):Tr P .skip st Q:=λ_ a w _ r k=>wpIn_skip (k _ _ a w h r)
theorem HJ{l:Nat}{st:St}{Q:Exit->St->Prop}(h:Q .normal st):Tr P (.label l) st Q:=λ_ a w _ r k=>wpIn_label (k _ _ a w h r)
theorem Fz{st:St}{Q:Exit->St->Prop}(h:Q (.exit id) st):Tr P (.exit id) st Q:=λ_ a w _ r k=>wpIn_exit (k _ _ a w h r)
theorem PW{st:St}{Q:Exit->St->Prop}(h:Q .ret st):Tr P .ret st Q:=λ_ a w _ r k=>wpIn_ret (k _ _ a w h r)
def uE(K:St->Prop)(Q:Exit->St->Prop):Exit->St->Prop
 | .normal,st=>K st
 |e,st=>Q e st
theorem BH{x y:Code}{st:St}{Q:Exit->St->Prop}(h:Tr P x st (uE (λs=>Tr P y s Q) Q)):Tr P (.seq x y) st Q:=λcx a w R r k=>
 wpIn_seq (h cx a w _ r λe s b w' q r'=>by
  cases e with
  |normal=>exact q cx b w' R r' k
  |_=>exact k _ s b w' q r')
theorem zA{F:Fence}{Q:Exit->Act->World->Prop}(I:Nat->Act->World->Prop)(g:Nat)(i:I g a w)
  (b:∀m a w,I m a w->c.wpIn F n P (Exit.then (λf w'=>∃d,d<m/\I d f w') Q) a w):(Code.loop c).wpIn F n P Q a w:=by
 have key:∀a w,(∃n,I n a w)->I (leastOf λn=>I n a w) a w:=λa w h=>(leastOf_spec h).1
 refine wpIn_loop (λa w=>∃n,I n a w) (λa w=>leastOf λn=>I n a w) ⟨g,i⟩ λa w h=>?_
 refine wpIn_mono (b _ a w (key a w h)) λe f w' q=>?_
 cases e with
 |normal=>
  obtain⟨d,hm,hI⟩:=q
  exact⟨⟨d,hI⟩,Nat.lt_of_le_of_lt ((leastOf_spec (p:=λn=>I n f w') ⟨d,hI⟩).2 d hI) hm⟩
 |_=>exact q
def pu(id:Nat)(Q:Exit->St->Prop):Exit->St->Prop
 | .exit id',st=>if id'=id then Q .normal st else Q (.exit id') st
 |e,st=>Q e st
theorem BI{st:St}{Q:Exit->St->Prop}(h:Tr P c st (pu id Q)):Tr P (.block id c) st Q:=λcx a w R r k=>
 wpIn_block (h cx a w _ r λe s b w' q r'=>by
  cases e with
  |exit id'=>
   simp only[pu] at q;simp only[Exit.inBlock];split
   .subst_vars;rw[if_pos rfl] at q;exact k _ s b w' q r'
   .rename_i hne;rw[if_neg hne] at q;exact k _ s b w' q r'
  |_=>exact k _ s b w' q r')
theorem L4{ι:Type}(S:ι->St)(μ:ι->Nat)(d:ι){st:St}{Q:Exit->St->Prop}(h0:Le P st (S d))
  (b:∀i,Tr P c (S i) (uE (λs=>∃j,Le P s (S j)/\μ j<μ i) Q)):Tr P (.loop c) st Q:=λcx a w R r k=>
 zA (λn a w=>∃i,μ i=n/\mh P cx (S i) a w) (μ d) ⟨d,rfl,h0 cx a w r⟩ λn a1 g ⟨i,hi,ri⟩=>
  b i cx a1 g _ ri λe s f w' q r'=>by
   cases e with
   |normal=>obtain⟨j,hj,hlt⟩:=q;exact⟨μ j,aa,j,rfl,hj cx f w' r'⟩
   |_=>exact k _ s f w' q r'
def db:Value->G
 | .agg cs=>if cs.toList.all Value.oneCell' then .agg (cs.toList.map .lit) else .lit (.agg cs)
 |v=> .lit v
def aB(st:St):Operand->G
 | .tmp t=>aD st.fr t
 | .const v=>db v
 | .global g=>match st.gl.lookup g with|some l=> .ptr l 0|none=> .junk
 | .func f=> .clo (.func f) [] []
theorem IV.glit(S:Nat->Prop)(w:World)(v:Value):IV S w (db v) v:=by
 unfold db;split
 .rename_i a;split
  .rename_i h;refine .agg _ _ aC (λi u hu=>?_) (λi g u hg hu=>?_)
   .exact List.all_eq_true.1 h u (bO (by simpa using hu))
   .rw[List.getElem?_map] at hg;rw[<-Array.getElem?_toList] at hu;rw[hu] at hg;simp at hg;subst hg;exact .lit u
  .exact .lit _
 .exact .lit _
theorem RelB.ev{cx:Cx}{st:St}{a:Act}{w:World}{β:Bm}(h:RelB P cx st a w β)(x:Operand):RV β (Av cx.S0 β st.σ) w (aB st x) (a.eval x):=by
 cases x with
 |tmp t=>exact h.fr t
 |const v=>exact .imm _ _ (.glit _ _ v)
 |global g=>
  simp only[aB];split
  .rename_i l hl;exact .imm _ _ (h.glob g l hl)
  .exact .junk _
 |func f=>exact .imm _ _ (.clo _ _ _ _ _ rfl rfl aC aC)
theorem RV.lit_eq{β:Bm}{S:Nat->Prop}{w:World}{u v:Value}(h:RV β S w (.lit u) v):v=u:=by
 cases h with
 |imm _ _ h=>cases h;rfl
theorem wk{c:Operand}{x y:Code}{t:Bool}{st:St}{Q:Exit->St->Prop}(hc:aB st c= .lit (.bool t))(h:Tr P (if t then x else y) st Q):Tr P (.cond c x y) st Q:=λcx a w R ⟨β,r⟩ k=>
 wpIn_cond (t:=t) (by have:=r.ev c;rw[hc] at this;exact this.lit_eq) (h cx a w R ⟨β,r⟩ k)
def GS(P:Program)(o:Oper)(st st':St):Prop:=∀cx a w K R,mh P cx st a w->(∀b w',mh P cx st' b w'->K b w')->o.wpIn cx.F cx.nn P a w K R
def ce(st:St)(ops:Array Oper)(o:Oper):Option Bool:=
 match o.guard with
 |none=>some true
 |some (j,want)=>match(ops[j]?).bind (·.dst) with
  |some d=>match aD st.fr d with
   | .lit (.bool b)=>some (b==want)
   | .lit _=>some false
   |_=>none
  |none=>some false
def D8(P:Program)(ops:Array Oper)(K:St->Prop):List Oper->St->Prop
 |[],st=>K st
 |o::rest,st=>(ce st ops o=some true/\∃a,GS P o st a/\D8 P ops K rest a)\/(ce st ops o=some false/\(∀d,o.dst=some d->d<st.n)/\D8 P ops K rest (st.put o.dst (.lit undef)))
theorem cT{cx:Cx}{st:St}{β:Bm}(h:RelB P cx st a w β){ops:Array Oper}{t:Bool}(hw:ce st ops o=some t):Region.wanted o (yielded ops a.tmps)=t:=by
 unfold ce at hw;unfold Region.wanted;cases hg:o.guard with
 |none=>rw[hg] at hw;simp at hw;simp[hw]
 |some x=>
  obtain⟨j,c⟩:=x;simp only[hg] at hw;simp only[yielded];cases hd:(ops[j]?).bind (·.dst) with
  |none=>rw[hd] at hw;simp at hw;subst hw;simp
  |some d=>
   rw[hd] at hw;simp only at hw;have hf:=h.fr d;cases hv:aD st.fr d with
   |lit v=>
    rw[hv] at hw hf;have hx:=hf.lit_eq;cases v with
    |bool b=>
     simp only[bg] at hw;have:a.tmps[d]?=some (.bool b):=by
      rw[Array.getD_eq_getD_getElem?] at hx;cases he:a.tmps[d]? with
      |none=>rw[he] at hx;simp[undef] at hx
      |some u=>rw[he] at hx;simp at hx;rw[hx]
     simp[this,<-hw]
    |_=>
     simp only[bg] at hw;subst hw;rw[Array.getD_eq_getD_getElem?] at hx;cases he:a.tmps[d]? with
     |none=>simp[he]
     |some u=>rw[he] at hx;simp only[Option.getD_some] at hx;subst hx;simp[he]
   |_=>rw[hv] at hw;simp at hw
theorem xK{ops:Array Oper}{K:St->Prop}{cx:Cx}{Q:Exit->Act->World->Prop}(d:∀st a w,K st->mh P cx st a w->Q .normal a w):∀(l:List Oper) (st:St) (a:Act) (w:World),D8 P ops K l st->mh P cx st a w->wpListIn cx.F cx.nn P ops Q l a w
 |[],st,a,w,h,r=>wpListIn_nil (d st a w h r)
 |o::rest,st,a,w,h,r=>by
  obtain⟨β,c⟩:=r;rcases h with⟨hg,e,hs,hr⟩|⟨hg,hd,hr⟩
  .refine wpListIn_step λK' b=>?_;rw[if_pos (cT c hg)];exact hs cx a w K' Q ⟨β,c⟩ λg w' r'=>b _ _ (xK d rest e g w' hr r')
  .refine wpListIn_step λK' b=>?_;rw[if_neg (by rw[cT c hg];simp)];exact⟨λf _=>c.loose.fn f,b _ _ (xK d rest _ _ w hr ⟨β,c.put o.dst hd (.imm _ _ (.lit _))⟩)⟩
theorem D9{id:Nat}{l:List Oper}{st:St}{Q:Exit->St->Prop}(h:D8 P l.toArray (Q .normal) l st):Tr P (.region id l.toArray false) st Q:=λcx a w R r k=>
 wpIn_region_lit (xK (λst' b w' q r'=>k _ st' b w' q r') l st a w h r)
theorem wm{K:St->Prop}{Q:Exit->St->Prop}{st:St}(h:K st):uE K Q .normal st:=h
theorem PX{Q:Exit->St->Prop}{st:St}(h:Q .normal st):pu id Q (.exit id) st:=by simp only[pu,if_true];exact h
theorem PY{Q:Exit->St->Prop}{st:St}(hi:i≠id)(h:Q (.exit i) st):pu id Q (.exit i) st:=by simp only[pu,if_neg hi];exact h
theorem wn{F:Fence}{n:Nat}{fn:Func}{tmps:Array Value}{R:Ending->World->Prop}:∀(ds:List Nat) (w:World),(∀D∈ds,w.heap[D]?=some (.deferred (some [])))->ds.Nodup->LeavesInM F n P fn tmps R [] .returning (g8 ds w)->LeavesInM F n P fn tmps R (ds.map rp) .returning w
 |[],w,_,_,h=>h
 |D::ds,w,hd,hn,h=>by obtain⟨n1,n2⟩:=List.nodup_cons.1 hn;refine⟨aC,.inl ⟨D,_,rfl,run_takeDeferred (hd D aC),?_⟩⟩;refine wn ds _ (λD' hD'=>?_) n2 h;rw[World.putObj_heap_other (λe=>n1 (by subst e;exact hD'))];exact hd D' (by simp[hD'])
theorem rq{body:Code}{args:Array Value}{R:Ending->World->Prop}{cx:Cx}{st:St}{Q:Exit->St->Prop}(b:P.funcs[fid]?=some fn)(hb:fn.body=some body)(hT:Tr P body st Q)(hF:cx.F=Fence.wide)(c:cx.nn=9)(hr:mh P cx st {tmps:=args++Array.replicate (fn.ntmps-args.size) undef,defers:=[]} w)
  (d:∀e s a w',Q e s->mh P cx s a w'->(e= .normal\/e= .ret)/\∃v,(results fn a.tmps).run P w'= .ok v w'/\R (.returned v) w'):Calls P fid args w R:=by
 refine callsIn_wide.1 (callsIn_of_wp_marks b hb trivial (n:=9) ?_ rfl)
 have h:=hT cx _ w (bodyPostM Fence.wide 9 P fn R) hr λe s a w' hq ⟨β,h'⟩=>by
  obtain⟨g,d1,d2,d3⟩:=h'.defers;obtain⟨he,v,hv,f⟩:=d e s _ _ hq ⟨β,h'.shut d3⟩;have key:LeavesInM Fence.wide 9 P fn a.tmps R a.defers .returning w':=by rw[d1];exact wn g w' (λD hD=>(d3 D hD).2) d2 ⟨v,hv,f⟩
  rcases he with rfl|rfl<;>exact key
 rw[hF,c] at h
 exact h
attribute [irreducible] uE pu
end
section
variable {P:Program}
def bt{α:Type}(p:Program):Sem α->Option α
 | .pure a=>some a
 | .program k=>bt p (k p)
 |_=>none
theorem oh{α:Type}{p:Program}:∀{s:Sem α} {a:α},bt p s=some a->∀w,s.run p w= .ok a w
 | .pure b,a,h,w=>by simp[bt] at h;subst h;rfl
 | .program k,a,h,w=>by simp only[bt] at h;exact oh (s:=k p) h w
 | .load ..,a,h,w| .store ..,a,h,w| .new ..,a,h,w| .shape ..,a,h,w| .freeze ..,a,h,w| .frozen ..,a,h,w| .getObj ..,a,h,w| .setObj ..,a,h,w
 | .choose ..,a,h,w| .sys ..,a,h,w| .mark ..,a,h,w| .halt ..,a,h,w=>by simp[bt] at h
def rt:List G->Option (List Value)
 |[]=>some []
 | .lit v::r=>(rt r).map (v::·)
 |_::_=>none
def cD:G->Option Value
 | .lit v=>some v
 | .agg l=>(rt l).map λus=> .agg us.toArray
 | .clo fn [] []=>some (.func fn #[] #[])
 |_=>none
theorem BJ:∀{l:List G} {us:List Value},rt l=some us->us.length=l.length/\∀(i:Nat) (g:G),l[i]?=some g->∃u,us[i]?=some u/\g= .lit u
 |[],us,h=>by simp[rt] at h;subst h;simp
 |g::r,us,h=>by
  cases g with
  |lit v=>
   simp only[rt,cn] at h;obtain⟨a,h',rfl⟩:=h;obtain⟨h1,h2⟩:=BJ h';refine⟨by simp[h1],λi g hg=>?_⟩;cases i with
   |zero=>simp at hg;subst hg;exact⟨v,rfl,rfl⟩
   |succ i=>simpa using h2 i g (by simpa using hg)
  |_=>simp[rt] at h
theorem RV.arr{β:Bm}{S:Nat->Prop}{w:World}{l:List G}{us:List Value}(hl:rt l=some us){xs:Array Value}(hs:xs.size=l.length)(h:∀(i:Nat) (g:G) (u:Value),l[i]?=some g->xs[i]?=some u->RV β S w g u):xs=us.toArray:=by obtain⟨h1,h2⟩:=BJ hl;apply Array.ext (by simp[hs,h1]);intro i hi hi';have hl:i<l.length:=aa;obtain⟨u,hu,hg⟩:=h2 i l[i] (cv hl);have:=h i l[i] xs[i] (cv hl) (by simp[hi]);rw[hg] at this;have e:=this.lit_eq;rw[e];simp at hi';simp[cv hi'] at hu;simp[hu]
theorem RV.val{β:Bm}{S:Nat->Prop}{w:World}{g:G}{u v:Value}(hg:cD g=some u)(h:RV β S w g v):v=u:=by
 cases g with
 |lit x=>simp[cD] at hg;subst hg;exact h.lit_eq
 |agg l=>
  simp only[cD,cn] at hg;obtain⟨us,hl,rfl⟩:=hg;cases h with
  |imm _ _ h=>
   cases h with
   |agg _ xs hs h1 h=>rw[RV.arr (β:=λ_=>none) (S:=S) (w:=w) hl hs (λi g u a b=> .imm _ _ (h i g u a b))]
  |agg _ xs hs h1 h=>rw[RV.arr hl hs h]
 |clo fn f c=>
  cases f with
  |cons _ _=>simp[cD] at hg
  |nil=>
   cases c with
   |cons _ _=>simp[cD] at hg
   |nil=>
    simp[cD] at hg;subst hg;cases h with
    |imm _ _ h=>
     cases h with
     |clo _ _ _ fs cs hf hc _ _=>have e1:fs= #[]:=Array.eq_empty_of_size_eq_zero (by simpa using hf);have e2:cs= #[]:=Array.eq_empty_of_size_eq_zero (by simpa using hc);rw[e1,e2]
    |clo _ _ _ fs cs hf hc _ _=>have e1:fs= #[]:=Array.eq_empty_of_size_eq_zero (by simpa using hf);have e2:cs= #[]:=Array.eq_empty_of_size_eq_zero (by simpa using hc);rw[e1,e2]
 |_=>simp[cD] at hg
def gJ(P:Program)(ρ:Operand->G)(o:Oper):Option G:=
 if o.op.operands.all (λx=>(cD (ρ x)).isSome) then
  match bt P (execOp (λx=>(cD (ρ x)).getD undef) o) with
  |some (.value v)=>some (db v)
  |_=>none
 else none
def fg(P:Program)(t:TypeId):Option Bool:=(P.underlying t).map fun| .struct _| .array _ _=>true|_=>false
def dp(P:Program)(t:TypeId):Option TypeId:=(P.underlying t).bind fun| .slice e=>some e|_=>none
def ND(P:Program)(t:TypeId):Option (Nat×TypeId):=(P.underlying t).bind fun| .array n e=>some (n,e)|_=>none
def bw(P:Program)(t:TypeId):Option Nat:=(P.info? t).map (·.size)
def ru(P:Program)(t:TypeId)(k:Nat):Option (Nat×TypeId):=(P.underlying t).bind fun| .struct fs=>fs[k]?.map (λf=>(f.offset,f.type))|_=>none
def dN(P:Program)(t:TypeId)(l:List G)(o:Nat):Option G:=
 match fg P t,bw P t with
 |some true,some n=>if o+n<=l.length then some (.agg ((l.drop o).take n)) else none
 |some false,_=>l[o]?
 |_,_=>none
def jU(P:Program)(σ:aQ)(t:TypeId):G->Option G
 | .ref i o=>(ag σ i).bind λob=>dN P t ob.l o
 | .ptr l o=>dN P t l o
 |_=>none
def wo(k:Nat):G->Option G
 | .ref i o=>some (.ref i (o+k))
 | .ptr l o=>some (.ptr l (o+k))
 |_=>none
def xL:G->Option Int
 | .lit (.int _ n)=>some n
 |_=>none
def fh(P:Program)(t:TypeId)(x:G)(i:Int):Option G:=
 match x,dp P t,ND P t with
 | .sl l n,some e,_=>(bw P e).bind λs=>if 0<=i/\i<n/\i.toNat*s<l.length then some (.ptr l (i.toNat*s)) else none
 | .rsl j o n,some e,_=>(bw P e).bind λs=>if 0<=i/\i<n then some (.ref j (o+i.toNat*s)) else none
 |x,none,some (n,e)=>(bw P e).bind λs=>if 0<=i/\i<n then wo (i.toNat*s) x else none
 |_,_,_=>none
def ig(P:Program)(t:TypeId)(x:G)(lo hi:Option Int):Option G:=
 match x,dp P t with
 | .sl l n,some e=>(bw P e).bind λs=>match lo,hi with
  |none,none=>some (.sl l n)
  |none,some h=>if 0<=h/\h<=n then some (.sl (l.take (h.toNat*s)) h.toNat) else none
  |some a,none=>if 0<=a/\a<=n/\l.length<=n*s then some (.sl (l.drop (a.toNat*s)) (n-a.toNat)) else none
  |some a,some h=>if 0<=a/\a<=h/\h<=n then some (.sl ((l.take (h.toNat*s)).drop (a.toNat*s)) (h.toNat-a.toNat)) else none
 | .rsl i o n,some e=>(bw P e).bind λs=>if s=0 then none else match lo,hi with
  |none,none=>some (.rsl i o n)
  |none,some h=>if 0<=h/\h<=n then some (.rsl i o h.toNat) else none
  |some a,none=>if 0<=a/\a<=n then some (.rsl i (o+a.toNat*s) (n-a.toNat)) else none
  |some a,some h=>if 0<=a/\a<=h/\h<=n then some (.rsl i (o+a.toNat*s) (h.toNat-a.toNat)) else none
 |_,_=>none
def HK:G->Option Int
 | .sl _ n=>some n
 | .rsl _ _ n=>some n
 | .lit (.slice _ n _)=>some n
 |_=>none
def Ea:G->Option Bool
 | .lit (.bool b)=>some b
 |_=>none
def pv:Option G->Option (Option Int)
 |none=>some none
 |some g=>(xL g).map some
def aX(P:Program)(ρ:Operand->G)(σ:aQ)(o:Oper):Option G:=
 match o.op with
 | .move x| .assign x=>some (ρ x)
 | .pick c a b=>(Ea (ρ c)).map λt=>if t then ρ a else ρ b
 | .load t x=>jU P σ t (ρ x)
 | .nilCheck x=>match ρ x with
  | .ref i o=>some (.ref i o)
  | .ptr l o=>some (.ptr l o)
  | .clo (.func f) a b=>some (.clo (.func f) a b)
  |_=>none
 | .makeFunc fn f c=>some (.clo fn (f.map ρ).toList (c.map ρ).toList)
 | .extract x k=>match ρ x with
  | .tup l=>l[k]?
  |_=>none
 | .makeInterface t x=>(P.underlying t).bind fun| .interface _=>none|_=>some (.ifc t (ρ x))
 | .fieldAddr t x k=>(ru P t k).bind λ(off,ft)=>(bw P ft).bind λn=>if n=0 then none else wo off (ρ x)
 | .field t x k=>match ρ x with
  | .agg l=>(ru P t k).bind λ(off,ft)=>dN P ft l off
  |_=>none
 | .indexAddr t x i=>(xL (ρ i)).bind λk=>fh P t (ρ x) k
 | .index t x i=>match ρ x with
  | .agg l=>(ND P t).bind λ(n,e)=>(xL (ρ i)).bind λk=>(bw P e).bind λs=>if 0<=k/\k<n then dN P e l (k.toNat*s) else none
  |_=>gJ P ρ o
 | .slice t x lo hi none=>match ρ x with
  | .lit _=>gJ P ρ o
  |g=>(pv (lo.map ρ)).bind λa=>(pv (hi.map ρ)).bind λb=>ig P t g a b
 | .call {callee:= .builtin .len,args,argTypes}=>match args.toList,argTypes.toList with
  |[x],[t]=>if(dp P t).isSome then(HK (ρ x)).map λn=> .lit (.int .i64 n) else gJ P ρ o
  |_,_=>none
 | .call {callee:= .builtin .max,.. }| .call {callee:= .builtin .min,.. }| .binOp .. | .unOp .. | .convert .. =>gJ P ρ o
 |_=>none
end
section
variable {P:Program}
theorem sC{b:Bool}(h:fg P t=some b)(w:World):(isAgg t).run P w= .ok b w:=by simp only[fg,cn] at h;obtain⟨d,hd,rfl⟩:=h;unfold isAgg;simp only[Sem.run_bind,run_underlying hd,Result.andThen_ok];cases d<;>rfl
theorem dG(h:bw P t=some n)(w:World):(sizeOf t).run P w= .ok n w:=by simp only[bw,cn] at h;obtain⟨i,hi,rfl⟩:=h;simp[sizeOf,typeInfo,hi]
theorem rv(h:bw P t=some n):NC P t=n:=by unfold NC;unfold bw at h;rw[h];rfl
theorem fZ{cx:Cx}{st:St}{β:Bm}(h:RelB P cx st a w β)(hs:∀c b,o.op≠ .select c b){g:G}(hg:gJ P (aB st) o=some g):∃v,(execOp a.eval o).run P w= .ok (.value v) w/\RV β (Av cx.S0 β st.σ) w g v:=by
 unfold gJ at hg;split at hg
 .rename_i hall;have hc:execOp a.eval o=execOp (λx=>(cD (aB st x)).getD undef) o:=by refine execOp_congr o hs λx hx=>?_;have:=Array.all_eq_true_iff_forall_mem.1 hall x hx;obtain⟨u,hu⟩:=Option.isSome_iff_exists.1 this;rw[(h.ev x).val hu,hu];rfl
  split at hg
  .rename_i v hv;simp only[bg] at hg;subst hg;exact⟨v,by rw[hc];exact oh hv w,.imm _ _ (.glit _ _ v)⟩
  .cases hg
 .cases hg
def Cl(β:Bm)(S:Nat->Prop)(w:World)(l:List G)(b a:Nat)(us:Nat->Value):Prop:=
 (∀i,i<l.length->w.cell? ⟨b,a+i,none⟩=some (us i))/\(∀i,i<l.length->(us i).oneCell'=true)/\∀(i:Nat) (g:G),l[i]?=some g->RV β S w g (us i)
theorem BK(a:Addr):a.add 0=a:=by unfold Addr.add;simp
theorem iS(b o i:Nat):(⟨b,o,none⟩:Addr).add i=⟨b,o+i,none⟩:=by unfold Addr.add;split<;>simp_all
theorem BL{β:Bm}{S:Nat->Prop}{l:List G}{us:Nat->Value}(hc:Cl β S w l b off us){o:Nat}{g:G}(hg:dN P t l o=some g):
  ∃v,(loadVar t ⟨b,off+o,none⟩).run P w= .ok v w/\RV β S w g v:=by
 unfold dN at hg
 split at hg
 .rename_i n h1 h2
  split at hg
  .rename_i hle
   simp only[bg] at hg
   subst hg
   refine⟨.agg ((List.range n).map λi=>us (o+i)).toArray,?_,?_⟩
   .unfold loadVar
    simp only[Sem.run_bind,sC h1,Result.andThen_ok,if_true,dG h2]
    rw[run_loadCells w ⟨b,off+o,none⟩ n (λi=>us (o+i)) (λj hj=>by rw[iS,Nat.add_assoc];exact hc.1 (o+j) aa)]
    rfl
   .refine .agg _ _ cq (λi u hu=>?_) (λi g u hl hu=>?_)
    .have hi:i<n:=by have:=(Array.getElem?_eq_some_iff.1 hu).1;simpa using this
     obtain rfl:us (o+i)=u:=by simpa[hi] using hu
     exact hc.2.1 _ aa
    .have hi:i<n:=by have:=(Array.getElem?_eq_some_iff.1 hu).1;simpa using this
     obtain rfl:us (o+i)=u:=by simpa[hi] using hu
     rw[List.getElem?_take,if_pos hi,List.getElem?_drop] at hl
     exact hc.2.2 _ _ hl
  .cases hg
 .have h1:fg P t=some false:=by assumption
  have hlt:=(cr hg).1
  refine⟨us o,?_,hc.2.2 _ _ hg⟩
  unfold loadVar
  simp only[Sem.run_bind,sC h1,Result.andThen_ok]
  simp[load,Sem.run,hc.1 o hlt]
 .cases hg
theorem BM{β:Bm}{S:Nat->Prop}{l:List G}(hl:us.size=l.length)(h1:∀(i:Nat) (u:Value),us[i]?=some u->u.oneCell'=true)(h:∀(i:Nat) (g:G) (u:Value),l[i]?=some g->us[i]?=some u->RV β S w g u)
   {o:Nat} {g:G} (hg:dN P t l o=some g):∃v,(part t us o).run P w= .ok v w/\RV β S w g v:=by
 unfold dN at hg
 split at hg
 .rename_i n h2 h3
  split at hg
  .rename_i hle
   simp only[bg] at hg
   subst hg
   refine⟨.agg (us.extract o (o+n)),?_,?_⟩
   .unfold part
    simp only[Sem.run_bind,sC h2,Result.andThen_ok,if_true,dG h3]
    rfl
   .refine .agg _ _ cq (λi u hu=>?_) (λi g u hl' hu=>?_)
    .rw[Array.getElem?_extract] at hu
     split at hu
     .exact h1 _ _ hu
     .cases hu
    .rw[Array.getElem?_extract] at hu
     split at hu
     .rw[List.getElem?_take] at hl'
      split at hl'
      .rw[List.getElem?_drop] at hl'
       exact h _ _ _ hl' hu
      .cases hl'
     .cases hu
  .cases hg
 .have h2:fg P t=some false:=by assumption
  have hlt:=(cr hg).1
  have hu:us[o]?=some (us[o]'aa):=by simp[show o<us.size by omega]
  refine⟨us[o]'aa,?_,h _ _ _ hg hu⟩
  unfold part
  simp only[Sem.run_bind,sC h2,Result.andThen_ok,Bool.false_eq_true,if_false,hu]
  rfl
 .cases hg
theorem RV.ptr_cells{β:Bm}{S:Nat->Prop}{w:World}{l:List G}{o:Nat}{v:Value}(h:RV β S w (.ptr l o) v):∃b a us,v= .pointer (some ⟨b,a+o,none⟩)/\¬S b/\b<w.heap.size/\Cl β S w l b a us:=by
 cases h with
 |imm _ _ h=>
  cases h with
  |ptr _ _ b a us hs hb hc h1 h=>exact⟨b,a,us,rfl,hs,hb,hc,h1,λi g hg=> .imm _ _ (h i g hg)⟩
theorem RV.ref_addr{β:Bm}{S:Nat->Prop}{w:World}{i o:Nat}{v:Value}(h:RV β S w (.ref i o) v):∃b C,β i=some (some (b,C))/\v= .pointer (some ⟨b,o,none⟩):=by
 cases h with
 |imm _ _ h=>cases h
 |ref _ _ b C h=>exact⟨b,C,h,rfl⟩
theorem RV.mref_form{β:Bm}{S:Nat->Prop}{w:World}{i:Nat}{v:Value}(h:RV β S w (.mref i) v):∃b C,β i=some (some (b,C))/\v= .map (some b):=by
 cases h with
 |imm _ _ h=>cases h
 |mref _ b C h=>exact⟨b,C,h,rfl⟩
theorem RV.yld_form{β:Bm}{S:Nat->Prop}{w:World}{i:Nat}{v:Value}(h:RV β S w (.yld i) v):∃b C,β i=some (some (b,C))/\v= .func (.yield b) #[] #[]:=by
 cases h with
 |imm _ _ h=>cases h
 |yld _ b C h=>exact⟨b,C,h,rfl⟩
theorem RO.cells{β:Bm}{S:Nat->Prop}{w:World}{i b C:Nat}{ob:Ob}(h:RO P β S w i ob)(hb:β i=some (some (b,C))):∃us,Cl β S w ob.l b 0 us:=by
 rcases h with⟨h1,_⟩|⟨a,c,d,_,hl,_⟩|⟨a,C',cur,_,h1,h2,h3,h4,h5,h6⟩
 .rw[h1] at hb;cases hb
 .rw[hl];exact⟨λ_=>undef,λi hi=>absurd hi aC,λi hi=>absurd hi aC,λi g hg=>by simp at hg⟩
 .rw[h1] at hb;cases hb;have hu:∀i,i<ob.l.length->cur[i]?=some (cur.getD i undef):=λi hi=>by have:i<cur.size:=aa;simp[this]
  refine⟨λi=>cur.getD i undef,λi hi=>?_,λi hi=>?_,λi g hg=>?_⟩
  .rw[cell_of_row w b (0+i) cur _ _ h2,Nat.zero_add];exact hu i hi
  .obtain⟨u,hu',h1',_⟩:=h6 i _ (cv hi);rw[hu i hi] at hu';cases hu';exact h1'
  .have hi:=(cr hg).1;obtain⟨u,hu',_,hr⟩:=h6 i g hg;rw[hu i hi] at hu';cases hu';exact hr
theorem Eb{cx:Cx}{st:St}{β:Bm}(h:RelB P cx st a w β){x g:G}(hx:RV β (Av cx.S0 β st.σ) w x v)(hg:jU P st.σ t x=some g):
  ∃u,(Instr.loadAt t v).run P w= .ok u w/\RV β (Av cx.S0 β st.σ) w g u:=by
 unfold jU at hg
 split at hg
 .rename_i i o
  rw[Option.bind_eq_some_iff] at hg
  obtain⟨ob,ho,hg⟩:=hg
  obtain⟨b,C,hb,rfl⟩:=hx.ref_addr
  obtain⟨us,hc⟩:=(h.ob i ob ho).cells hb
  obtain⟨u,hu,hr⟩:=BL hc hg
  refine⟨u,?_,hr⟩
  rw[Nat.zero_add] at hu
  simpa[Instr.loadAt,Instr.sureAddr] using hu
 .rename_i l o
  obtain⟨b,c,us,rfl,hs,hb,hc⟩:=hx.ptr_cells
  obtain⟨u,hu,hr⟩:=BL hc hg
  exact⟨u,by simpa[Instr.loadAt,Instr.sureAddr] using hu,hr⟩
 .cases hg
theorem Ec{β:Bm}{S:Nat->Prop}{x g:G}(hx:RV β S w x v)(hg:wo k x=some g):∃a,v= .pointer (some a)/\RV β S w g (.pointer (some (a.add k))):=by
 cases x with
 |ref i o=>simp[wo] at hg;subst hg;obtain⟨b,C,hb,rfl⟩:=hx.ref_addr;exact⟨_,rfl,by rw[iS];exact .ref _ _ b C hb⟩
 |ptr l o=>
  simp[wo] at hg;subst hg;cases hx with
  |imm _ _ h=>
   cases h with
   |ptr _ _ b off us hs hb hc h1 h=>exact⟨_,rfl,by rw[iS,Nat.add_assoc];exact .imm _ _ (.ptr l (o+k) b off us hs hb hc h1 h)⟩
 |_=>simp[wo] at hg
theorem ol{β:Bm}{S:Nat->Prop}{x:G}{n:Int}(hx:RV β S w x v)(hg:xL x=some n):∃k,v= .int k n:=by
 cases x with
 |lit u=>
  cases u with
  |int k m=>simp[xL] at hg;subst hg;exact⟨k,hx.lit_eq⟩
  |_=>simp[xL] at hg
 |_=>simp[xL] at hg
theorem cE(h:dp P t=some e):P.underlying t=some (.slice e):=by simp only[dp,Option.bind_eq_some_iff] at h;obtain⟨d,hd,h⟩:=h;cases d<;>simp at h;subst h;exact hd
theorem xM(h:ND P t=some (n,e)):P.underlying t=some (.array n e):=by simp only[ND,Option.bind_eq_some_iff] at h;obtain⟨d,hd,h⟩:=h;cases d<;>simp at h;obtain⟨rfl,rfl⟩:=h;exact hd
theorem yO{ft:TypeId}(h:ru P t k=some (off,ft)):∃fs f,P.underlying t=some (.struct fs)/\fs[k]?=some f/\f.offset=off/\f.type=ft:=by simp only[ru,Option.bind_eq_some_iff] at h;obtain⟨d,hd,h⟩:=h;cases d<;>simp at h;obtain⟨f,hf,h1,h2⟩:=h;exact⟨_,f,hd,by simpa using hf,h1,h2⟩
theorem RV.sl_cells{β:Bm}{S:Nat->Prop}{w:World}{l:List G}{n:Nat}{v:Value}(h:RV β S w (.sl l n) v):∃(a:Option Addr) (cap:Nat) (us:Nat->Value),v= .slice a n cap/\n<=cap/\cap<=maxLen/\(∀i,i<l.length->∃b c,a=some ⟨b,c,none⟩/\¬S b/\b<w.heap.size/\w.cell? ⟨b,c+i,none⟩=some (us i))/\(∀i,i<l.length->(us i).oneCell'=true)/\∀(i:Nat) (g:G),l[i]?=some g->IV S w g (us i):=by
 cases h with
 |imm _ _ h=>
  cases h with
  |sl _ _ a cap us hn hm ha h1 h=>exact⟨a,cap,us,rfl,hn,hm,ha,h1,h⟩
theorem RV.rsl_form{β:Bm}{S:Nat->Prop}{w:World}{i o n:Nat}{v:Value}(h:RV β S w (.rsl i o n) v):
  (β i≠none/\v= .slice none 0 0/\n=0)\/∃b C a cap,β i=some (some (b,C))/\v= .slice (some ⟨b,a,none⟩) n cap/\n<=cap/\cap<=maxLen/\(cap≠0->a=o)/\(o=0->cap=C/\a=0):=by
 cases h with
 |imm _ _ h=>cases h
 |rsl0 _ _ h=>exact .inl ⟨h,rfl,rfl⟩
 |rsl _ _ _ b C a cap h hn hm ho hC=>exact .inr ⟨b,C,a,cap,h,rfl,hn,hm,ho,hC⟩
theorem J2{β:Bm}{S:Nat->Prop}{x g:G}{i:Int}{k:IntKind}(hx:RV β S w x v)(hg:fh P t x i=some g):∃u,(Instr.indexAt t v (.int k i)).run P w= .ok u w/\RV β S w g u:=by
 unfold fh at hg;split at hg
 .rename_i l n e he;have ht:=cE he;rw[Option.bind_eq_some_iff] at hg;obtain⟨s,hs,hg⟩:=hg;split at hg
  .rename_i hb;obtain⟨h0,hn,hl⟩:=hb;simp only[bg] at hg;subst hg;obtain⟨a,cap,us,rfl,d,hm,ha,h1,h⟩:=hx.sl_cells;obtain⟨b,c,rfl,hS,hlt,_⟩:=ha 0 aa;refine⟨.pointer (some ⟨b,c+i.toNat*s,none⟩),?_,.imm _ _ (.ptr l _ b c us hS hlt (λi hi=>?_) h1 h)⟩
   .simp[Instr.indexAt,asIntOf,run_underlying ht,h0,hn,dG hs,iS]
   .obtain⟨q,f,e',_,_,hc⟩:=ha i hi;cases e';exact hc
  .cases hg
 .rename_i j o n e he;have ht:=cE he;rw[Option.bind_eq_some_iff] at hg;obtain⟨s,hs,hg⟩:=hg;split at hg
  .rename_i hb;obtain⟨h0,hn⟩:=hb;simp only[bg] at hg;subst hg;rcases hx.rsl_form with⟨_,_,rfl⟩|⟨b,C,m,cap,hbt,rfl,d,hm,ho,hC⟩
   .omega
   .have:m=o:=ho aa;subst this;refine⟨.pointer (some ⟨b,m+i.toNat*s,none⟩),?_,.ref _ _ b C hbt⟩;simp[Instr.indexAt,asIntOf,run_underlying ht,h0,hn,dG hs,iS]
  .cases hg
 .rename_i x n e p he;have ht:=xM he;rw[Option.bind_eq_some_iff] at hg;obtain⟨s,hs,hg⟩:=hg;split at hg
  .rename_i hb;obtain⟨h0,hn⟩:=hb;obtain⟨a,rfl,hr⟩:=Ec hx hg;refine⟨_,?_,hr⟩;simp[Instr.indexAt,Instr.sureAddr,asIntOf,run_underlying ht,h0,hn,dG hs]
  .cases hg
 .cases hg
theorem jp{P:Program}(x:Value)(n:Int)(y:Nat)(a:BoundsCode)(hx:∃k,x= .int k n)(h0:0<=n)(hn:n<=y)(w:World):(Instr.sliceBound x y a).run P w= .ok n.toNat w:=by obtain⟨k,rfl⟩:=hx;simp[Instr.sliceBound,asIntOf,h0,hn]
theorem sD(ht:P.underlying t=some (.slice e))(hs:bw P e=some s)(a:Option Addr)(n cap:Nat)(lo hi:Option Value)(L H:Nat)
  (hL:(lo=none/\L=0)\/∃v k,lo=some v/\v= .int k (L:Int)) (b:(hi=none/\H=n)\/∃v k,hi=some v/\v= .int k (H:Int)) (h1:L<=H) (h2:H<=cap) (w:World):
  (Instr.sliceAt t (.slice a n cap) lo hi none).run P w= .ok (.slice (if cap=L then a else a.map (·.add (L*s))) (H-L) (cap-L)) w:=by
 have e1:(Instr.sliceBounds true n cap lo hi none).run P w= .ok (L,H,cap) w:=by
  unfold Instr.sliceBounds;rcases b with⟨rfl,rfl⟩|⟨v,k,rfl,rfl⟩<;>rcases hL with⟨rfl,rfl⟩|⟨c,k',rfl,rfl⟩
  .simp
  .simp[jp (P:=P) (.int k' (L:Int)) (L:Int) H .sliceB ⟨k',rfl⟩ aa aa]
  .simp[jp (P:=P) (.int k (H:Int)) (H:Int) cap .sliceAcap ⟨k,rfl⟩ aa aa]
  .simp[jp (P:=P) (.int k (H:Int)) (H:Int) cap .sliceAcap ⟨k,rfl⟩ aa aa,jp (P:=P) (.int k' (L:Int)) (L:Int) H .sliceB ⟨k',rfl⟩ aa aa]
 unfold Instr.sliceAt
 simp only[Sem.run_bind,run_underlying ht,Result.andThen_ok]
 unfold Instr.slice
 simp only[Sem.run_bind,run_underlying ht,Result.andThen_ok,e1,dG hs]
 rfl
theorem PZ{S:Nat->Prop}{l l':List G}{n N L s:Nat}{a:Option Addr}{cap:Nat}{us:Nat->Value}(hn:N<=cap-L)(d:L<=cap)(hm:cap<=maxLen)(ha:∀i,i<l.length->∃b c,a=some ⟨b,c,none⟩/\¬S b/\b<w.heap.size/\w.cell? ⟨b,c+i,none⟩=some (us i))
  (h1:∀i,i<l.length->(us i).oneCell'=true) (h:∀(i:Nat) (g:G),l[i]?=some g->IV S w g (us i)) (hl:∀(i:Nat) (g:G),l'[i]?=some g->l[L*s+i]?=some g) (h0:cap=L->l'=[]):
  IV S w (.sl l' N) (.slice (if cap=L then a else a.map (·.add (L*s))) N (cap-L)):=by
 by_cases hc:cap=L
 .rw[h0 hc,if_pos hc]
  exact .sl [] N _ _ us hn aa aC aC aC
 .rw[if_neg hc]
  have hlt:∀i,i<l'.length->L*s+i<l.length:=λi hi=>(cr (hl i _ (cv hi))).1
  refine .sl l' N _ _ (λi=>us (L*s+i)) hn aa (λi hi=>?_) (λi hi=>h1 _ (hlt i hi)) (λi g hg=>h _ _ (hl i g hg))
  obtain⟨b,c,rfl,hS,hb,hc⟩:=ha _ (hlt i hi)
  exact⟨b,c+L*s,by simp[iS],hS,hb,by rw[Nat.add_assoc];exact hc⟩
def VF(β:Bm)(S:Nat->Prop)(w:World)(x:Option Int)(v:Option Value):Prop:=(x=none/\v=none)\/∃n u k,x=some n/\v=some u/\u= .int k n
theorem BN{β:Bm}{S:Nat->Prop}{w:World}{x:Option G}{v:Option Value}{b:Option Int}(h:∀g,x=some g->∃u,v=some u/\RV β S w g u)(hn:x=none->v=none)(hb:pv x=some b):VF β S w b v:=by
 cases x with
 |none=>simp[pv] at hb;exact .inl ⟨hb.symm,hn rfl⟩
 |some g=>simp only[pv,cn] at hb;obtain⟨n,hg,rfl⟩:=hb;obtain⟨u,hu,hr⟩:=h g rfl;obtain⟨k,hk⟩:=ol hr hg;exact .inr ⟨n,u,k,rfl,hu,hk⟩
theorem VF.lo{β:Bm}{S:Nat->Prop}{w:World}{x:Option Int}{v:Option Value}(h:VF β S w x v)(L:Nat)(h0:x=none->L=0)(h1:∀n,x=some n->(L:Int)=n):(v=none/\L=0)\/∃u k,v=some u/\u= .int k (L:Int):=by
 rcases h with⟨rfl,rfl⟩|⟨n,u,k,rfl,rfl,rfl⟩
 .exact .inl ⟨rfl,h0 rfl⟩
 .exact .inr ⟨_,k,rfl,by rw[h1 n rfl]⟩
theorem VF.hi{β:Bm}{S:Nat->Prop}{w:World}{x:Option Int}{v:Option Value}(h:VF β S w x v)(H n:Nat)(h0:x=none->H=n)(h1:∀m,x=some m->(H:Int)=m):(v=none/\H=n)\/∃u k,v=some u/\u= .int k (H:Int):=by
 rcases h with⟨rfl,rfl⟩|⟨m,u,k,rfl,rfl,rfl⟩
 .exact .inl ⟨rfl,h0 rfl⟩
 .exact .inr ⟨_,k,rfl,by rw[h1 m rfl]⟩
theorem J3{β:Bm}{S:Nat->Prop}{x g:G}{lo hi:Option Int}{vl vh:Option Value}(hx:RV β S w x v)(bl:VF β S w lo vl)(d:VF β S w hi vh)(hg:ig P t x lo hi=some g):
  ∃u,(Instr.sliceAt t v vl vh none).run P w= .ok u w/\RV β S w g u:=by
 unfold ig at hg
 split at hg
 .rename_i l n e he
  have ht:=cE he
  rw[Option.bind_eq_some_iff] at hg
  obtain⟨s,hs,hg⟩:=hg
  obtain⟨a,cap,us,rfl,hn,hm,ha,h1,h⟩:=hx.sl_cells
  have key:∀(L H:Nat) (f:List G),(lo=none->L=0)->(∀n,lo=some n->(L:Int)=n)->(hi=none->H=n)->(∀m,hi=some m->(H:Int)=m)->L<=H->H<=n->(∀(i:Nat) (g:G),f[i]?=some g->l[L*s+i]?=some g)->(H=L->f=[])->
    ∃u,(Instr.sliceAt t (.slice a n cap) vl vh none).run P w= .ok u w/\RV β S w (.sl f (H-L)) u:=by
   intro L H f a1 a2 a3 a4 a5 a6 j k
   refine⟨_,sD ht hs a n cap vl vh L H (bl.lo L a1 a2) (d.hi H n a3 a4) a5 aa w,.imm _ _ (PZ (n:=n) aa aa hm ha h1 h j (λhc=>k aa))⟩
  split at hg
  .simp only[bg] at hg
   subst hg
   refine⟨_,sD ht hs a n cap vl vh 0 n (bl.lo 0 (λ_=>rfl) aC) (d.hi n n (λ_=>rfl) aC) aa hn w,?_⟩
   have hz:(if cap=0 then a else a.map (·.add (0*s)))=a:=by
    split
    .rfl
    .cases a<;>simp[BK]
   rw[hz]
   exact hx
  .rename_i h'
   split at hg
   .rename_i hb
    simp only[bg] at hg
    subst hg
    obtain⟨u,hu,hr⟩:=key 0 h'.toNat (l.take (h'.toNat*s)) (λ_=>rfl) aC aC cq aa aa (λi g hg=>by
     rw[List.getElem?_take] at hg;split at hg
     .simpa using hg
     .cases hg) (λe=>by rw[e];simp)
    exact⟨u,hu,by simpa using hr⟩
   .cases hg
  .rename_i c
   split at hg
   .rename_i hb
    simp only[bg] at hg
    subst hg
    obtain⟨u,hu,hr⟩:=key c.toNat n (l.drop (c.toNat*s)) aC cq (λ_=>rfl) aC aa aa (λi g hg=>by rw[List.getElem?_drop] at hg;exact hg) (λe=>by rw[List.drop_eq_nil_iff,<-e];exact hb.2.2)
    exact⟨u,hu,hr⟩
   .cases hg
  .rename_i c h'
   split at hg
   .rename_i hb
    simp only[bg] at hg
    subst hg
    obtain⟨u,hu,hr⟩:=key c.toNat h'.toNat ((l.take (h'.toNat*s)).drop (c.toNat*s)) aC cq aC cq aa aa (λi g hg=>by
     rw[List.getElem?_drop,List.getElem?_take] at hg;split at hg
     .exact hg
     .cases hg) (λe=>by rw[e];simp)
    exact⟨u,hu,hr⟩
   .cases hg
 .rename_i i o n e he
  have ht:=cE he
  rw[Option.bind_eq_some_iff] at hg
  obtain⟨s,hs,hg⟩:=hg
  split at hg
  .cases hg
  rename_i hs0
  have key:∀(L H:Nat),(lo=none->L=0)->(∀n,lo=some n->(L:Int)=n)->(hi=none->H=n)->(∀m,hi=some m->(H:Int)=m)->L<=H->H<=n->
    ∃u,(Instr.sliceAt t v vl vh none).run P w= .ok u w/\RV β S w (.rsl i (o+L*s) (H-L)) u:=by
   intro L H a1 a2 a3 a4 a5 a6
   rcases hx.rsl_form with⟨hb,rfl,rfl⟩|⟨b,C,p,cap,hb,rfl,hn,hm,ho,hC⟩
   .obtain rfl:H=0:=aa
    obtain rfl:L=0:=aa
    refine⟨_,sD ht hs none 0 0 vl vh 0 0 (bl.lo 0 a1 a2) (d.hi 0 0 (λ_=>rfl) a4) aa aa w,?_⟩
    simpa using RV.rsl0 i _ hb
   .refine⟨_,sD ht hs _ n cap vl vh L H (bl.lo L a1 a2) (d.hi H n a3 a4) a5 aa w,?_⟩
    by_cases hc:cap=L
    .rw[if_pos hc]
     refine .rsl i _ _ b C p _ hb aa aa (λx=>absurd aa x) (λhz=>?_)
     have:L=0:=by
      rcases Nat.eq_zero_or_pos L with h|h
      .exact h
      .have:=Nat.mul_pos h (Nat.pos_of_ne_zero hs0);omega
     have h2:=hC aa
     omega
    .rw[if_neg hc]
     simp only[Option.map_some,iS]
     refine .rsl i _ _ b C _ _ hb aa aa (λx=>by rw[ho aa]) (λhz=>?_)
     have:L=0:=by
      rcases Nat.eq_zero_or_pos L with h|h
      .exact h
      .have:=Nat.mul_pos h (Nat.pos_of_ne_zero hs0);omega
     have h2:=hC aa
     omega
  split at hg
  .simp only[bg] at hg
   subst hg
   obtain⟨u,hu,hr⟩:=key 0 n (λ_=>rfl) aC (λ_=>rfl) aC aa aa
   exact⟨u,hu,by simpa using hr⟩
  .rename_i h'
   split at hg
   .rename_i hb
    simp only[bg] at hg
    subst hg
    obtain⟨u,hu,hr⟩:=key 0 h'.toNat (λ_=>rfl) aC aC cq aa aa
    exact⟨u,hu,by simpa using hr⟩
   .cases hg
  .rename_i c
   split at hg
   .rename_i hb
    simp only[bg] at hg
    subst hg
    exact key c.toNat n aC cq (λ_=>rfl) aC aa aa
   .cases hg
  .rename_i c h'
   split at hg
   .rename_i hb
    simp only[bg] at hg
    subst hg
    exact key c.toNat h'.toNat aC cq aC cq aa aa
   .cases hg
 .cases hg
end
section
variable {P:Program}
theorem RV.clo_form{β:Bm}{S:Nat->Prop}{w:World}{fn:Fn}{a b:List G}{v:Value}(h:RV β S w (.clo fn a b) v):∃fs c:Array Value,v= .func fn fs c/\fs.size=a.length/\c.size=b.length/\(∀(i:Nat) (g:G) (u:Value),a[i]?=some g->fs[i]?=some u->RV β S w g u)/\(∀(i:Nat) (g:G) (u:Value),b[i]?=some g->c[i]?=some u->RV β S w g u):=by
 cases h with
 |imm _ _ h=>
  cases h with
  |clo _ _ _ fs c hf hc h h'=>exact⟨fs,c,rfl,hf,hc,λi g u a b=> .imm _ _ (h i g u a b),λi g u a b=> .imm _ _ (h' i g u a b)⟩
 |clo _ _ _ fs c hf hc h h'=>exact⟨fs,c,rfl,hf,hc,h,h'⟩
theorem RV.tup_form{β:Bm}{S:Nat->Prop}{w:World}{l:List G}{v:Value}(h:RV β S w (.tup l) v):∃us:Array Value,v= .tuple us/\us.size=l.length/\(∀(i:Nat) (g:G) (u:Value),l[i]?=some g->us[i]?=some u->RV β S w g u):=by
 cases h with
 |imm _ _ h=>
  cases h with
  |tup _ us hl h=>exact⟨us,rfl,hl,λi g u a b=> .imm _ _ (h i g u a b)⟩
 |tup _ us hl h=>exact⟨us,rfl,hl,h⟩
theorem RV.agg_form{β:Bm}{S:Nat->Prop}{w:World}{l:List G}{v:Value}(h:RV β S w (.agg l) v):∃us:Array Value,v= .agg us/\us.size=l.length/\(∀(i:Nat) (u:Value),us[i]?=some u->u.oneCell'=true)/\(∀(i:Nat) (g:G) (u:Value),l[i]?=some g->us[i]?=some u->RV β S w g u):=by
 cases h with
 |imm _ _ h=>
  cases h with
  |agg _ us hl h1 h=>exact⟨us,rfl,hl,h1,λi g u a b=> .imm _ _ (h i g u a b)⟩
 |agg _ us hl h1 h=>exact⟨us,rfl,hl,h1,h⟩
theorem P0{β:Bm}{S:Nat->Prop}{x:G}{n:Int}(hx:RV β S w x v)(hg:HK x=some n)(ht:P.underlying t=some (.slice e))(ty:TypeId):(Builtin.len_ #[t] ty #[v]).run P w= .ok (.int .i64 n) w:=by
 cases x with
 |sl l m=>simp[HK] at hg;subst hg;obtain⟨a,cap,us,rfl,_⟩:=hx.sl_cells;simp[Builtin.len_,goInt,run_underlying ht]
 |rsl i o m=>simp[HK] at hg;subst hg;rcases hx.rsl_form with⟨_,rfl,rfl⟩|⟨b,C,d,cap,_,rfl,_⟩<;>simp[Builtin.len_,goInt,run_underlying ht]
 |lit u=>
  cases u with
  |slice a k c=>simp[HK] at hg;subst hg;rw[hx.lit_eq];simp[Builtin.len_,goInt,run_underlying ht]
  |_=>simp[HK] at hg
 |_=>simp[HK] at hg
theorem P1{x:G}{b:Bool}(h:Ea x=some b):x= .lit (.bool b):=by
 cases x with
 |lit v=>
  cases v with
  |bool c=>simp[Ea] at h;rw[h]
  |_=>simp[Ea] at h
 |_=>simp[Ea] at h
theorem NE{cx:Cx}{st:St}{β:Bm}(h:RelB P cx st a w β){g:G}(he:aX P (aB st) st.σ o=some g):∃v,(execOp a.eval o).run P w= .ok (.value v) w/\RV β (Av cx.S0 β st.σ) w g v:=by
 obtain⟨D,E,A,F,z,guard⟩:=o;cases E;case move x=>simp only[aX,bg] at he;subst he;exact⟨_,by simp[execOp],h.ev x⟩
 case assign x=>simp only[aX,bg] at he;subst he;exact⟨_,by simp[execOp],h.ev x⟩
 case pick c x y=>
  simp only[aX,cn] at he
  obtain⟨t,ht,rfl⟩:=he
  have hc:=h.ev c
  rw[P1 ht] at hc
  refine⟨if t then a.eval x else a.eval y,by simp[execOp,hc.lit_eq,asBool],?_⟩
  cases t
  .exact h.ev y
  .exact h.ev x
 case load t x=>
  obtain⟨u,hu,hr⟩:=Eb h (h.ev x) he
  exact⟨u,by simp[execOp,hu],hr⟩
 case nilCheck x=>
  have hx:=h.ev x
  simp only[aX] at he
  split at he
  .rename_i i o hg
   cases he
   rw[hg] at hx
   obtain⟨b,C,_,hv⟩:=hx.ref_addr
   exact⟨_,by simp only[execOp,hv];rfl,by rw[<-hv];exact hx⟩
  .rename_i l o hg
   cases he
   rw[hg] at hx
   obtain⟨b,q,us,hv,_⟩:=hx.ptr_cells
   exact⟨_,by simp only[execOp,hv];rfl,by rw[<-hv];exact hx⟩
  .rename_i f I J hg
   cases he
   rw[hg] at hx
   obtain⟨fs,K,hv,_⟩:=hx.clo_form
   exact⟨_,by simp only[execOp,hv];rfl,by rw[<-hv];exact hx⟩
  .cases he
 case makeFunc fn f c=>
  simp only[aX,bg] at he
  subst he
  refine⟨.func fn (f.map a.eval) (c.map a.eval),by simp[execOp,Instr.makeFunc],.clo _ _ _ _ _ aC aC (λi g u hg hu=>?_) (λi g u hg hu=>?_)⟩<;>
   (
    simp[Array.getElem?_map] at hg hu
    obtain⟨x,hx,rfl⟩:=hg
    obtain⟨y,hy,rfl⟩:=hu
    rw[hx] at hy;cases hy
    exact h.ev _)
 case extract x k=>
  have hx:=h.ev x
  simp only[aX] at he
  split at he
  .rename_i l hg
   rw[hg] at hx
   obtain⟨us,hv,hl,hr⟩:=hx.tup_form
   have hk:=(cr he).1
   have hu:us[k]?=some (us[k]'aa):=by simp[show k<us.size by omega]
   exact⟨us[k]'aa,by simp[execOp,hv,Instr.extract,hu],hr _ _ _ he hu⟩
  .cases he
 case makeInterface t x=>
  simp only[aX,Option.bind_eq_some_iff] at he
  obtain⟨d,hd,he⟩:=he
  refine⟨.iface t (a.eval x),?_,?_⟩
  .simp only[execOp,Instr.makeInterface,Sem.run_bind,run_underlying hd,Result.andThen_ok]
   cases d<;>simp at he⊢
  .cases d<;>simp at he<;>(subst he;exact .ifc _ _ _ (h.ev x))
 case fieldAddr t x k=>
  simp only[aX,Option.bind_eq_some_iff] at he
  obtain⟨⟨q,H⟩,hf,n,hn,he⟩:=he
  split at he
  .cases he
  rename_i hn0
  obtain⟨fs,f,hd,j,rfl,rfl⟩:=yO hf
  obtain⟨ad,hv,hr⟩:=Ec (h.ev x) he
  refine⟨_,?_,hr⟩
  simp[execOp,Instr.fieldAt,run_underlying hd,j,hv,Instr.sureAddr,fieldPlace,dG hn,hn0]
 case field t x k=>
  have hx:=h.ev x
  simp only[aX] at he
  split at he
  .rename_i l hg
   rw[hg] at hx
   rw[Option.bind_eq_some_iff] at he
   obtain⟨⟨q,H⟩,hf,he⟩:=he
   obtain⟨fs,f,hd,j,rfl,rfl⟩:=yO hf
   obtain⟨us,hv,hl,h1,hr⟩:=hx.agg_form
   obtain⟨u,hu,m⟩:=BM hl h1 hr he
   exact⟨u,by simp[execOp,Instr.field,run_underlying hd,j,hv,asAgg,hu],m⟩
  .cases he
 case indexAddr t x i=>
  simp only[aX,Option.bind_eq_some_iff] at he
  obtain⟨k,hk,he⟩:=he
  obtain⟨B,hi⟩:=ol (h.ev i) hk
  obtain⟨u,hu,hr⟩:=J2 (k:=B) (h.ev x) he
  exact⟨u,by simp[execOp,hi,hu],hr⟩
 case index t x i=>
  have hx:=h.ev x
  simp only[aX] at he
  split at he
  .rename_i l hg
   rw[hg] at hx
   simp only[Option.bind_eq_some_iff] at he
   obtain⟨⟨n,e⟩,ha,k,hk,s,hs,he⟩:=he
   have ht:=xM ha
   split at he
   .rename_i hb
    obtain⟨us,hv,hl,h1,hr⟩:=hx.agg_form
    obtain⟨B,hi⟩:=ol (h.ev i) hk
    obtain⟨u,hu,m⟩:=BM hl h1 hr he
    exact⟨u,by simp[execOp,Instr.index,asIntOf,hi,run_underlying ht,hv,hb.1,hb.2,dG hs,hu],m⟩
   .cases he
  .exact fZ h aC he
 case slice t x lo hi mx=>
  have hx:=h.ev x
  cases mx with
  |some _=>simp[aX] at he
  |none=>
   simp only[aX] at he
   split at he
   .exact fZ h aC he
   .simp only[Option.bind_eq_some_iff] at he
    obtain⟨L,hal,bl,hbl,he⟩:=he
    have b1:=BN (β:=β) (S:=Av cx.S0 β st.σ) (w:=w) (x:=lo.map (aB st)) (v:=lo.map a.eval) (λg hg=>by
     cases lo with
     |none=>cases hg
     |some y=>simp at hg;subst hg;exact⟨_,rfl,h.ev y⟩) (λhn=>by cases lo<;>simp_all) hal
    have b2:=BN (β:=β) (S:=Av cx.S0 β st.σ) (w:=w) (x:=hi.map (aB st)) (v:=hi.map a.eval) (λg hg=>by
     cases hi with
     |none=>cases hg
     |some y=>simp at hg;subst hg;exact⟨_,rfl,h.ev y⟩) (λhn=>by cases hi<;>simp_all) hbl
    obtain⟨u,hu,hr⟩:=J3 hx b1 b2 he
    exact⟨u,by simp[execOp,hu],hr⟩
 case call c=>
  obtain⟨callee,args,ats⟩:=c
  cases callee with
  |builtin b=>
   cases b
   case len=>
    simp only[aX] at he
    split at he
    .rename_i x t hx hat
     split at he
     .rename_i p
      obtain⟨e,r⟩:=Option.isSome_iff_exists.1 p
      simp only[cn] at he
      obtain⟨n,hn,rfl⟩:=he
      have hargs:args= #[x]:=by rw[<-Array.toList_inj];simpa using hx
      have hats:ats= #[t]:=by rw[<-Array.toList_inj];simpa using hat
      subst hargs;subst hats
      refine⟨.int .i64 n,?_,.imm _ _ (.lit _)⟩
      simp[execOp,resolve,invoke,builtin,P0 (h.ev x) hn (cE r)]
     .exact fZ h aC he
    .cases he
   case max=>exact fZ h aC he
   case min=>exact fZ h aC he
   all_goals simp[aX] at he
  |_=>simp[aX] at he
 case binOp=>exact fZ h aC he
 case unOp=>exact fZ h aC he
 case convert=>exact fZ h aC he
 all_goals simp[aX] at he
theorem fM{o:Oper}{st:St}{g:G}(hd:H_d o st.n)(he:aX P (aB st) st.σ o=some g):GS P o st (st.put o.dst g):=by intro cx a w K R ⟨β,h⟩ b;obtain⟨v,hv,hr⟩:=NE h he;refine h.loose.oper (λc hc=>by simp[aX,hc] at he) ?_;unfold Oper.wp;rw[hv];exact b _ _ ⟨β,h.put o.dst hd hr⟩
end
section
variable {P:Program}
def dH:G->Option (List G)
 | .agg l=>some l
 | .lit v=>if v.oneCell' then some [.lit v] else none
 | .tup _=>none
 | .junk=>none
 |g=>some [g]
theorem RV.cells{β:Bm}{S:Nat->Prop}{w:World}{g:G}{v:Value}{l:List G}(h:RV β S w g v)(hg:dH g=some l):v.cells.size=l.length/\(∀(i:Nat) (u:Value),v.cells[i]?=some u->u.oneCell'=true)/\∀(i:Nat) (g:G) (u:Value),l[i]?=some g->v.cells[i]?=some u->RV β S w g u:=by
 have one:∀{g:G} {v:Value},RV β S w g v->v.oneCell'=true->v.cells.size=[g].length/\(∀(i:Nat) (u:Value),v.cells[i]?=some u->u.oneCell'=true)/\∀(i:Nat) (d:G) (u:Value),[g][i]?=some d->v.cells[i]?=some u->RV β S w d u:=by
  intro g v h h1;have hc:v.cells= #[v]:=by cases v<;>first|rfl|(simp[Value.oneCell'] at h1)
  rw[hc];refine⟨rfl,λi u hu=>?_,λi d u hg hu=>?_⟩
  .have:i=0:=by have:=(Array.getElem?_eq_some_iff.1 hu).1;simpa using this
   subst this;simp at hu;subst hu;exact h1
  .have:i=0:=by have:=(Array.getElem?_eq_some_iff.1 hu).1;simpa using this
   subst this;simp at hu hg;subst hu;subst hg;exact h
 cases g with
 |agg l'=>simp[dH] at hg;subst hg;obtain⟨us,rfl,hl,h1,hr⟩:=h.agg_form;exact⟨hl,h1,hr⟩
 |lit u=>
  simp only[dH] at hg;split at hg
  .rename_i h1;simp at hg;subst hg;have:=h.lit_eq;subst this;exact one h h1
  .cases hg
 |tup _=>simp[dH] at hg
 |junk=>simp[dH] at hg
 |ptr l' o=>simp[dH] at hg;subst hg;obtain⟨b,e,us,rfl,_⟩:=h.ptr_cells;exact one h rfl
 |sl l' n=>simp[dH] at hg;subst hg;obtain⟨a,cap,us,rfl,_⟩:=h.sl_cells;exact one h rfl
 |clo fn f c=>simp[dH] at hg;subst hg;obtain⟨fs,j,rfl,_⟩:=h.clo_form;exact one h rfl
 |ifc t g=>simp[dH] at hg;subst hg;cases h with
  |imm _ _ h'=>cases h' with
   |ifc _ _ u h''=>exact one (.imm _ _ (.ifc _ _ u h'')) rfl
  |ifc _ _ u h'=>exact one (.ifc _ _ u h') rfl
 |ref i o=>simp[dH] at hg;subst hg;obtain⟨b,C,_,rfl⟩:=h.ref_addr;exact one h rfl
 |mref i=>simp[dH] at hg;subst hg;obtain⟨b,C,_,rfl⟩:=h.mref_form;exact one h rfl
 |mp ks vs ns c=>simp[dH] at hg;subst hg;obtain⟨b,ents,rfl,_⟩:=h.mp_form;exact one h rfl
 |yld i=>simp[dH] at hg;subst hg;obtain⟨b,C,_,rfl⟩:=h.yld_form;exact one h rfl
 |rsl i o n=>simp[dH] at hg;subst hg;rcases h.rsl_form with⟨_,rfl,_⟩|⟨b,C,k,cap,_,rfl,_⟩<;>exact one h rfl
theorem RelB.regrow{cx:Cx}{st:St}{a:Act}{w w':World}{β:Bm}(h:RelB P cx st a w β){i:Nat}{row:Option Nat}(f:∀b,row=some b->∃ob C,ag st.σ i=some ob/\β i=some (some (b,C)))(hk:Keeps (λx=>row=some x) w w')
  {b C:Nat} {cur:Array Value} {ob:Ob} (hb:row=some b\/w.heap.size<=b) (q:w'.heap[b]?=some (.cells cur ob.t (0,0))) (hs:cur.size=C*NC P ob.t) (hC:C<=maxLen) (hl:ob.l.length<=cur.size)
  (r:ob.x=none) (hr:∀(j:Nat) (g:G),ob.l[j]?=some g->∃u,cur[j]?=some u/\u.oneCell'=true/\RV β (Av cx.S0 β st.σ) w g u) {k:Nat} (hkc:st.c<=k):
  RelB P cx {st with σ:=(k,some ob)::(i,none)::st.σ,c:=k+1} a w' (λj=>if j=k then some (some (b,C)) else β j):=by
 have hβ:∀i x,β i=some x->(λj=>if j=k then some (some (b,C)) else β j) i=some x:=by
  intro i x hx;have:i≠k:=λe=>by rw[e,h.fresh k hkc] at hx;cases hx
  simp[this,hx]
 have hSz:∀d,cx.S0 d->d<w.heap.size:=λd hb'=>h.keep.lt (h.old d hb')
 have hg:∀(j:Nat) o d D,ag ((k,some ob)::(i,none)::st.σ) j=some o->(if j=k then some (some (b,C)) else β j)=some (some (d,D))->(j=k/\o=ob/\d=b)\/(j≠k/\j≠i/\ag st.σ j=some o/\β j=some (some (d,D))/\d≠b):=by
  intro j o d D hj n;rw[am] at hj;by_cases e:j=k
  .subst e;rw[if_pos rfl] at hj n;cases hj;cases n;exact .inl ⟨rfl,rfl,rfl⟩
  .rw[if_neg e] at n;rw[if_neg (λx=>e x.symm),am] at hj;split at hj
   .cases hj
   .rename_i hne;refine .inr ⟨e,λx=>hne x.symm,hj,n,λx=>?_⟩;subst x;rcases hb with hb|hb
    .obtain⟨m,D',h1,h2⟩:=f _ hb;exact hne (h.inj i j m o d D' D h1 hj h2 n)
    .have:=h.lt hj n;omega
 have hS:∀d,d<w.heap.size->Av cx.S0 (λj=>if j=k then some (some (b,C)) else β j) ((k,some ob)::(i,none)::st.σ) d->Av cx.S0 β st.σ d:=by
  rintro d hlt (hx|⟨j,o,D,hj,hx⟩)
  .exact .inl hx
  .rcases hg j o d D hj hx with⟨_,_,rfl⟩|⟨_,_,h1,h2,_⟩
   .rcases hb with hb|hb
    .obtain⟨m,D',h1,h2⟩:=f _ hb;exact .inr ⟨i,m,D',h1,h2⟩
    .omega
   .exact .inr ⟨j,o,D,h1,h2⟩
 have hk':Keeps (Av cx.S0 β st.σ) w w':=hk.mono λx _ e=>by obtain⟨m,D',h1,h2⟩:=f x e;exact .inr ⟨i,m,D',h1,h2⟩
 exact{
  size:=h.size
  defers:=h.defers.keep hk (λD hD e=>by obtain⟨m,D',h1,h2⟩:=f D e;exact h.not_marks h1 h2 hD)
  loose:=h.loose
  rnd:=h.rnd
  fr:=λj=>(h.fr j).step hβ hS hk'
  ob:=λj o ho=>by
   have ho':ag ((k,some ob)::(i,none)::st.σ) j=some o:=ho;rw[am] at ho';by_cases e:k=j
   .subst e;rw[if_pos rfl] at ho';cases ho';refine .inr (.inr ⟨b,C,cur,r,aC,q,hs,hC,hl,λj g hg=>?_⟩);obtain⟨u,hu,h1,s⟩:=hr j g hg;exact⟨u,hu,h1,s.step hβ hS hk'⟩
   .rw[if_neg e,am] at ho';split at ho'
    .cases ho'
    .rename_i hne;exact(h.ob j o ho').step hβ hS hk' (λd D hb'=>hk.block d (h.lt ho' hb') (λx=>by obtain⟨m,D',h1,h2⟩:=f d x;exact hne (h.inj i j m o d D' D h1 ho' h2 hb')))
  inj:=λx y o m d D E hx hy p v=>by
   rcases hg x o d D hx p with⟨rfl,_,rfl⟩|⟨n1,_,h1,h2,h3⟩<;>rcases hg y m d E hy v with⟨rfl,_,e⟩|⟨n2,_,h4,h5,h6⟩
   .rfl
   .exact absurd rfl h6
   .exact absurd e h3
   .exact h.inj x y o m d D E h1 h4 h2 h5
  own:=λx o d D hx p=>by
   rcases hg x o d D hx p with⟨_,_,rfl⟩|⟨_,_,h1,h2,_⟩
   .rcases hb with hb|hb
    .obtain⟨m,D',h1,h2⟩:=f _ hb;exact h.own i m d D' h1 h2
    .have:=h.keep.size;right;omega
   .exact h.own x o d D h1 h2
  sep:=λx o d D hx p=>by
   rcases hg x o d D hx p with⟨_,_,rfl⟩|⟨_,_,h1,h2,_⟩
   .rcases hb with hb|hb
    .obtain⟨m,D',h1,h2⟩:=f _ hb;exact h.sep i m d D' h1 h2
    .intro hx';have:=hSz d hx';omega
   .exact h.sep x o d D h1 h2
  fresh:=λx hx=>by have hx':k+1<=x:=hx;have e:x≠k:=aa;simp only[e,if_false];exact h.fresh x aa
  glob:=λg l hl=>(h.glob g l hl).step hS hk'
  keep:=h.keep.then hk (λx hx e=>by
   obtain⟨m,D',h1,h2⟩:=f x e;rcases h.own i m x D' h1 h2 with h3|h3
   .exact h3
   .omega)
  old:=h.old
  pin:=λi x hx=>⟨(h.pin i x hx).1,hβ i x (h.pin i x hx).2⟩}
theorem RelB.mat{cx:Cx}{st:St}{a:Act}{w w':World}{β:Bm}(h:RelB P cx st a w β){i:Nat}{row:Option Nat}(d:∀b,row=some b->∃ob C,ag st.σ i=some ob/\β i=some (some (b,C)))(hk:Keeps (λx=>row=some x) w w')
  {b C:Nat} {cur:Array Value} {ob:Ob} (hb:row=some b\/w.heap.size<=b) (q:w'.heap[b]?=some (.cells cur ob.t (0,0))) (hs:cur.size=C*NC P ob.t) (hC:C<=maxLen) (hl:ob.l.length<=cur.size)
  (s:ob.x=none) (hr:∀(j:Nat) (g:G),ob.l[j]?=some g->∃u,cur[j]?=some u/\u.oneCell'=true/\RV β (Av cx.S0 β st.σ) w g u) {k:Nat} {ob0:Ob} (hr0:ag st.σ k=some ob0) (r:ob0.x=some .resv) (A:st.p<=k):
  RelB P cx {st with σ:=(k,some ob)::(i,none)::st.σ} a w' (λj=>if j=k then some (some (b,C)) else β j):=by
 have hk0:β k=some none:=by
  rcases h.ob k ob0 hr0 with⟨h1,_⟩|⟨b,x,o,h1,_,_,_,h5⟩|⟨b,C,cur,h1,_⟩
  .exact h1
  .rw[r] at h1;cases h1;exact h5.elim
  .rw[r] at h1;cases h1
 have hβ:∀i x,β i=some (some x)->(λj=>if j=k then some (some (b,C)) else β j) i=some (some x):=by
  intro i x hx;have:i≠k:=λe=>by rw[e,hk0] at hx;cases hx
  simp[this,hx]
 have hn:∀i,β i≠none->(λj=>if j=k then some (some (b,C)) else β j) i≠none:=by
  intro i hi;show(if i=k then some (some (b,C)) else β i)≠none;split
  .simp
  .exact hi
 have hSz:∀c,cx.S0 c->c<w.heap.size:=λc hb'=>h.keep.lt (h.old c hb')
 have hg:∀(j:Nat) o c D,ag ((k,some ob)::(i,none)::st.σ) j=some o->(if j=k then some (some (b,C)) else β j)=some (some (c,D))->(j=k/\o=ob/\c=b)\/(j≠k/\j≠i/\ag st.σ j=some o/\β j=some (some (c,D))/\c≠b):=by
  intro j o c D hj m;rw[am] at hj;by_cases e:j=k
  .subst e;rw[if_pos rfl] at hj m;cases hj;cases m;exact .inl ⟨rfl,rfl,rfl⟩
  .rw[if_neg e] at m;rw[if_neg (λx=>e x.symm),am] at hj;split at hj
   .cases hj
   .rename_i hne;refine .inr ⟨e,λx=>hne x.symm,hj,m,λx=>?_⟩;subst x;rcases hb with hb|hb
    .obtain⟨f,D',h1,h2⟩:=d _ hb;exact hne (h.inj i j f o c D' D h1 hj h2 m)
    .have:=h.lt hj m;omega
 have hS:∀c,c<w.heap.size->Av cx.S0 (λj=>if j=k then some (some (b,C)) else β j) ((k,some ob)::(i,none)::st.σ) c->Av cx.S0 β st.σ c:=by
  rintro c hlt (hx|⟨j,o,D,hj,hx⟩)
  .exact .inl hx
  .rcases hg j o c D hj hx with⟨_,_,rfl⟩|⟨_,_,h1,h2,_⟩
   .rcases hb with hb|hb
    .obtain⟨f,D',h1,h2⟩:=d _ hb;exact .inr ⟨i,f,D',h1,h2⟩
    .omega
   .exact .inr ⟨j,o,D,h1,h2⟩
 have hk':Keeps (Av cx.S0 β st.σ) w w':=hk.mono λx _ e=>by obtain⟨f,D',h1,h2⟩:=d x e;exact .inr ⟨i,f,D',h1,h2⟩
 exact{
  size:=h.size
  defers:=h.defers.keep hk (λD hD e=>by obtain⟨f,D',h1,h2⟩:=d D e;exact h.not_marks h1 h2 hD)
  loose:=h.loose
  rnd:=h.rnd
  fr:=λj=>(h.fr j).stepW hβ hn hS hk'.cells
  ob:=λj o ho=>by
   have ho':ag ((k,some ob)::(i,none)::st.σ) j=some o:=ho;rw[am] at ho';by_cases e:k=j
   .subst e;rw[if_pos rfl] at ho';cases ho';refine .inr (.inr ⟨b,C,cur,s,aC,q,hs,hC,hl,λj g hg=>?_⟩);obtain⟨u,hu,h1,v⟩:=hr j g hg;exact⟨u,hu,h1,v.stepW hβ hn hS hk'.cells⟩
   .rw[if_neg e,am] at ho';split at ho'
    .cases ho'
    .rename_i hne;exact(h.ob j o ho').stepW hβ hn (by simp[show¬j=k from λx=>e x.symm]) hS hk'.cells (λc D hb'=>hk.block c (h.lt ho' hb') (λx=>by obtain⟨f,D',h1,h2⟩:=d c x;exact hne (h.inj i j f o c D' D h1 ho' h2 hb')))
  inj:=λx y o f c D E hx hy n z=>by
   rcases hg x o c D hx n with⟨rfl,_,rfl⟩|⟨n1,_,h1,h2,h3⟩<;>rcases hg y f c E hy z with⟨rfl,_,e⟩|⟨n2,_,h4,h5,h6⟩
   .rfl
   .exact absurd rfl h6
   .exact absurd e h3
   .exact h.inj x y o f c D E h1 h4 h2 h5
  own:=λx o c D hx n=>by
   rcases hg x o c D hx n with⟨_,_,rfl⟩|⟨_,_,h1,h2,_⟩
   .rcases hb with hb|hb
    .obtain⟨f,D',h1,h2⟩:=d _ hb;exact h.own i f c D' h1 h2
    .have:=h.keep.size;right;omega
   .exact h.own x o c D h1 h2
  sep:=λx o c D hx n=>by
   rcases hg x o c D hx n with⟨_,_,rfl⟩|⟨_,_,h1,h2,_⟩
   .rcases hb with hb|hb
    .obtain⟨f,D',h1,h2⟩:=d _ hb;exact h.sep i f c D' h1 h2
    .intro hx';have:=hSz c hx';omega
   .exact h.sep x o c D h1 h2
  fresh:=λx hx=>by
   have e:x≠k:=λe=>by rw[e] at hx;have:=h.fresh k hx;rw[hk0] at this;cases this
   simp only[e,if_false];exact h.fresh x hx
  glob:=λg l hl=>(h.glob g l hl).step hS hk'
  keep:=h.keep.then hk (λx hx e=>by
   obtain⟨f,D',h1,h2⟩:=d x e;rcases h.own i f x D' h1 h2 with h3|h3
   .exact h3
   .omega)
  old:=h.old
  pin:=λi x hx=>by obtain⟨h1,h2⟩:=h.pin i x hx;have e:i≠k:=aa;exact⟨h1,by simp only[e,if_false];exact h2⟩}
theorem RelB.matV{cx:Cx}{st:St}{a:Act}{w:World}{β:Bm}(h:RelB P cx st a w β)(t:TypeId){k:Nat}{ob0:Ob}(hr0:ag st.σ k=some ob0)(c:ob0.x=some .resv):RelB P cx {st with σ:=(k,some ⟨t,[],none⟩)::st.σ} a w β:=by
 have hk0:β k=some none:=by
  rcases h.ob k ob0 hr0 with⟨h1,_⟩|⟨b,x,o,h1,_,_,_,h5⟩|⟨b,C,cur,h1,_⟩
  .exact h1
  .rw[c] at h1;cases h1;exact h5.elim
  .rw[c] at h1;cases h1
 have hg:∀i o b C,ag ((k,some ⟨t,[],none⟩)::st.σ) i=some o->β i=some (some (b,C))->ag st.σ i=some o:=by
  intro i o b C ho hb;rw[am] at ho;split at ho
  .subst_vars;rw[hk0] at hb;cases hb
  .exact ho
 have hS:∀d,d<w.heap.size->Av cx.S0 β ((k,some ⟨t,[],none⟩)::st.σ) d->Av cx.S0 β st.σ d:=by
  rintro d _ (hx|⟨i,o,D,ho,hx⟩)
  .exact .inl hx
  .exact .inr ⟨i,o,D,hg i o d D ho hx,hx⟩
 exact{h with
  fr:=λi=>(h.fr i).step (λ_ _ x=>x) hS (Keeps.refl _ _)
  ob:=λi o ho=>by
   have ho':ag ((k,some ⟨t,[],none⟩)::st.σ) i=some o:=ho;rw[am] at ho';split at ho'
   .subst_vars;cases ho';exact .inl ⟨hk0,rfl,.inl rfl⟩
   .exact(h.ob i o ho').step (λ_ _ x=>x) hS (Keeps.refl _ _) (λ_ _ _=>rfl)
  inj:=λi j o e b C D hi hj hb hb'=>h.inj i j o e b C D (hg i o b C hi hb) (hg j e b D hj hb') hb hb'
  glob:=λg l hl=>(h.glob g l hl).sub hS
  own:=λi o b C hi hb=>h.own i o b C (hg i o b C hi hb) hb
  sep:=λi o b C hi hb=>h.sep i o b C (hg i o b C hi hb) hb}
def iT(st:St):Option Nat->Nat
 |none=>st.c
 |some k=>k
def ZS(st:St):Option Nat->Nat
 |none=>st.c+1
 |some _=>st.c
def zB(st:St):Option Nat->Prop
 |none=>True
 |some k=>st.p<=k/\∃ob0,ag st.σ k=some ob0/\ob0.x=some .resv
theorem RelB.regrowP{cx:Cx}{st:St}{a:Act}{w w':World}{β:Bm}(h:RelB P cx st a w β){i:Nat}{row:Option Nat}(d:∀b,row=some b->∃ob C,ag st.σ i=some ob/\β i=some (some (b,C)))(hk:Keeps (λx=>row=some x) w w')
  {b C:Nat} {cur:Array Value} {ob:Ob} (hb:row=some b\/w.heap.size<=b) (e:w'.heap[b]?=some (.cells cur ob.t (0,0))) (hs:cur.size=C*NC P ob.t) (hC:C<=maxLen) (hl:ob.l.length<=cur.size)
  (f:ob.x=none) (hr:∀(j:Nat) (g:G),ob.l[j]?=some g->∃u,cur[j]?=some u/\u.oneCell'=true/\RV β (Av cx.S0 β st.σ) w g u) {pl:Option Nat} (hpl:zB st pl):
  RelB P cx {st with σ:=(iT st pl,some ob)::(i,none)::st.σ,c:=ZS st pl} a w' (λj=>if j=iT st pl then some (some (b,C)) else β j):=by
 cases pl with
 |none=>exact h.regrow d hk hb e hs hC hl f hr (Nat.le_refl _)
 |some k=>
  obtain⟨h1,ob0,h2,h3⟩:=hpl
  exact h.mat d hk hb e hs hC hl f hr h2 h3 h1
def St.new(st:St)(d:Option Tmp)(t:TypeId)(l:List G)(g:G):St:={st with σ:=(st.c,some ⟨t,l,none⟩)::st.σ,c:=st.c+1}.put d g
def St.newP(st:St)(pl:Option Nat)(d:Option Tmp)(t:TypeId)(l:List G)(g:G):St:=match pl with
 |none=>st.new d t l g
 |some k=>{st with σ:=(k,some ⟨t,l,none⟩)::(k,none)::st.σ}.put d g
theorem RelB.newP{cx:Cx}{st:St}{a:Act}{w:World}{β:Bm}(h:RelB P cx st a w β){t:TypeId}{cur:Array Value}{l:List G}{C:Nat}(hs:cur.size=C*NC P t)(hC:C<=maxLen)(hl:l.length=cur.size)(h1:∀(i:Nat) (u:Value),cur[i]?=some u->u.oneCell'=true)
  (hr:∀(i:Nat) (g:G) (u:Value),l[i]?=some g->cur[i]?=some u->RV β (Av cx.S0 β st.σ) w g u) (d:Option Tmp) (hd:∀x,d=some x->x<st.n) {g:G} {v:Value} {pl:Option Nat} (hpl:zB st pl) (hv:∀f:Bm,f (iT st pl)=some (some (w.heap.size,C))->∀S w',RV f S w' g v):
  mh P cx (st.newP pl d t l g) (a.put d v) (w.alloc (.cells cur t)):=by
 have hrr:∀(j:Nat) (g:G),l[j]?=some g->∃u,cur[j]?=some u/\u.oneCell'=true/\RV β (Av cx.S0 β st.σ) w g u:=λj g hg=>by
  have hlt:=(cr hg).1;have hu:cur[j]?=some (cur[j]'aa):=by simp[show j<cur.size by omega]
  exact⟨_,hu,h1 _ _ hu,hr _ _ _ hg hu⟩
 cases pl with
 |none=>
  have:=h.alloc (w':=w.alloc (.cells cur t)) ((Keeps.refl _ _).alloc _) (b:=w.heap.size) (C:=C) (cur:=cur) (ob:=⟨t,l,none⟩) (Nat.le_refl _) (heap_alloc_new w _) hs hC (by simp[hl]) rfl hrr (Nat.le_refl st.c)
  exact⟨_,this.put d hd (hv _ (by simp[iT]) _ _)⟩
 |some k=>
  have:=h.regrowP (i:=k) (row:=none) (w':=w.alloc (.cells cur t)) (λ_ e=>by cases e) ((Keeps.refl _ _).alloc _) (b:=w.heap.size) (C:=C) (cur:=cur) (ob:=⟨t,l,none⟩) (.inr (Nat.le_refl _)) (heap_alloc_new w _) hs hC (by simp[hl]) rfl hrr hpl
  exact⟨_,this.put d hd (hv _ (by simp[iT]) _ _)⟩
theorem L5{pl:Option Nat}{st:St}{l:List G}(ho:o.op= .box t x)(hd:H_d o st.n)(hg:dH (aB st x)=some l)(hl:l.length=NC P t)(hpl:zB st pl):GS P o st (st.newP pl o.dst t l (.ref (iT st pl) 0)):=by
 intro cx a w K R ⟨β,h⟩ b;obtain⟨c1,c2,c3⟩:=(h.ev x).cells hg;have hrun:(execOp a.eval o).run P w= .ok (.value (.pointer (some ⟨w.heap.size,0,none⟩))) (w.alloc (.cells (a.eval x).cells t)):=by unfold execOp;simp[ho,Instr.box,newVar,newRow]
 refine h.loose.oper (λc hc=>by rw[ho] at hc;cases hc) ?_;unfold Oper.wp;rw[hrun];exact b _ _ (h.newP (hpl:=hpl) (C:=1) aa (by unfold maxLen;omega) c1.symm c2 c3 o.dst hd (λd hb S w'=> .ref _ _ _ _ hb))
theorem VG{st:St}{l:List G}(ho:o.op= .box t x)(hd:H_d o st.n)(hg:dH (aB st x)=some l)(hl:l.length=NC P t):GS P o st (st.new o.dst t l (.ref st.c 0)):=L5 (pl:=none) ho hd hg hl trivial
def jj(P:Program)(t:TypeId):Option (List Value):=((P.info? t).bind (·.zero)).bind λz=>if z.cells.all (·.oneCell') then some z.cells.toList else none
theorem ii(h:jj P t=some zs):∃i z,P.info? t=some i/\i.zero=some z/\z.cells.toList=zs/\∀v∈zs,v.oneCell'=true:=by
 simp only[jj,Option.bind_eq_some_iff] at h;obtain⟨z,⟨i,hi,hz⟩,h⟩:=h;split at h
 .rename_i hall;cases h;exact⟨i,z,hi,hz,rfl,λv hv=>Array.all_eq_true_iff_forall_mem.1 hall v (by simpa using hv)⟩
 .cases h
theorem ST{β:Bm}{S:Nat->Prop}(hu:us.toList=zs):∀(i:Nat) (g:G) (u:Value),(zs.map G.lit)[i]?=some g->us[i]?=some u->RV β S w g u:=by intro i g u hg h;subst hu;rw[List.getElem?_map,Array.getElem?_toList,h] at hg;simp at hg;subst hg;exact .imm _ _ (.lit u)
theorem Ed{pl:Option Nat}{st:St}(ho:o.op= .alloc t)(hd:H_d o st.n)(hz:jj P t=some zs)(hl:zs.length=NC P t)(hpl:zB st pl):GS P o st (st.newP pl o.dst t (zs.map .lit) (.ref (iT st pl) 0)):=by
 intro cx a w K R ⟨β,h⟩ b;obtain⟨i,z,hi,hz,he,h1⟩:=ii hz;have hrun:(execOp a.eval o).run P w= .ok (.value (.pointer (some ⟨w.heap.size,0,none⟩))) (w.alloc (.cells z.cells t)):=by unfold execOp;simp[ho,Instr.alloc,newVar,newRow,zeroValue,typeInfo,hi,hz]
 have hsz:z.cells.size=zs.length:=by rw[<-he];simp
 refine h.loose.oper (λc hc=>by rw[ho] at hc;cases hc) ?_;unfold Oper.wp;rw[hrun];exact b _ _ (h.newP (hpl:=hpl) (C:=1) aa (by unfold maxLen;omega) (by simp[hsz]) (λi u hu=>h1 u (by rw[<-he];exact bO (by simpa using hu))) (ST he) o.dst hd (λd hb S w'=> .ref _ _ _ _ hb))
theorem P2{st:St}(ho:o.op= .alloc t)(hd:H_d o st.n)(hz:jj P t=some zs)(hl:zs.length=NC P t):GS P o st (st.new o.dst t (zs.map .lit) (.ref st.c 0)):=Ed (pl:=none) ho hd hz hl trivial
theorem pw{R:G->Value->Prop}{gs gs':List G}{xs xs':List Value}(h:∀(j:Nat) (g:G),gs[j]?=some g->∃u,xs[j]?=some u/\R g u)(h':∀(j:Nat) (g:G),gs'[j]?=some g->∃u,xs'[j]?=some u/\R g u)(hl:gs'.length=xs'.length)(hx:gs.length<=xs.length)(hk:k+gs'.length<=gs.length):
  ∀(j:Nat) (g:G),(gs.take k++gs'++gs.drop (k+gs'.length))[j]?=some g->∃u,(xs.take k++xs'++xs.drop (k+xs'.length))[j]?=some u/\R g u:=by
 intro j g hj
 have a1:(gs.take k).length=k:=by simp;omega
 have a2:(xs.take k).length=k:=by simp;omega
 by_cases c1:j<k
 .rw[List.append_assoc,List.getElem?_append_left aa,List.getElem?_take,if_pos c1] at hj
  obtain⟨u,hu,hr⟩:=h j g hj
  exact⟨u,by rw[List.append_assoc,List.getElem?_append_left aa,List.getElem?_take,if_pos c1];exact hu,hr⟩
 .by_cases c2:j<k+gs'.length
  .rw[List.append_assoc,List.getElem?_append_right aa,a1,List.getElem?_append_left aa] at hj
   obtain⟨u,hu,hr⟩:=h' _ g hj
   exact⟨u,by rw[List.append_assoc,List.getElem?_append_right aa,a2,List.getElem?_append_left aa];exact hu,hr⟩
  .rw[List.getElem?_append_right cq,List.getElem?_drop] at hj
   obtain⟨u,hu,hr⟩:=h _ g hj
   refine⟨u,?_,hr⟩
   rw[List.getElem?_append_right cq,List.getElem?_drop,<-hu]
   congr 1
   simp only[List.length_append,a1,a2,hl]
theorem P3{st:St}{ob:Ob}{l:List G}(ho:o.op= .store t x y)(hd:H_d o st.n)(hx:aB st x= .ref i k)(hob:ag st.σ i=some ob)(d:ob.x=none)(hy:dH (aB st y)=some l)(ht:bw P t=some n)(hl:l.length=n)(hle:k+n<=ob.l.length):
  GS P o st ({st with σ:=(i,some ⟨ob.t,ob.l.take k++l++ob.l.drop (k+n),none⟩)::st.σ}.put o.dst (.lit undef)):=by
 intro cx a w K R ⟨β,h⟩ f
 have hx':=h.ev x
 rw[hx] at hx'
 obtain⟨b,C,hb,hv⟩:=hx'.ref_addr
 obtain⟨c1,c2,c3⟩:=(h.ev y).cells hy
 rcases h.ob i ob hob with⟨h1,_⟩|⟨p,q,r,hx',_⟩|⟨p,C',cur,_,h1,h2,h3,h4,h5,h6⟩
 .rw[h1] at hb;cases hb
 .rw[d] at hx';cases hx'
 rw[h1] at hb;cases hb
 have hst:=run_storeCells_at (P:=P) b k ob.t (a.eval y).cells.toList 0 cur w h2 cq (λv hv=>by obtain⟨j,hj⟩:=List.mem_iff_getElem?.1 hv;exact c2 j v (by simpa using hj))
 simp only[Nat.add_zero,Array.length_toList] at hst
 have hrun:(execOp a.eval o).run P w= .ok .skip (w.setRow b (cur.toList.take k++(a.eval y).cells.toList++cur.toList.drop (k+(a.eval y).cells.size)).toArray):=by unfold execOp;simp only[ho,hv,Instr.storeAt,Instr.sureAddr];simp only[Sem.run_bind,Sem.run_pure,Result.andThen_ok,storeVar,dG ht];have e:¬((a.eval y).cells.size≠n):=aa;rw[if_neg e];simp only[Result.andThen_ok,hst]
 have hsz:(cur.toList.take k++(a.eval y).cells.toList++cur.toList.drop (k+(a.eval y).cells.size)).toArray.size=cur.size:=by simp;omega
 have m:=setRow_heap w b cur (cur.toList.take k++(a.eval y).cells.toList++cur.toList.drop (k+(a.eval y).cells.size)).toArray ob.t (0,0) h2
 have hkeep:Keeps (λx=>x=b) w (w.setRow b (cur.toList.take k++(a.eval y).cells.toList++cur.toList.drop (k+(a.eval y).cells.size)).toArray):=⟨rfl,rfl,rfl,aC,λx _ hx=>setRow_other w b x _ hx,Nat.le_refl _⟩
 have hw:=h.write (l:=ob.l.take k++l++ob.l.drop (k+n)) hob h1 hkeep m (by rw[hsz];exact h3) h4 (by rw[hsz];simp;omega) (λj g hg=>by
  rw[<-hl] at hg;obtain⟨u,hu,h7,h8⟩:=pw (R:=λg u=>u.oneCell'=true/\RV β (Av cx.S0 β st.σ) w g u) (xs:=cur.toList) (xs':=(a.eval y).cells.toList) (λj g hg=>by
   obtain⟨u,hu,h7,h8⟩:=h6 j g hg;exact⟨u,by rw[Array.getElem?_toList];exact hu,h7,h8⟩) (λj g hg=>by
   have hlt:=(cr hg).1;have hu:(a.eval y).cells[j]?=some ((a.eval y).cells[j]'aa):=by simp[show j<(a.eval y).cells.size by omega]
   exact⟨_,by rw[Array.getElem?_toList];exact hu,c2 j _ hu,c3 j g _ hg hu⟩) (by simp[c1]) (by simpa using h5) aa j g hg
  exact⟨u,by simpa using hu,h7,h8⟩)
 refine h.loose.oper (λc hc=>by rw[ho] at hc;cases hc) ?_
 unfold Oper.wp
 rw[hrun]
 exact f _ _ ⟨β,hw.put o.dst hd (.imm _ _ (.lit _))⟩
end
section
variable {P:Program}
def Rw(β:Bm)(S:Nat->Prop)(w:World)(l:List G)(us:List Value):Prop:=us.length=l.length/\(∀u∈us,u.oneCell'=true)/\∀(i:Nat) (g:G) (u:Value),l[i]?=some g->us[i]?=some u->RV β S w g u
theorem Rw.splice{β:Bm}{S:Nat->Prop}{w:World}{l l':List G}{us us':List Value}(h:Rw β S w l us)(h':Rw β S w l' us'){k:Nat}(hk:k+l'.length<=l.length):Rw β S w (l.take k++l'++l.drop (k+l'.length)) (us.take k++us'++us.drop (k+us'.length)):=by
 obtain⟨a1,a2,a3⟩:=h;obtain⟨b1,b2,b3⟩:=h';refine⟨by simp[a1,b1],λu hu=>?_,λi g u hg hu=>?_⟩
 .simp only[List.mem_append] at hu;rcases hu with(hu|hu)|hu
  .exact a2 u (List.mem_of_mem_take hu)
  .exact b2 u hu
  .exact a2 u (List.mem_of_mem_drop hu)
 .obtain⟨a,hu',hr⟩:=pw (R:=λg u=>RV β S w g u) (xs:=us) (xs':=us') (λj g hg=>by
   have hlt:=(cr hg).1;have hx:us[j]?=some (us[j]'aa):=by simp[show j<us.length by omega]
   exact⟨_,hx,a3 j g _ hg hx⟩) (λj g hg=>by
   have hlt:=(cr hg).1;have hx:us'[j]?=some (us'[j]'aa):=by simp[show j<us'.length by omega]
   exact⟨_,hx,b3 j g _ hg hx⟩) b1.symm aa hk i g hg
  rw[hu] at hu';cases hu';exact hr
theorem Rw.of_cells{β:Bm}{S:Nat->Prop}{w:World}{g:G}{v:Value}{l:List G}(h:RV β S w g v)(hg:dH g=some l):Rw β S w l v.cells.toList:=by obtain⟨c1,c2,c3⟩:=h.cells hg;refine⟨by simpa using c1,λu hu=>?_,λi g u hl hu=>c3 i g u hl (by simpa using hu)⟩;obtain⟨j,hj⟩:=List.mem_iff_getElem?.1 hu;exact c2 j u (by simpa using hj)
theorem Rw.lits{β:Bm}{S:Nat->Prop}{w:World}{zs:List Value}(h:∀v∈zs,v.oneCell'=true):Rw β S w (zs.map .lit) zs:=by refine⟨aC,h,λi g u hg hu=>?_⟩;rw[List.getElem?_map,hu] at hg;simp at hg;subst hg;exact .imm _ _ (.lit u)
def rx(a:Nat->Option (Nat×Nat)):List G->List (Nat×G)->Option (List G)
 |cells,[]=>some cells
 |cells,(i,g)::r=>match a i,dH g with
  |some (off,sz),some cs=>if cs.length=sz/\off+sz<=cells.length then rx a (cells.take off++cs++cells.drop (off+cs.length)) r else none
  |_,_=>none
theorem sE{β:Bm}{S:Nat->Prop}{w:World}{place:Nat->Option (Nat×Nat)}{ρ:Operand->G}{e:Operand->Value}(he:∀x,RV β S w (ρ x) (e x)):∀(parts:List (Nat×Operand)) {cells out:List G} {us:List Value},Rw β S w cells us->rx place cells (parts.map λp=>(p.1,ρ p.2))=some out->
  ∃b,Instr.fill place us.toArray (parts.map λp=>(p.1,e p.2))=some b.toArray/\Rw β S w out b
 |[],cells,out,us,h,hg=>by simp[rx] at hg;subst hg;exact⟨us,rfl,h⟩
 |(i,x)::r,cells,out,us,h,hg=>by
  simp only[List.map_cons,rx] at hg;split at hg
  .rename_i a sz c hp hc;split at hg
   .rename_i hb;have hx:=Rw.of_cells (he x) hc;have hsz:(e x).cells.size=sz:=by have:=hx.1;simp at this;omega
    obtain⟨b,hu,hr⟩:=sE he r (h.splice hx (k:=a) aa) hg;refine⟨b,?_,hr⟩;rw[List.map_cons,NV place us.toArray i a sz (e x) _ hp hsz (by have:=h.1;simp;omega)];have h1:=h.1;have hf:=NU (e x).cells.toList (us.take a) (us.drop a) a cq cq;rw[List.take_append_drop] at hf;rw[<-Array.foldl_toList,Array.toList_zipIdx,hf,<-hu];simp
   .cases hg
  .cases hg
def FA(P:Program)(t:TypeId):Option (List (Nat×Nat)):=(P.underlying t).bind fun| .struct fs=>fs.toList.mapM (λf=>(P.info? f.type).map λi=>(f.offset,i.size))|_=>none
theorem FB{pl:List (Nat×Nat)}(h:FA P t=some pl):∃fs,P.underlying t=some (.struct fs)/\fs.toList.mapM (λf=>(P.info? f.type).map λi=>(f.offset,i.size))=some pl:=by simp only[FA,Option.bind_eq_some_iff] at h;obtain⟨d,hd,h⟩:=h;cases d<;>simp at h;exact⟨_,hd,h⟩
def uH(P:Program)(t:TypeId)(a:List (Nat×G)):Option G:=
 match FA P t,jj P t with
 |some pl,some zs=>(rx (pl[·]?) (zs.map .lit) a).map .agg
 |_,_=>none
theorem BO{st:St}{g:G}(ho:o.op= .build t parts)(hd:H_d o st.n)(hg:uH P t (parts.toList.map λp=>(p.1,aB st p.2))=some g):GS P o st (st.put o.dst g):=by
 intro cx a w K R ⟨β,h⟩ j;unfold uH at hg;split at hg
 .rename_i pl zs hp hz;obtain⟨i,z,hi,hz',d,h1⟩:=ii hz;obtain⟨fs,hu,hpl⟩:=FB hp;simp only[cn] at hg;obtain⟨out,b,rfl⟩:=hg;obtain⟨us,f,hr⟩:=sE (β:=β) (S:=Av cx.S0 β st.σ) (w:=w) (e:=a.eval) (λx=>h.ev x) parts.toList (Rw.lits h1) b;have hb:P.built t ((parts.map λ(p:Nat×Operand)=>(p.1,a.eval p.2)).toList)=some us.toArray:=by unfold Program.built;simp only[hi,hu,hz',hpl];rw[<-f,<-d];simp
  have hrun:(execOp a.eval o).run P w= .ok (.value (.agg us.toArray)) w:=by unfold execOp;simp[ho,run_build w t _ _ hb]
  refine h.loose.oper (λc hc=>by rw[ho] at hc;cases hc) ?_;unfold Oper.wp;rw[hrun];refine j _ _ ⟨β,h.put o.dst hd (.agg _ _ (by simpa using hr.1) (λi u hu=>?_) (λi g u hg hu=>hr.2.2 i g u hg (by simpa using hu)))⟩;exact hr.2.1 u (bO (by simpa using hu))
 .cases hg
def bN(zs:List Value)(n:Nat):List Value:=(List.range n).map λi=>zs.getD (i%zs.length) undef
theorem BP{st:St}{l:List G}(ho:o.op= .buildSlice t n parts)(hd:H_d o st.n)(he:dp P t=some e)(hs:bw P e=some s)(hz:jj P e=some zs)(d:zs.length=s)(hn:n*s<=16777216)(y:n<=1000000)
  (hg:rx (λi=>some (i*s,s)) ((bN zs (n*s)).map .lit) (parts.toList.map λp=>(p.1,aB st p.2))=some l) (hpl:zB st pl):GS P o st (st.newP pl o.dst e l (.rsl (iT st pl) 0 n)):=by
 intro cx a w K R ⟨β,h⟩ A
 obtain⟨i,z,hi,hz',m,h1⟩:=ii hz
 have ht:=cE he
 have hzz:∀v∈bN zs (n*s),v.oneCell'=true:=by
  intro v hv;simp only[bN,List.mem_map,List.mem_range] at hv;obtain⟨k,hk,rfl⟩:=hv;have hpos:0<zs.length:=by
   rcases Nat.eq_zero_or_pos zs.length with h0|h0
   .rw[<-d,h0] at hk;simp at hk
   .exact h0
  have hlt:=Nat.mod_lt k hpos;rw[List.getD_eq_getElem?_getD,cv hlt];exact h1 _ (List.getElem_mem hlt)
 obtain⟨us,q,hr⟩:=sE (β:=β) (S:=Av cx.S0 β st.σ) (w:=w) (e:=a.eval) (λx=>h.ev x) parts.toList (Rw.lits hzz) hg
 have hlen:∀(ps:List (Nat×G)) (b out:List G),rx (λi=>some (i*s,s)) b ps=some out->out.length=b.length:=by
  intro ps;induction ps with
  |nil=>intro b out h;simp[rx] at h;rw[h]
  |cons p r ih=>
   intro b out h;obtain⟨k,g⟩:=p;simp only[rx] at h;split at h
   .rename_i B sz D hp hc;split at h
    .rename_i hb;rw[ih _ _ h];simp;omega
    .cases h
   .cases h
 have hll:l.length=n*s:=by rw[hlen _ _ _ hg];simp[bN]
 have hnew:(newRow e us.toArray).run P w= .ok ⟨w.heap.size,0,none⟩ (w.alloc (.cells us.toArray e)):=by simp[newRow]
 have hrun:(execOp a.eval o).run P w= .ok (.value (.slice (some ⟨w.heap.size,0,none⟩) n n)) (w.alloc (.cells us.toArray e)):=by
  unfold execOp;simp only[ho];unfold Instr.buildSlice;simp only[Sem.run_bind,run_underlying ht,Result.andThen_ok,dG hs];have e1:¬(n*s>2^24):=aa;rw[if_neg e1];have hparts:(parts.map λ(x:Nat×Operand)=>(x.1,a.eval x.2)).toList=parts.toList.map λp=>(p.1,a.eval p.2):=aC;by_cases h0:n*s=0
  .have hrep:∀f:Nat->Value,(Array.range 0).map f=(bN zs (n*s)).toArray:=λf=>by rw[h0];simp[bN]
   simp only[h0,if_true,Sem.run_bind,Sem.run_pure,Result.andThen_ok];simp only[hrep,hparts,q,Sem.run_bind,hnew,Result.andThen_ok,Sem.run_pure]
  .have hrep:((Array.range (n*s)).map λx=>z.cells[x%z.cells.size]!)=(bN zs (n*s)).toArray:=by
    apply Array.ext (by simp[bN]);intro j h1' h2';have hj:j<n*s:=by simpa using h1'
    have hpos:0<zs.length:=by
     rcases Nat.eq_zero_or_pos zs.length with h0|h0
     .rw[<-d,h0] at hj;simp at hj
     .exact h0
    have hlt:=Nat.mod_lt j hpos;have hsz:z.cells.size=zs.length:=by rw[<-m];simp
    simp only[Array.getElem_map,Array.getElem_range,bN,List.getElem_toArray,List.getElem_map,List.getElem_range,hsz];rw[List.getD_eq_getElem?_getD,cv hlt,getElem!_pos z.cells _ aa];simp only[Option.getD_some,<-m,Array.getElem_toList]
   have hzv:(zeroValue e).run P w= .ok z w:=by simp[zeroValue,typeInfo,hi,hz']
   simp only[h0,if_false,Sem.run_bind,Sem.run_pure,Result.andThen_ok,hzv,hrep,hparts,q,hnew]
 refine h.loose.oper (λc hc=>by rw[ho] at hc;cases hc) ?_
 unfold Oper.wp
 rw[hrun]
 have hul:us.length=n*s:=by rw[hr.1,hll]
 refine A _ _ (h.newP (hpl:=hpl) (C:=n) (by rw[rv hs];simpa using hul) (by unfold maxLen;omega) (by simp[hul,hll]) (λj u hu=>hr.2.1 u (bO (by simpa using hu))) (λj g u hg hu=>hr.2.2 j g u hg (by simpa using hu)) o.dst hd (λE hb S w'=> .rsl _ _ _ _ _ _ _ hb (Nat.le_refl _) (by unfold maxLen;omega) (λ_=>rfl) (λ_=>⟨rfl,rfl⟩)))
end
section
variable {P:Program}
theorem zC(w:World)(b:Nat)(t ty e:TypeId)(i:TypeInfo)(size:Nat)(ht:P.underlying t=some (.slice e))(hi:P.info? e=some i)
  (v:Value) (n:Nat) (xs:List Value) (a:w.ownsRow b e size v n xs) (A:Option Addr) (c:Nat):(Builtin.append_ #[t,t] ty #[v,.slice A 0 c]).run P w= .ok v w:=by
 rcases a.2 with⟨rfl,rfl⟩|⟨g,cap,cur,rfl,_,_,d,_⟩
 .cases A<;>simp[Builtin.append_,run_underlying ht,sizeOf,typeInfo,hi,Builtin.lenOf,Builtin.firstCells,loadCells,loadCellsFrom]
 .cases A<;>simp[Builtin.append_,run_underlying ht,sizeOf,typeInfo,hi,Builtin.lenOf,Builtin.firstCells,d,loadCells,loadCellsFrom,storeCells]
theorem BQ(w:World)(t ty e:TypeId)(i:TypeInfo)(z:Value)(size d:Nat)(ht:P.underlying t=some (.slice e))(hi:P.info? e=some i)(hz:i.zero=some z)
  (hsize:i.size=size) (l:i.bytes=d) (o:z.cells.size=size) (hsz:0<size)
  (v:Value) (n:Nat) (xs:List Value) (f:w.ownsRow 0 e size v n xs)
  (A:Option Addr) (m c:Nat) (b:List Value) (hl:b.length=m*size) (g:∀(j:Nat) (u:Value),b[j]?=some u->∃a,A=some a/\w.cell? (a.add j)=some u) (h1:∀u∈b,u.oneCell'=true)
  (p:n+m<=maxLen) (h:(n+m)*d<=140737488355328):
  ∃k w',(Builtin.append_ #[t,t] ty #[v,.slice A m c]).run P w= .ok k w'/\w'.ownsRow 0 e size k (n+m) (xs++b)/\w.grownBy w' v.ownBlock/\(k.ownBlock=v.ownBlock\/k.ownBlock=some w.heap.size):=by
 rcases Nat.eq_zero_or_pos m with hm|hm
 .subst hm
  have hn:b=[]:=List.eq_nil_of_length_eq_zero (by rw[hl,Nat.zero_mul])
  subst hn
  exact⟨v,w,zC w 0 t ty e i size ht hi v n xs f A c,by simpa using f,World.grownBy.refl w _,.inl rfl⟩
 .cases A with
  |none=>obtain⟨u,hu⟩:∃u,b[0]?=some u:=⟨_,cv (by rw[hl];exact Nat.mul_pos hm hsz)⟩;obtain⟨a,ha,_⟩:=g 0 u hu;cases ha
  |some a=>obtain⟨k,w',hr,h2,h3,h4,_⟩:=zw (P:=P) w 0 t ty e i z size d ht hi hz hsize l o hsz v n xs f a m c b hl (λj u hu=>by obtain⟨q,ha,hc⟩:=g j u hu;cases ha;exact hc) h1 hm p h (Nat.zero_le _);exact⟨k,w',hr,h2,h3,h4⟩
def fO(σ:aQ)(s:Nat):G->Option (List G×Nat)
 | .sl l m=>if l.length=m*s then some (l,m) else none
 | .rsl j o m=>(ag σ j).bind λob=>if o+m*s<=ob.l.length then some ((ob.l.drop o).take (m*s),m) else none
 | .lit (.slice none 0 _)=>some ([],0)
 |_=>none
theorem xN{cx:Cx}{st:St}{β:Bm}(h:RelB P cx st a w β){x:G}{l:List G}(hx:RV β (Av cx.S0 β st.σ) w x v)(hg:fO st.σ s x=some (l,m)):
  ∃A c d,v= .slice A m c/\d.length=m*s/\Rw β (Av cx.S0 β st.σ) w l d/\(∀(j:Nat) (u:Value),d[j]?=some u->∃a,A=some a/\w.cell? (a.add j)=some u):=by
 cases x with
 |sl l' m'=>
  simp only[fO] at hg
  split at hg
  .rename_i hl
   simp at hg
   obtain⟨rfl,rfl⟩:=hg
   obtain⟨A,cap,us,rfl,hn,hm,ha,h1,hr⟩:=hx.sl_cells
   have hu:∀(j:Nat) (u:Value),((List.range l'.length).map us)[j]?=some u->j<l'.length/\u=us j:=by
    intro j u hu;have hlt:=(cr hu).1;have hlt':j<l'.length:=by simpa using hlt
    rw[List.getElem?_map,List.getElem?_range hlt'] at hu;simp at hu;exact⟨hlt',hu.symm⟩
   refine⟨A,cap,(List.range l'.length).map us,rfl,by simp[hl],⟨aC,λu hu'=>?_,λi g u hg hu'=>?_⟩,λj u hu'=>?_⟩
   .obtain⟨j,hj⟩:=List.mem_iff_getElem?.1 hu'
    obtain⟨hlt,rfl⟩:=hu j u hj
    exact h1 j hlt
   .obtain⟨hlt,rfl⟩:=hu i u hu'
    exact .imm _ _ (hr i g hg)
   .obtain⟨hlt,rfl⟩:=hu j u hu'
    obtain⟨b,f,rfl,_,_,hc⟩:=ha j hlt
    exact⟨_,rfl,by rw[iS];exact hc⟩
  .cases hg
 |rsl j o m'=>
  simp only[fO,Option.bind_eq_some_iff] at hg
  obtain⟨ob,hob,hg⟩:=hg
  split at hg
  .rename_i hle
   simp at hg
   obtain⟨rfl,rfl⟩:=hg
   rcases hx.rsl_form with⟨hb,rfl,rfl⟩|⟨b,C,p,cap,hb,rfl,hn,hm,ho,hC⟩
   .exact⟨none,0,[],rfl,aC,⟨aC,aC,aC⟩,aC⟩
   .obtain⟨us,hc⟩:=(h.ob j ob hob).cells hb
    have hl:((ob.l.drop o).take (m'*s)).length=m'*s:=by simp;omega
    have hu:∀(k:Nat) (u:Value),((List.range (m'*s)).map λi=>us (o+i))[k]?=some u->k<m'*s/\u=us (o+k):=by
     intro k u hu;have hlt:=(cr hu).1;have hlt':k<m'*s:=by simpa using hlt
     rw[List.getElem?_map,List.getElem?_range hlt'] at hu;simp at hu;exact⟨hlt',hu.symm⟩
    refine⟨_,cap,(List.range (m'*s)).map λi=>us (o+i),rfl,aC,⟨by rw[hl];simp,λu hu'=>?_,λi g u hg hu'=>?_⟩,λk u hu'=>?_⟩
    .obtain⟨k,hk⟩:=List.mem_iff_getElem?.1 hu'
     obtain⟨hlt,rfl⟩:=hu k u hk
     exact hc.2.1 _ aa
    .obtain⟨hlt,rfl⟩:=hu i u hu'
     rw[List.getElem?_take,if_pos hlt,List.getElem?_drop] at hg
     exact hc.2.2 _ g hg
    .obtain⟨hlt,rfl⟩:=hu k u hu'
     have hpos:0<m':=by
      rcases Nat.eq_zero_or_pos m' with h0|h0
      .rw[h0] at hlt;simp at hlt
      .exact h0
     have e:=ho aa
     subst e
     have:=hc.1 (p+k) aa
     rw[Nat.zero_add] at this
     exact⟨_,rfl,by rw[iS];exact this⟩
  .cases hg
 |lit u=>
  cases u with
  |slice A n c=>
   cases A with
   |none=>
    cases n with
    |zero=>
     simp[fO] at hg
     obtain⟨rfl,rfl⟩:=hg
     have:=hx.lit_eq
     subst this
     exact⟨none,c,[],rfl,aC,⟨aC,aC,aC⟩,aC⟩
    |succ n=>simp[fO] at hg
   |some _=>simp[fO] at hg
  |_=>simp[fO] at hg
 |_=>simp[fO] at hg
def xO(σ:aQ)(c:Nat)(e:TypeId)(s:Nat):G->Option (Nat×Nat×List G)
 | .lit (.slice none 0 0)=>some (c,0,[])
 | .rsl i 0 n=>(ag σ i).bind λob=>if ob.t=e/\ob.l.length=n*s/\ob.x.isNone=true then some (i,n,ob.l) else none
 |_=>none
theorem yP{cx:Cx}{st:St}{β:Bm}(h:RelB P cx st a w β)(hs:bw P e=some s){gx:G}{vx:Value}(H:RV β (Av cx.S0 β st.σ) w gx vx){i n m:Nat}{l news:List G}{newsV:List Value}(hx:xO st.σ st.c e s gx=some (i,n,l))
  (hnl:newsV.length=m*s) (hnr:Rw β (Av cx.S0 β st.σ) w news newsV) {X:Value->World->Prop} (I:∀r w',X r w'->w.drawn<=w'.drawn) (O:∀xs,w.ownsRow 0 e s vx n xs->∃r w',X r w'/\w'.ownsRow 0 e s r (n+m) (xs++newsV)/\w.grownBy w' vx.ownBlock/\(r.ownBlock=vx.ownBlock\/r.ownBlock=some w.heap.size)) {d:Option Tmp} (hd:∀x,d=some x->x<st.n) {pl:Option Nat} (hpl:zB st pl):
  ∃r w',X r w'/\mh P cx ({st with σ:=(iT st pl,some ⟨e,l++news,none⟩)::(i,none)::st.σ,c:=ZS st pl}.put d (.rsl (iT st pl) 0 (n+m))) (a.put d r) w':=by
 obtain⟨xs,f,p,z⟩:∃xs,w.ownsRow 0 e s vx n xs/\Rw β (Av cx.S0 β st.σ) w l xs/\∀b,vx.ownBlock=some b->∃ob C,ag st.σ i=some ob/\β i=some (some (b,C)):=by
  have hx':=H;unfold xO at hx;split at hx
  .simp at hx;obtain⟨rfl,rfl,rfl⟩:=hx;rw[hx'.lit_eq];exact⟨[],World.ownsRow_nil w _ _ _,⟨aC,aC,aC⟩,by simp[Value.ownBlock]⟩
  .rename_i S L;rw[Option.bind_eq_some_iff] at hx;obtain⟨ob,hob,hx⟩:=hx;split at hx
   .rename_i hc;obtain⟨rfl,J,A⟩:=hc;simp at hx;obtain⟨rfl,rfl,rfl⟩:=hx;rcases hx'.rsl_form with⟨hb,hv,rfl⟩|⟨b,C,Q,cap,hb,hv,hn,hm,ho',hC⟩
    .rw[hv];refine⟨[],World.ownsRow_nil w _ _ _,?_,by simp[Value.ownBlock]⟩;have:ob.l=[]:=List.eq_nil_of_length_eq_zero (by simpa using J);rw[this];exact⟨aC,aC,aC⟩
    .rw[hv];rcases h.ob _ ob hob with⟨h1,_⟩|⟨M,N,Q,hx',_⟩|⟨M,C',cur,_,h1,h2,h3,h4,h5,h6⟩
     .rw[h1] at hb;cases hb
     .rw[hx'] at A;cases A
     .rw[h1] at hb;cases hb;obtain⟨B,D⟩:=hC rfl;subst B;have hcs:cur.size=cap*s:=by rw[h3,rv hs]
      have hns:L*s<=cur.size:=by rw[hcs];exact Nat.mul_le_mul_right _ hn
      subst D;refine⟨cur.toList.take (L*s),⟨by simp;omega,.inr ⟨b,cap,cur,rfl,Nat.zero_le _,h2,hn,hm,hcs,rfl⟩⟩,⟨by simp;omega,λu hu=>?_,λj g u hg hu=>?_⟩,λM hb'=>?_⟩
      .obtain⟨j,hj⟩:=List.mem_iff_getElem?.1 hu;rw[List.getElem?_take] at hj;split at hj
       .obtain⟨R,hu',h7,_⟩:=h6 j _ (cv aa);rw[Array.getElem?_toList,hu'] at hj;cases hj;exact h7
       .cases hj
      .rw[List.getElem?_take] at hu;split at hu
       .obtain⟨R,hu',_,h8⟩:=h6 j g hg;rw[Array.getElem?_toList,hu'] at hu;cases hu;exact h8
       .cases hu
      .simp[Value.ownBlock] at hb';subst hb';exact⟨ob,cap,hob,h1⟩
   .cases hx
  .cases hx
 obtain⟨r,w',E,v,q,hblk⟩:=O xs f
 refine⟨r,w',E,?_⟩
 have hkp:Keeps (λN=>vx.ownBlock=some N) w w':=⟨q.os,q.tape,q.output,q.size,λk hk hn=>q.block k hk (λx=>hn x.symm),I _ _ E⟩
 rcases v.2 with⟨rfl,K⟩|⟨g,cap,cur,rfl,_,hg,hle,hm,hcs,y⟩
 ·
  have hnone:vx.ownBlock=none:=by
   rcases hblk with hb|hb
   .rw[<-hb];rfl
   .simp[Value.ownBlock] at hb
  have h0:l++news=[]:=by
   have e1:=p.1;have e2:=hnr.1;have e3:=f.1;have a1:n=0:=aa;have a2:m=0:=aa;subst a1;subst a2;have b1:l.length=0:=by rw[<-e1,e3];simp
   have b2:news.length=0:=by rw[<-e2,hnl];simp
   rw[List.eq_nil_of_length_eq_zero b1,List.eq_nil_of_length_eq_zero b2];rfl
  have hw:=h.world (hkp.mono λb _ hb=>by rw[hnone] at hb;cases hb)
  have h00:n+m=0:=K
  rw[h0,h00]
  cases pl with
  |none=>
   have hv:=(hw.kill i).virt e (k:=st.c) (Nat.le_refl _)
   exact⟨_,hv.put d hd (.rsl0 _ _ (by simp[iT]))⟩
  |some k=>
   obtain⟨_,ob0,hr0,t⟩:=hpl
   have hk0:β k=some none:=by
    rcases h.ob k ob0 hr0 with⟨h1,_⟩|⟨b,x,o,h1,_,_,_,h5⟩|⟨b,C,cur,h1,_⟩
    .exact h1
    .rw[t] at h1;cases h1;exact h5.elim
    .rw[t] at h1;cases h1
   have hik:i≠k:=by
    intro e;unfold xO at hx;split at hx
    .cases hx;have:=h.fresh st.c (Nat.le_refl _);rw[e,hk0] at this;cases this
    .rw[Option.bind_eq_some_iff] at hx;obtain⟨ob,hob,hx⟩:=hx;split at hx
     .rename_i hc;cases hx;rw[e,hr0] at hob;cases hob;rw[t] at hc;exact absurd hc.2.2 aC
     .cases hx
    .cases hx
   have hv:=(hw.kill i).matV e (k:=k) (ob0:=ob0) (by show ag ((i,none)::st.σ) k=_;rw[am,if_neg hik];exact hr0) t
   exact⟨_,hv.put d hd (.rsl0 _ _ (by rw[show iT st (some k)=k from rfl,hk0];simp))⟩
 .have hgb:vx.ownBlock=some g\/w.heap.size<=g:=by
   rcases hblk with hb|hb
   .left;rw[<-hb];rfl
   .right;simp[Value.ownBlock] at hb;omega
  have hlen:(l++news).length<=cur.size:=by have e1:=p.1;have e2:=hnr.1;have e3:=f.1;rw[List.length_append,<-e1,<-e2,e3,hnl,<-Nat.add_mul,hcs];exact Nat.mul_le_mul_right _ hle
  have hw:=h.regrowP (hpl:=hpl) z hkp (b:=g) (C:=cap) (cur:=cur) (ob:=⟨e,l++news,none⟩) hgb hg (by rw[rv hs];exact hcs) hm hlen rfl (λj F hg'=>by
   have hlt:j<(l++news).length:=(cr hg').1;have hltc:j<cur.size:=Nat.lt_of_lt_of_le hlt hlen;have e1:=p.1;have e2:=hnr.1;have e3:=f.1;have hcu:cur[j]?=(xs++newsV)[j]? :=by
    rw[<-y,List.getElem?_take,if_pos,Array.getElem?_toList];have:(l++news).length=(n+m)*s:=by rw[List.length_append,<-e1,<-e2,e3,hnl,Nat.add_mul]
    omega
   rw[hcu];by_cases hj:j<l.length
   .have hg'':l[j]?=some F:=by simpa[List.getElem?_append_left hj] using hg'
    have hxj:xs[j]?=some (xs[j]'aa):=by simp[show j<xs.length by omega]
    refine⟨_,by rw[List.getElem?_append_left aa];exact hxj,p.2.1 _ (bO hxj),p.2.2 j F _ hg'' hxj⟩
   .have hg'':news[j-l.length]?=some F:=by simpa[List.getElem?_append_right (Nat.le_of_not_lt hj)] using hg'
    have hlt2:=(cr hg'').1;have hxj:newsV[j-l.length]?=some (newsV[j-l.length]'aa):=by simp[show j-l.length<newsV.length by omega]
    refine⟨_,by rw[List.getElem?_append_right aa,e1];exact hxj,hnr.2.1 _ (bO hxj),hnr.2.2 _ F _ hg'' hxj⟩)
  exact⟨_,hw.put d hd (.rsl _ _ _ _ _ _ _ aC hle hm (λ_=>rfl) (λ_=>⟨rfl,rfl⟩))⟩
theorem J4{st:St}{bytes:Nat}{l news:List G}(ho:o.op= .call {callee:= .builtin .append,args:= #[x,y],argTypes:= #[t,t]})(hd:H_d o st.n)
  (he:dp P t=some e) (hs:bw P e=some s) (hs0:0<s) (hz:jj P e=some zs) (p:zs.length=s) (g:(P.info? e).map (·.bytes)=some bytes)
  (hx:xO st.σ st.c e s (aB st x)=some (i,n,l)) (hy:fO st.σ s (aB st y)=some (news,m)) (q:n+m<=maxLen) (b:(n+m)*bytes<=140737488355328) (hpl:zB st pl):
  GS P o st ({st with σ:=(iT st pl,some ⟨e,l++news,none⟩)::(i,none)::st.σ,c:=ZS st pl}.put o.dst (.rsl (iT st pl) 0 (n+m))):=by
 intro cx a w K R ⟨β,h⟩ v
 obtain⟨ti,z,hi,hz',r,B⟩:=ii hz
 have ht:=cE he
 have hsize:ti.size=s:=by simp[bw,hi] at hs;exact hs
 have hbytes':ti.bytes=bytes:=by rw[hi] at g;simpa using g
 have hzc:z.cells.size=s:=by rw[<-p,<-r];simp
 obtain⟨A,c,f,hyv,hnl,hnr,u⟩:=xN h (h.ev y) hy
 obtain⟨k,w',hrun,hrel⟩:=yP h hs (h.ev x) hx hnl hnr (X:=λk w'=>(execOp a.eval o).run P w= .ok (.value k) w') (λk w' hr=>Ep _ _ _ _ _ hr) (λxs j=>by obtain⟨k,w',d,h2,h3,h4⟩:=BQ (P:=P) w t o.type e ti z s bytes ht hi hz' hsize hbytes' hzc hs0 (a.eval x) n xs j A m c f hnl u hnr.2.1 q b;refine⟨k,w',?_,h2,h3,h4⟩;unfold execOp;simp only[ho,resolve,invoke,builtin,Sem.run_bind,Sem.run_pure,Result.andThen_ok,List.map_toArray,List.map_cons,List.map_nil,hyv,d]) hd hpl
 refine h.loose.oper (λc hc=>by rw[ho] at hc;cases hc) ?_
 unfold Oper.wp
 rw[hrun]
 exact v _ _ hrel
end
section
variable {P:Program}
def Gls(gl:List (Nat×List G))(S:Nat->Prop)(w:World):Prop:=∀g l,gl.lookup g=some l->IV S w (.ptr l 0) (.pointer (some ⟨g,0,none⟩))
def ba(P:Program)(gl:List (Nat×List G))(f:FuncId)(gs:List G)(r:G):Prop:=
 ∀(w:World) (S:Nat->Prop) (vs:Array Value),(∀b,S b->b<w.heap.size)->Gls gl S w->vs.size=gs.length->(∀(i:Nat) (g:G) (u:Value),gs[i]?=some g->vs[i]?=some u->IV S w g u)->
  Calls P f vs w λe w'=>∃v,e= .returned v/\IV S w' r v/\Keeps (λ_=>False) w w'
def bB(g:G):Prop:=∀β S w v,RV β S w g v->IV S w g v
theorem mN(v:Value):bB (.lit v):=λβ S w u h=>by rw[h.lit_eq];exact .lit v
theorem FC(l:List G)(n:Nat):bB (.sl l n):=λβ S w u h=>by
 cases h with
 |imm _ _ h=>exact h
theorem Ah(l:List G)(o:Nat):bB (.ptr l o):=λβ S w u h=>by
 cases h with
 |imm _ _ h=>exact h
theorem J5(a:List Value)(vs:List G)(b:List Nat)(c:Nat):bB (.mp a vs b c):=λβ S w u h=>by
 cases h with
 |imm _ _ h=>exact h
theorem L6{l:List G}(hl:∀g∈l,bB g):bB (.agg l):=λβ S w u h=>by obtain⟨us,rfl,h2,h1,hr⟩:=h.agg_form;exact .agg _ _ h2 h1 λi g u hg hu=>hl g (bO hg) _ _ _ _ (hr i g u hg hu)
theorem L7{l:List G}(hl:∀g∈l,bB g):bB (.tup l):=λβ S w u h=>by obtain⟨us,rfl,h2,hr⟩:=h.tup_form;exact .tup _ _ h2 λi g u hg hu=>hl g (bO hg) _ _ _ _ (hr i g u hg hu)
theorem L8{fn:Fn}{a b:List G}(ha:∀g∈a,bB g)(hb:∀g∈b,bB g):bB (.clo fn a b):=λβ S w u h=>by obtain⟨fs,c,rfl,h1,h2,h3,h4⟩:=h.clo_form;exact .clo _ _ _ _ _ h1 h2 (λi g u hg hu=>ha g (bO hg) _ _ _ _ (h3 i g u hg hu)) (λi g u hg hu=>hb g (bO hg) _ _ _ _ (h4 i g u hg hu))
def ve(P:Program)(st:St)(g b:G):Prop:=∀cx a w β,RelB P cx st a w β->∀v,RV β (Av cx.S0 β st.σ) w g v->IV cx.S0 w b v
theorem jB{st:St}{g:G}(h:bB g):ve P st g g:=λcx a w β _ v hv=>(h _ _ _ _ hv).sub λ_ _ x=> .inl x
theorem L9{st:St}{l l':List G}(hl:l'.length=l.length)(h:∀(i:Nat) (g g':G),l[i]?=some g->l'[i]?=some g'->ve P st g g'):ve P st (.agg l) (.agg l'):=λcx a w β r v hv=>by
 obtain⟨us,rfl,h2,h1,hr⟩:=hv.agg_form;refine .agg _ _ aa h1 λi g u hg hu=>?_;have hlt:=(cr hg).1;have hx:l[i]?=some (l[i]'aa):=by simp[show i<l.length by omega]
 exact h i _ g hx hg cx a w β r u (hr i _ u hx hu)
theorem Ma{st:St}{l l':List G}(hl:l'.length=l.length)(h:∀(i:Nat) (g g':G),l[i]?=some g->l'[i]?=some g'->ve P st g g'):ve P st (.tup l) (.tup l'):=λcx a w β r v hv=>by
 obtain⟨us,rfl,h2,hr⟩:=hv.tup_form;refine .tup _ _ aa λi g u hg hu=>?_;have hlt:=(cr hg).1;have hx:l[i]?=some (l[i]'aa):=by simp[show i<l.length by omega]
 exact h i _ g hx hg cx a w β r u (hr i _ u hx hu)
theorem FD{st:St}{o:Nat}{ob:Ob}{l:List G}(ho:ag st.σ i=some ob)(hs:bw P ob.t=some s)(hle:o+n*s<=ob.l.length)(hl:l.length=n*s)(h:∀(j:Nat) (g c:G),ob.l[o+j]?=some g->l[j]?=some c->ve P st g c):ve P st (.rsl i o n) (.sl l n):=λcx a w β r v hv=>by
 rcases hv.rsl_form with⟨hb,rfl,rfl⟩|⟨b,C,d,cap,hb,rfl,hn,hm,ho',hC⟩
 .have:l=[]:=List.eq_nil_of_length_eq_zero (by simpa using hl);subst this;exact .sl [] 0 none 0 (λ_=>undef) (Nat.le_refl _) (Nat.zero_le _) aC aC aC
 .obtain⟨us,hc⟩:=(r.ob i ob ho).cells hb;refine .sl l n _ cap (λj=>us (o+j)) hn hm (λj hj=>?_) (λj hj=>hc.2.1 _ aa) (λj c hg'=>?_)
  .have hpos:0<n:=by
    rcases Nat.eq_zero_or_pos n with h0|h0
    .rw[h0,Nat.zero_mul] at hl;omega
    .exact h0
   have e:=ho' aa;subst e;have:=hc.1 (d+j) aa;rw[Nat.zero_add] at this;exact⟨b,d,rfl,r.sep i ob b C ho hb,r.lt ho hb,this⟩
  .have hlt:=(cr hg').1;have hx:ob.l[o+j]?=some (ob.l[o+j]'aa):=by simp[show o+j<ob.l.length by omega]
   exact h j _ c hx hg' cx a w β r _ (hc.2.2 _ _ hx)
theorem Mb{st:St}{o:Nat}{ob:Ob}{l:List G}(ho:ag st.σ i=some ob)(hl:l.length<=ob.l.length)(h:∀(j:Nat) (g c:G),ob.l[j]?=some g->l[j]?=some c->ve P st g c):ve P st (.ref i o) (.ptr l o):=λcx a w β r v hv=>by
 obtain⟨b,C,hb,rfl⟩:=hv.ref_addr;obtain⟨us,hc⟩:=(r.ob i ob ho).cells hb;have:=IV.ptr (S:=cx.S0) (w:=w) l o b 0 us (r.sep i ob b C ho hb) (r.lt ho hb) (λj hj=>hc.1 j aa) (λj hj=>hc.2.1 j aa) (λj c hg'=>by
  have hlt:=(cr hg').1;have hx:ob.l[j]?=some (ob.l[j]'aa):=by simp[show j<ob.l.length by omega]
  exact h j _ c hx hg' cx a w β r _ (hc.2.2 _ _ hx))
 simpa using this
def jV(P:Program)(st:St):ResultVar->Option G
 | .tmp t=>some (aD st.fr t)
 | .cell a t=>jU P st.σ t (aD st.fr a)
def bQ:Nat->List G->Fr
 |_,[]=>[]
 |k,g::r=>(k,g)::bQ (k+1) r
theorem px:∀(gs:List G) (k i:Nat),aD (bQ k gs) i=if k<=i then(gs[i-k]?).getD .junk else .junk
 |[],k,i=>by simp[bQ,aD]
 |g::r,k,i=>by
  rw[bQ,aO,px r (k+1) i];by_cases h:k=i
  .subst h;simp
  .rw[if_neg h];by_cases h2:k+1<=i
   .rw[if_pos h2,if_pos aa];have:i-k=(i-(k+1))+1:=aa;rw[this,List.getElem?_cons_succ]
   .rw[if_neg h2,if_neg aa]
def St.enter(fn:Func)(gl:List (Nat×List G))(gs:List G):St:=⟨fn.ntmps,gl,bQ 0 gs,[],0,0,false⟩
def iU:List G->G
 |[g]=>g
 |gs=> .tup gs
def tH(P:Program)(fn:Func)(r:G)(e:Exit)(st:St):Prop:=(e= .normal\/e= .ret)/\∃gs,fn.results.toList.mapM (jV P st)=some gs/\ve P st (iU gs) r
theorem BR{cx:Cx}{st:St}{a:Act}{w:World}{β:Bm}(h:RelB P cx st a w β):∀(rs:List ResultVar) (gs:List G),rs.mapM (jV P st)=some gs->
  ∃vs,(rs.mapM λ(x:ResultVar)=>(match x with| .tmp t=>pure (a.tmps.getD t undef)| .cell b t=>do loadVar t (<-asAddr (a.tmps.getD b undef)):Sem Value)).run P w= .ok vs w/\vs.length=gs.length/\∀(i:Nat) (g:G) (u:Value),gs[i]?=some g->vs[i]?=some u->RV β (Av cx.S0 β st.σ) w g u
 |[],gs,hm=>by simp at hm;subst hm;exact⟨[],aC,rfl,aC⟩
 |r::rs,gs,hm=>by
  simp only[List.mapM_cons,Option.bind_eq_bind,Option.bind_eq_some_iff,Option.pure_def,bg] at hm;obtain⟨g,hg,d,hgs,rfl⟩:=hm;obtain⟨vs,hv,hl,hr⟩:=BR h rs d hgs;obtain⟨v,c,hr1⟩:∃v,((match r with| .tmp t=>pure (a.tmps.getD t undef)| .cell b t=>do loadVar t (<-asAddr (a.tmps.getD b undef)):Sem Value)).run P w= .ok v w/\RV β (Av cx.S0 β st.σ) w g v:=by
   cases r with
   |tmp t=>simp[jV] at hg;subst hg;exact⟨_,aC,h.fr t⟩
   |cell b t=>
    simp only[jV] at hg;obtain⟨u,hu,hr⟩:=Eb h (h.fr b) hg;refine⟨u,?_,hr⟩;simp only[Instr.loadAt,Sem.run_bind] at hu⊢;cases hx:a.tmps.getD b undef with
    |pointer p=>
     cases p with
     |none=>rw[hx] at hu;simp[Instr.sureAddr,stuck] at hu
     |some p=>rw[hx] at hu;simpa[Instr.sureAddr,asAddr] using hu
    |_=>rw[hx] at hu;simp[Instr.sureAddr,stuck] at hu
  refine⟨v::vs,?_,by simp[hl],λi e u hg' hu=>?_⟩
  .simp only[List.mapM_cons,Sem.run_bind,c,Result.andThen_ok,hv,Sem.run_pure]
  .cases i with
   |zero=>simp at hg' hu;subst hg';subst hu;exact hr1
   |succ i=>exact hr i e u (by simpa using hg') (by simpa using hu)
theorem HL{gl:List (Nat×List G)}{f:FuncId}{c:Code}{gs:List G}{r:G}(hf:P.funcs[f]?=some fn)(hb:fn.body=some c)(hn:gs.length<=fn.ntmps)(h:Tr P c (St.enter fn gl gs) (tH P fn r)):ba P gl f gs r:=by
 intro w S vs hS p hsz m;refine rq (cx:=⟨w,λ_=>False,S,λ_=>none,Fence.wide,9⟩) hf hb h rfl rfl ⟨λ_=>none,?_⟩ ?_
 .have hav:∀b,Av S (λ_=>none) [] b->S b:=by
   rintro b (hx|⟨i,ob,C,ho,_⟩)
   .exact hx
   .cases ho
  exact{
   size:=by simp[St.enter,hsz];omega
   defers:= .nil rfl
   loose:=lP
   rnd:=λ_=>rfl
   fr:=λi=>by
    show RV _ _ w (aD (bQ 0 gs) i) _;rw[px];simp only[Nat.zero_le,if_true,Nat.sub_zero];cases hg:gs[i]? with
    |none=>exact .junk _
    |some g=>
     have hlt:=(cr hg).1;have hu:vs[i]?=some (vs[i]'aa):=by simp[show i<vs.size by omega]
     refine .imm _ _ (IV.sub (S:=S) ?_ (λb _=>hav b));have e:(vs++Array.replicate (fn.ntmps-vs.size) undef).getD i undef=vs[i]'aa:=by rw[Array.getD_eq_getD_getElem?,Array.getElem?_append_left aa,hu];rfl
     rw[e];exact m i g _ hg hu
   ob:=λi o ho=>by cases ho
   inj:=λi j o s b C D hi=>by cases hi
   own:=λi o b C hi=>by cases hi
   sep:=λi o b C hi=>by cases hi
   fresh:=λ_ _=>rfl
   glob:=λg l hl=>(p g l hl).sub (λb _=>hav b)
   keep:=Keeps.refl _ _
   old:=hS
   pin:=λi x hx=>by cases hx}
 .rintro e st' q w' ⟨he,k,hgs,d⟩ ⟨β,hr⟩;obtain⟨us,n,hl,a⟩:=BR hr _ _ hgs;have hres:(results fn q.tmps).run P w'= .ok (if h:us.toArray.size=1 then us.toArray[0] else .tuple us.toArray) w':=by unfold results;rw[Array.mapM_eq_mapM_toList];simp only[Sem.run_bind,Sem.run_map];erw[n];rfl
  have hv:RV β (Av S β st'.σ) w' (iU k) (if h:us.toArray.size=1 then us.toArray[0] else .tuple us.toArray):=by
   match k,us,hl,a with
   |[],[],_,_=>exact .tup _ _ rfl aC
   |[g],[u],_,a=>exact a 0 g u rfl rfl
   |g::g'::gr,u::u'::ur,hl,a=>exact .tup _ _ (by simpa using hl) (λi x y hx hy=>a i x y hx (by simpa using hy))
  exact⟨he,_,hres,_,rfl,d _ _ _ β hr _ hv,hr.keep⟩
attribute [irreducible] tH
def aK(P:Program)(f:FuncId):Bool:=match P.funcs[f]? with
 |some fn=>fn.body.isSome&& !(fn.name== "runtime.NumGoroutine")
 |none=>false
theorem wq{f:FuncId}(h:aK P f=true)(args:Array Value)(w:World):(callFunc f args).run P w= .ok (.enter f args) w:=by
 unfold aK at h;split at h
 .rename_i fn hf;simp only[bA,Bool.not_eq_true'] at h;obtain⟨h1,h2⟩:=h;obtain⟨c,hc⟩:=Option.isSome_iff_exists.1 h1;have h3:¬fn.name= "runtime.NumGoroutine" :=by simpa using h2
  unfold callFunc;simp[program,Sem.run,hf,h3,hc]
 .cases h
theorem lQ{st:St}{cx:Cx}{β:Bm}(h:RelB P cx st a w β){fst cap:List G}(ho:o.op= .call {callee:= .value f,args:=xs,argTypes:=ats})(hf:aB st f= .clo (.func fid) fst cap)(hc:aK P fid=true):
  ∃vs:Array Value,(execOp a.eval o).run P w= .ok (.enter fid vs) w/\vs.size=(fst++xs.toList.map (aB st)++cap).length/\∀(i:Nat) (g:G) (u:Value),(fst++xs.toList.map (aB st)++cap)[i]?=some g->vs[i]?=some u->RV β (Av cx.S0 β st.σ) w g u:=by
 have hx:=h.ev f
 rw[hf] at hx
 obtain⟨fs,b,hv,h1,h2,h3,h4⟩:=hx.clo_form
 refine⟨fs++xs.map a.eval++b,?_,by simp[h1,h2],λi g u hg hu=>?_⟩
 .unfold execOp
  simp[ho,resolve,hv,Deferred.ofValue,invoke,wq hc]
 .by_cases c1:i<fst.length
  .rw[List.append_assoc,List.getElem?_append_left c1] at hg
   rw[Array.append_assoc,Array.getElem?_append_left aa] at hu
   exact h3 i g u hg hu
  .by_cases c2:i<fst.length+xs.size
   .rw[List.append_assoc,List.getElem?_append_right aa,List.getElem?_append_left cq,List.getElem?_map] at hg
    rw[Array.append_assoc,Array.getElem?_append_right aa,Array.getElem?_append_left cq,Array.getElem?_map,h1] at hu
    rw[Array.getElem?_toList] at hg
    cases hxi:xs[i-fst.length]? with
    |none=>rw[hxi] at hg;cases hg
    |some x=>
     rw[hxi] at hg hu
     simp at hg hu
     subst hg;subst hu
     exact h.ev x
   .rw[List.getElem?_append_right cq] at hg
    rw[Array.getElem?_append_right cq] at hu
    refine h4 (i-(fst.length+xs.size)) g u ?_ ?_
    .rw[<-hg];congr 1;simp
    .rw[<-hu];congr 1;simp[h1]
theorem wt{st:St}{fst cap:List G}{r:G}(ho:o.op= .call {callee:= .value f,args:=xs,argTypes:=ats})(hd:H_d o st.n)(hf:aB st f= .clo (.func fid) fst cap)(hc:aK P fid=true)
  (hi:∀g∈fst++xs.toList.map (aB st)++cap,bB g) (hF:ba P st.gl fid (fst++xs.toList.map (aB st)++cap) r):GS P o st (st.put o.dst r):=by
 intro cx a w K R ⟨β,h⟩ d
 obtain⟨vs,hrun,hsz,hr⟩:=lQ h ho hf hc
 refine h.loose.oper (λc hc=>by rw[ho] at hc;cases hc) ?_
 unfold Oper.wp
 rw[hrun]
 refine(hF w (Av cx.S0 β st.σ) vs (λb hb=>?_) h.glob hsz (λi g u hg hu=>hi g (bO hg) _ _ _ _ (hr i g u hg hu))).mono ?_
 .rcases hb with hb|⟨i,ob,C,h1,h2⟩
  .exact h.keep.lt (h.old b hb)
  .exact h.lt h1 h2
 .rintro e w' ⟨v,rfl,hv,hk⟩
  exact d _ _ ⟨β,(h.world hk).put o.dst hd (.imm _ _ hv)⟩
def zD(g:G):Prop:=∀S S' w w' v,IV S w g v->IV S' w' g v
theorem lR(v:Value):zD (.lit v):=λS S' w w' u h=>by cases h;exact .lit v
theorem HM{l:List G}(hl:∀g∈l,zD g):zD (.agg l):=λS S' w w' u h=>by
 cases h with
 |agg _ us hl' h1 h=>exact .agg _ us hl' h1 λi g u hg hu=>hl g (bO hg) _ _ _ _ _ (h i g u hg hu)
theorem HN{l:List G}(hl:∀g∈l,zD g):zD (.tup l):=λS S' w w' u h=>by
 cases h with
 |tup _ us hl' h=>exact .tup _ us hl' λi g u hg hu=>hl g (bO hg) _ _ _ _ _ (h i g u hg hu)
theorem Ai{st:St}{fst cap gs:List G}{r:G}(ho:o.op= .call {callee:= .value f,args:=xs,argTypes:=ats})(hd:H_d o st.n)(hf:aB st f= .clo (.func fid) fst cap)(hc:aK P fid=true)
  (hl:gs.length=(fst++xs.toList.map (aB st)++cap).length) (hi:∀(i:Nat) (g g':G),(fst++xs.toList.map (aB st)++cap)[i]?=some g->gs[i]?=some g'->ve P st g g') (hF:ba P st.gl fid gs r) (hr:zD r):GS P o st (st.put o.dst r):=by
 intro cx a w K R ⟨β,h⟩ d
 obtain⟨vs,hrun,hsz,hv⟩:=lQ h ho hf hc
 refine h.loose.oper (λc hc=>by rw[ho] at hc;cases hc) ?_
 unfold Oper.wp
 rw[hrun]
 refine(hF w cx.S0 vs (λb hb=>h.keep.lt (h.old b hb)) (λg l hl=>(h.glob g l hl).sub λ_ _ x=> .inl x) aa (λi g u hg hu=>?_)).mono ?_
 .have hlt:=(cr hg).1
  have hx:(fst++xs.toList.map (aB st)++cap)[i]?=some ((fst++xs.toList.map (aB st)++cap)[i]'aa):=by rw[cv]
  exact hi i _ g hx hg cx a w β h u (hv i _ u hx hu)
 .rintro e w' ⟨v,rfl,hv,hk⟩
  exact d _ _ ⟨β,(h.world hk).put o.dst hd (.imm _ _ (hr _ _ _ _ _ hv))⟩
end
section
variable {P:Program}
def dq(ρ:List (Nat×Nat))(i:Nat):Option Nat:=ρ.lookup i
def Wk(P:Program)(st:St)(ρ:List (Nat×Nat))(g c:G):Prop:=∀cx a w β,RelB P cx st a w β->∀v,RV β (Av cx.S0 β st.σ) w g v->
 RV (λi=>(dq ρ i).bind β) (λb=>cx.S0 b\/∃i j ob C,dq ρ i=some j/\ag st.σ j=some ob/\β j=some (some (b,C))) w c v
theorem FE{st:St}{g:G}:Wk P st ρ g .junk:=λ_ _ _ _ _ v _=> .junk v
theorem ry{st:St}{g:G}(h:bB g):Wk P st ρ g g:=λcx a w β r v hv=> .imm _ _ ((h _ _ _ _ hv).sub λb _ hb=>by
 rcases hb with hb|⟨i,j,ob,C,_,h1,h2⟩
 .exact .inl hb
 .exact .inr ⟨j,ob,C,h1,h2⟩)
theorem VH{st:St}{o:Nat}(h:dq ρ i=some j):Wk P st ρ (.ref j o) (.ref i o):=λcx a w β r v hv=>by obtain⟨b,C,hb,rfl⟩:=hv.ref_addr;exact .ref i o b C (by simp[h,hb])
theorem SU{st:St}(h:dq ρ i=some j):Wk P st ρ (.mref j) (.mref i):=λcx a w β r v hv=>by obtain⟨b,C,hb,rfl⟩:=hv.mref_form;exact .mref i b C (by simp[h,hb])
theorem VI{st:St}(h:dq ρ i=some j):Wk P st ρ (.yld j) (.yld i):=λcx a w β r v hv=>by obtain⟨b,C,hb,rfl⟩:=hv.yld_form;exact .yld i b C (by simp[h,hb])
theorem P4{st:St}{i j o n:Nat}(h:dq ρ i=some j):Wk P st ρ (.rsl j o n) (.rsl i o n):=λcx a w β r v hv=>by
 rcases hv.rsl_form with⟨hb,rfl,rfl⟩|⟨b,C,c,cap,hb,rfl,hn,hm,ho',hC⟩
 .exact .rsl0 i o (by simp[h,hb])
 .exact .rsl i o n b C c cap (by simp[h,hb]) hn hm ho' hC
theorem VJ{st:St}{l l':List G}(hl:l'.length=l.length)(h:∀(i:Nat) (g g':G),l[i]?=some g->l'[i]?=some g'->Wk P st ρ g g'):Wk P st ρ (.agg l) (.agg l'):=λcx a w β r v hv=>by
 obtain⟨us,rfl,h2,h1,hr⟩:=hv.agg_form;refine .agg _ _ aa h1 λi g u hg hu=>?_;have hlt:=(cr hg).1;have hx:l[i]?=some (l[i]'aa):=by simp[show i<l.length by omega]
 exact h i _ g hx hg cx a w β r u (hr i _ u hx hu)
theorem VK{st:St}{l l':List G}(hl:l'.length=l.length)(h:∀(i:Nat) (g g':G),l[i]?=some g->l'[i]?=some g'->Wk P st ρ g g'):Wk P st ρ (.tup l) (.tup l'):=λcx a w β r v hv=>by
 obtain⟨us,rfl,h2,hr⟩:=hv.tup_form;refine .tup _ _ aa λi g u hg hu=>?_;have hlt:=(cr hg).1;have hx:l[i]?=some (l[i]'aa):=by simp[show i<l.length by omega]
 exact h i _ g hx hg cx a w β r u (hr i _ u hx hu)
theorem VL{st:St}{fn:Fn}{l l' m m':List G}(hl:l'.length=l.length)(hm:m'.length=m.length)(h:∀(i:Nat) (g g':G),l[i]?=some g->l'[i]?=some g'->Wk P st ρ g g')(h':∀(i:Nat) (g g':G),m[i]?=some g->m'[i]?=some g'->Wk P st ρ g g'):Wk P st ρ (.clo fn l m) (.clo fn l' m'):=λcx a w β r v hv=>by
 obtain⟨fs,b,rfl,h1,h2,h3,h4⟩:=hv.clo_form;refine .clo _ _ _ _ _ aa aa (λi g u hg hu=>?_) (λi g u hg hu=>?_)
 .have hlt:=(cr hg).1;have hx:l[i]?=some (l[i]'aa):=by simp[show i<l.length by omega]
  exact h i _ g hx hg cx a w β r u (h3 i _ u hx hu)
 .have hlt:=(cr hg).1;have hx:m[i]?=some (m[i]'aa):=by simp[show i<m.length by omega]
  exact h' i _ g hx hg cx a w β r u (h4 i _ u hx hu)
theorem BS{st:St}{ρ:List (Nat×Nat)}{i o n s:Nat}{ob:Ob}(hk:∀p∈ρ,p.2≠i)(ho:ag st.σ i=some ob)(hs:bw P ob.t=some s)(hle:o+n*s<=ob.l.length)(h:∀g∈ob.l,bB g):Wk P st ρ (.rsl i o n) (.sl ((ob.l.drop o).take (n*s)) n):=λcx a w β r v hv=>by
 have hav:∀b C,β i=some (some (b,C))->¬(cx.S0 b\/∃k j c D,dq ρ k=some j/\ag st.σ j=some c/\β j=some (some (b,D))):=by
  rintro b C hb (hx|⟨k,j,c,D,h1,h2,h3⟩)
  .exact r.sep i ob b C ho hb hx
  .have:=r.inj i j ob c b C D ho h2 hb h3;subst this;unfold dq at h1;rw[List.lookup_eq_some_iff] at h1;obtain⟨l1,l2,rfl,_⟩:=h1;exact hk (k,i) aC rfl
 rcases hv.rsl_form with⟨hb,rfl,rfl⟩|⟨b,C,d,cap,hb,rfl,hn,hm,ho',hC⟩
 .have:(ob.l.drop o).take (0*s)=[]:=aC;rw[this];exact .imm _ _ (.sl [] 0 none 0 (λ_=>undef) (Nat.le_refl _) (Nat.zero_le _) aC aC aC)
 .obtain⟨us,hc⟩:=(r.ob i ob ho).cells hb;have hl:((ob.l.drop o).take (n*s)).length=n*s:=by simp;omega
  refine .imm _ _ (.sl _ n _ cap (λj=>us (o+j)) hn hm (λj hj=>?_) (λj hj=>hc.2.1 _ aa) (λj f hg'=>?_))
  .have hpos:0<n:=by
    rcases Nat.eq_zero_or_pos n with h0|h0
    .rw[hl,h0,Nat.zero_mul] at hj;omega
    .exact h0
   have e:=ho' aa;subst e;have:=hc.1 (d+j) aa;rw[Nat.zero_add] at this;exact⟨b,d,rfl,hav b C hb,r.lt ho hb,this⟩
  .have hlt:=(cr hg').1;rw[List.getElem?_take,if_pos aa,List.getElem?_drop] at hg';have:=(h f (bO hg') _ _ _ _ (hc.2.2 _ _ hg'));exact this.sub λq _ hb'=>by
    rcases hb' with hb'|⟨k,m,c,D,_,h1,h2⟩
    .exact .inl hb'
    .exact .inr ⟨m,c,D,h1,h2⟩
def J6(P:Program)(st:St)(ρ:List (Nat×Nat))(fr:Fr):Prop:=∀d,Wk P st ρ (aD st.fr d) (aD fr d)
theorem P5{st:St}{ob:Ob}{cx:Cx}{w:World}{β:Bm}(r:RelB P cx st a w β)(hk:∀p∈ρ,p.2≠i)(ho:ag st.σ i=some ob){C:Nat}(hb:β i=some (some (b,C))):¬(cx.S0 b\/∃k j c D,dq ρ k=some j/\ag st.σ j=some c/\β j=some (some (b,D))):=by
 rintro(hx|⟨k,j,c,D,h1,h2,h3⟩)
 .exact r.sep i ob b C ho hb hx
 .have:=r.inj i j ob c b C D ho h2 hb h3;subst this;unfold dq at h1;rw[List.lookup_eq_some_iff] at h1;obtain⟨l1,l2,rfl,_⟩:=h1;exact hk (k,i) aC rfl
theorem J7{st:St}{o:Nat}{ob:Ob}{l:List G}(hk:∀p∈ρ,p.2≠i)(ho:ag st.σ i=some ob)(hl:l.length=ob.l.length)(h:∀(j:Nat) (g c:G),ob.l[j]?=some g->l[j]?=some c->Wk P st ρ g c)(hi:∀g∈l,bB g):Wk P st ρ (.ref i o) (.ptr l o):=λcx a w β r v hv=>by
 obtain⟨b,C,hb,rfl⟩:=hv.ref_addr;obtain⟨us,hc⟩:=(r.ob i ob ho).cells hb;have:=IV.ptr (S:=λb=>cx.S0 b\/∃i j ob C,dq ρ i=some j/\ag st.σ j=some ob/\β j=some (some (b,C))) (w:=w) l o b 0 us (P5 r hk ho hb) (r.lt ho hb) (λj hj=>hc.1 j aa) (λj hj=>hc.2.1 j aa) (λj c hg'=>by
  have hlt:=(cr hg').1;have hx:ob.l[j]?=some (ob.l[j]'aa):=by simp[show j<ob.l.length by omega]
  exact hi c (bO hg') _ _ _ _ (h j _ c hx hg' cx a w β r _ (hc.2.2 _ _ hx)))
 exact .imm _ _ (by simpa using this)
theorem HO{st:St}{l:List G}{es:List (Value×G×Nat)}(hk:∀p∈ρ,p.2≠i)(ho:ag st.σ i=some ⟨t,l,some (.map es clock)⟩)(hi:∀e∈es,bB e.2.1):Wk P st ρ (.mref i) (.mp (es.map (·.1)) (es.map (·.2.1)) (es.map (·.2.2)) clock):=λcx a w β r v hv=>by
 obtain⟨b,C,hb,rfl⟩:=hv.mref_form;rcases r.ob i _ ho with⟨_,_,h3⟩|⟨f,x,o,h1,h2,h3,h4,h5⟩|⟨f,C',cur,h1,_⟩
 .rcases h3 with h3|h3<;>cases h3
 .cases h1;have c:=hb;rw[h3] at hb;cases hb;obtain⟨ents,rfl,e2,e3⟩:=h5;have hav:=P5 r hk ho c;refine .imm _ _ (.mp _ _ _ _ _ ents hav (r.lt ho c) h4 (by simp[e2]) ?_ ?_ λj g e hg he=>?_)
  .apply List.ext_getElem?;intro j;rw[List.getElem?_map,List.getElem?_map,Array.getElem?_toList];cases hj:es[j]? with
   |none=>have:es.length<=j:=List.getElem?_eq_none_iff.1 hj;simp[show ents.size<=j by omega]
   |some q=>obtain⟨k,g,n⟩:=q;obtain⟨e',h6,h7,_⟩:=e3 j k g n hj;rw[h6];simp[h7]
  .apply List.ext_getElem?;intro j;rw[List.getElem?_map,List.getElem?_map,Array.getElem?_toList];cases hj:es[j]? with
   |none=>have:es.length<=j:=List.getElem?_eq_none_iff.1 hj;simp[show ents.size<=j by omega]
   |some q=>obtain⟨k,g,n⟩:=q;obtain⟨e',h6,h7,h8,_⟩:=e3 j k g n hj;rw[h6];simp[h8]
  .rw[List.getElem?_map,cn] at hg;obtain⟨⟨k,h,n⟩,hj,rfl⟩:=hg;obtain⟨e',h6,h7,h8,h9⟩:=e3 j k h n hj;rw[he] at h6;cases h6;refine(hi _ (bO hj) _ _ _ _ h9).sub λf _ hb'=>?_;rcases hb' with hb'|⟨s,m,d,C',_,h1',h2'⟩
   .exact .inl hb'
   .exact .inr ⟨m,d,C',h1',h2'⟩
 .cases h1
theorem HQ{st:St}:J6 P st ρ []:=λd=>FE
theorem NF{st:St}{d:Nat}{g:G}{fr:Fr}(h:Wk P st ρ (aD st.fr d) g)(hr:J6 P st ρ fr):J6 P st ρ ((d,g)::fr):=λi=>by
 rw[aO];split
 .subst_vars;exact h
 .exact hr i
def Xk(P:Program)(st:St)(ρ:List (Nat×Nat))(x c:Xob):Prop:=∀cx a w β,RelB P cx st a w β->∀o,XO β (Av cx.S0 β st.σ) w x o->
 XO (λi=>(dq ρ i).bind β) (λb=>cx.S0 b\/∃i j ob C,dq ρ i=some j/\ag st.σ j=some ob/\β j=some (some (b,C))) w c o
def aak(P:Program)(st:St)(ρ:List (Nat×Nat)):Option Xob->Option Xob->Prop
 |none,none=>True
 |some x,some x'=>Xk P st ρ x x'/\(x= .resv->x'= .resv)
 |_,_=>False
theorem SV{st:St}{es es':List (Value×G×Nat)}(hl:es'.length=es.length)(h:∀(j:Nat) (k k':Value) (g g':G) (n n':Nat),es[j]?=some (k,g,n)->es'[j]?=some (k',g',n')->k'=k/\n'=n/\Wk P st ρ g g'):Xk P st ρ (.map es clock) (.map es' clock):=λcx a w β r o ho=>by obtain⟨ents,h1,h2,h3⟩:=ho;refine⟨ents,h1,aa,λj k g n hj=>?_⟩;have hlt:=(cr hj).1;obtain⟨⟨b,g0,c⟩,hx⟩:∃q,es[j]?=some q:=⟨_,cv aa⟩;obtain⟨e,e1,e2,e3,e4⟩:=h3 j b g0 c hx;obtain⟨rfl,rfl,hw⟩:=h j b k g0 g c n hx hj;exact⟨e,e1,e2,e3,hw cx a w β r _ e4⟩
theorem P6{st:St}{since last:Nat}{seen:List Nat}(h:dq ρ i=some j):Xk P st ρ (.iter (some j) since seen last) (.iter (some i) since seen last):=λcx a w β r o ho=>by
 obtain⟨c,h1,h2⟩:=ho;rcases h2 with⟨h2,_⟩|⟨d,b,C,h3,h4,h5⟩
 .cases h2
 .cases h3;exact⟨c,h1,.inr ⟨i,b,C,rfl,h4,by simp[h,h5]⟩⟩
theorem P7{st:St}{s:LoopState}{pe:Option Code}{fr fr':Fr}{ps:Array Tmp}{az9 bd:Code}(h:∀d,Wk P st ρ (aD fr d) (aD fr' d)):Xk P st ρ (.loop s pe n fr ps az9 bd) (.loop s pe n fr' ps az9 bd):=λcx a w β r o ho=>by obtain⟨fn,tmps,D,h1,h2,h3⟩:=ho;exact⟨fn,tmps,D,h1,h2,λj=>h j cx a w β r _ (h3 j)⟩
def Dp(P:Program)(st:St)(ρ:List (Nat×Nat))(σ:aQ):Prop:=∀i a,ag σ i=some a->∃j ob,dq ρ i=some j/\ag st.σ j=some ob/\a.t=ob.t/\a.l.length<=ob.l.length/\(ob.l=[]->a.l=[])/\(∀(k:Nat) (g g':G),ob.l[k]?=some g->a.l[k]?=some g'->Wk P st ρ g g')/\aak P st ρ ob.x a.x
theorem BT{st:St}:Dp P st ρ []:=λi ob h=>by cases h
theorem xP{st:St}{i j:Nat}{ob:Ob}{l:List G}{σ:aQ}(h1:dq ρ i=some j)(h2:ag st.σ j=some ob)(hx:ob.x=none)(ht:t=ob.t)(hl:l.length<=ob.l.length)(h:∀(k:Nat) (g g':G),ob.l[k]?=some g->l[k]?=some g'->Wk P st ρ g g')(hr:Dp P st ρ σ):Dp P st ρ ((i,some ⟨t,l,none⟩)::σ):=λk a hk=>by
 rw[am] at hk;split at hk
 .cases hk;subst_vars;exact⟨j,ob,h1,h2,rfl,hl,λe=>List.eq_nil_of_length_eq_zero (by simp[e] at hl;simpa using hl),h,by rw[hx];trivial⟩
 .exact hr k a hk
theorem J8{st:St}{ob:Ob}{x x':Xob}{σ:aQ}(h1:dq ρ i=some j)(h2:ag st.σ j=some ob)(hx:ob.x=some x)(ht:t=ob.t)(h:Xk P st ρ x x')(hv:x≠ .resv)(hr:Dp P st ρ σ):Dp P st ρ ((i,some ⟨t,[],some x'⟩)::σ):=λk a hk=>by
 rw[am] at hk;split at hk
 .cases hk;subst_vars;exact⟨j,ob,h1,h2,rfl,aC,λ_=>rfl,aC,by rw[hx];exact⟨h,λe=>absurd e hv⟩⟩
 .exact hr k a hk
theorem P8{st:St}{l:List G}(h:∀g∈l,bB g):∀(k:Nat) (g a:G),l[k]?=some g->l[k]?=some a->Wk P st ρ g a:=λk g a h1 h2=>by rw[h1] at h2;cases h2;exact ry (h g (bO h1))
theorem RelB.weaken{st st':St}(ρ:List (Nat×Nat))(hn:st'.n=st.n)(hgl:st'.gl=st.gl)(hp:st'.p=st.p)(e:∀i,i<st.p->dq ρ i=some i)(hinj:∀i f j,dq ρ i=some j->dq ρ f=some j->i=f)(hc:∀p∈ρ,p.1<st'.c)(hfr:J6 P st ρ st'.fr)(hst:Dp P st ρ st'.σ)(hrr:st'.r=st.r){cx:Cx}{a:Act}{w:World}{β:Bm}(h:RelB P cx st a w β):RelB P cx st' a w (λi=>(dq ρ i).bind β):=by
 have hav:∀b,Av cx.S0 (λi=>(dq ρ i).bind β) st'.σ b->(cx.S0 b\/∃i j ob C,dq ρ i=some j/\ag st.σ j=some ob/\β j=some (some (b,C))):=by
  rintro b (hb|⟨i,d,C,h1,h2⟩)
  .exact .inl hb
  .obtain⟨j,ob,h3,h4,_⟩:=hst i d h1;simp only[h3,aL] at h2;exact .inr ⟨i,j,ob,C,h3,h4,h2⟩
 have hbind:∀i b C,((dq ρ i).bind β)=some (some (b,C))->∃j,dq ρ i=some j/\β j=some (some (b,C)):=by intro i b C hb;rw[Option.bind_eq_some_iff] at hb;exact hb
 have same:∀i d,ag st'.σ i=some d->∀b C,((dq ρ i).bind β)=some (some (b,C))->∃j ob,dq ρ i=some j/\ag st.σ j=some ob/\β j=some (some (b,C)):=by intro i d hi b C hb;obtain⟨j,ob,h3,h4,_⟩:=hst i d hi;rw[h3] at hb;exact⟨j,ob,h3,h4,hb⟩
 exact{
  size:=h.size.trans hn.symm
  defers:=h.defers
  loose:=h.loose
  rnd:=by rw[hrr];exact h.rnd
  fr:=λi=>(hfr i cx a w β h _ (h.fr i)).step (λ_ _ x=>x) (λb _ hb=>hav b hb) (Keeps.refl _ _)
  ob:=λi d hi=>by
   obtain⟨j,ob,h3,h4,h5,h6,h7,h8,h9⟩:=hst i d hi;rcases h.ob j ob h4 with⟨e1,e2,e0⟩|⟨b,x,o,e0,e1,e2,e3,e4⟩|⟨b,C,cur,e0,e1,e2,e3,e4,e5,e6⟩
   .refine .inl ⟨by simp[h3,e1],h7 e2,?_⟩;rcases e0 with e0|e0
    .rw[e0] at h9;cases hx:d.x with
     |none=>exact .inl rfl
     |some x=>rw[hx] at h9;exact h9.elim
    .rw[e0] at h9;cases hx:d.x with
     |none=>rw[hx] at h9;exact h9.elim
     |some x=>rw[hx] at h9;exact .inr (by rw[h9.2 rfl])
   .rw[e0] at h9;cases hx:d.x with
    |none=>rw[hx] at h9;exact h9.elim
    |some x'=>rw[hx] at h9;exact .inr (.inl ⟨b,x',o,hx,h7 e1,by simp[h3,e2],e3,(h9.1 cx a w β h o e4).step (λ_ _ x=>x) (λb _ hb=>hav b hb) (Keeps.refl _ _)⟩)
   .have e0':d.x=none:=by
     rw[e0] at h9;cases hx:d.x with
     |none=>rfl
     |some x=>rw[hx] at h9;exact h9.elim
    refine .inr (.inr ⟨b,C,cur,e0',by simp[h3,e1],by rw[h5];exact e2,by rw[h5];exact e3,e4,aa,λk m hg'=>?_⟩);have hlt:=(cr hg').1;have hx:ob.l[k]?=some (ob.l[k]'aa):=by simp[show k<ob.l.length by omega]
    obtain⟨u,hu,h1',hr⟩:=e6 k _ hx;exact⟨u,hu,h1',(h8 k _ m hx hg' cx a w β h u hr).step (λ_ _ x=>x) (λb _ hb=>hav b hb) (Keeps.refl _ _)⟩
  inj:=λi f o q b C D hi hi' hb hb'=>by obtain⟨j,ob,h1,h2,h3⟩:=same i o hi b C hb;obtain⟨s,d,h4,h5,h6⟩:=same f q hi' b D hb';have:=h.inj j s ob d b C D h2 h5 h3 h6;subst this;exact hinj i f j h1 h4
  own:=λi o b C hi hb=>by obtain⟨j,ob,h1,h2,h3⟩:=same i o hi b C hb;exact h.own j ob b C h2 h3
  sep:=λi o b C hi hb=>by obtain⟨j,ob,h1,h2,h3⟩:=same i o hi b C hb;exact h.sep j ob b C h2 h3
  fresh:=λi hi=>by
   cases hr:dq ρ i with
   |none=>rfl
   |some j=>unfold dq at hr;rw[List.lookup_eq_some_iff] at hr;obtain⟨l1,l2,rfl,_⟩:=hr;have:=hc (i,j) aC;simp at this;omega
  glob:=λg l hl=>by
   rw[hgl] at hl;exact(h.glob g l hl).sub λb _ hb=>by
    rcases hav b hb with hb|⟨i,j,ob,C,_,h1,h2⟩
    .exact .inl hb
    .exact .inr ⟨j,ob,C,h1,h2⟩
  keep:=h.keep
  old:=h.old
  pin:=λi x hx=>by obtain⟨h1,h2⟩:=h.pin i x hx;exact⟨by rw[hp];exact h1,by simp only[e i h1,aL];exact h2⟩}
theorem NG{st st':St}(ρ:List (Nat×Nat))(hn:st'.n=st.n)(hgl:st'.gl=st.gl)(hp:st'.p=st.p)(b:∀i,i<st.p->dq ρ i=some i)(hinj:∀i d j,dq ρ i=some j->dq ρ d=some j->i=d)(hc:∀p∈ρ,p.1<st'.c)(hfr:J6 P st ρ st'.fr)(hst:Dp P st ρ st'.σ)(hrr:st'.r=st.r:=by rfl):Le P st st':=by rintro cx a w ⟨β,h⟩;exact⟨_,h.weaken ρ hn hgl hp b hinj hc hfr hst hrr⟩
end
section
variable {P:Program}
theorem gj{ρ ρ':Operand->G}{o:Oper}(hs:∀a b,o.op≠ .select a b)(h:∀x∈o.op.operands,ρ x=ρ' x):gJ P ρ o=gJ P ρ' o:=by
 have h1:o.op.operands.all (λx=>(cD (ρ x)).isSome)=o.op.operands.all (λx=>(cD (ρ' x)).isSome):=by rw[Bool.eq_iff_iff,Array.all_eq_true_iff_forall_mem,Array.all_eq_true_iff_forall_mem];exact⟨λk x hx=>by rw[<-h x hx];exact k x hx,λk x hx=>by rw[h x hx];exact k x hx⟩
 have h2:execOp (λx=>(cD (ρ x)).getD undef) o=execOp (λx=>(cD (ρ' x)).getD undef) o:=execOp_congr o hs λx hx=>by rw[h x hx]
 unfold gJ;rw[h1,h2]
theorem jW{ρ ρ':Operand->G}{σ:aQ}(h:∀x∈o.op.operands,ρ x=ρ' x):aX P ρ σ o=aX P ρ' σ o:=by
 obtain⟨e,j,d,g,a,guard⟩:=o;have arr:∀xs:Array Operand,(∀x∈xs,ρ x=ρ' x)->xs.map ρ=xs.map ρ':=λxs hx=>Array.map_congr_left hx;cases j;case move x=>simp only[aX];rw[h x fK]
 case assign x=>simp only[aX];rw[h x fK]
 case pick c x y=>simp only[aX];rw[h c fK,h x fK,h y fK]
 case load t x=>simp only[aX];rw[h x fK]
 case nilCheck x=>simp only[aX];rw[h x fK]
 case makeFunc fn f c=>
  simp only[aX]
  rw[arr f (λx hx=>h x (by simp[Op.operands,hx])),arr c (λx hx=>h x (by simp[Op.operands,hx]))]
 case extract x k=>simp only[aX];rw[h x fK]
 case makeInterface t x=>simp only[aX];rw[h x fK]
 case fieldAddr t x k=>simp only[aX];rw[h x fK]
 case field t x k=>simp only[aX];rw[h x fK]
 case indexAddr t x i=>simp only[aX];rw[h x fK,h i fK]
 case index t x i=>
  simp only[aX]
  rw[gj (ρ:=ρ) (ρ':=ρ') aC h,h x fK,h i fK]
 case slice t x lo hi mx=>
  cases mx with
  |some _=>simp[aX]
  |none=>
   simp only[aX]
   rw[gj (ρ:=ρ) (ρ':=ρ') aC h,h x fK]
   have e1:lo.map ρ=lo.map ρ':=by cases lo with
    |none=>rfl
    |some y=>simp[h y fK]
   have e2:hi.map ρ=hi.map ρ':=by cases hi with
    |none=>rfl
    |some y=>simp[h y fK]
   rw[e1,e2]
 case call c=>
  obtain⟨callee,args,ats⟩:=c
  cases callee with
  |builtin b=>
   have hg:=gj (P:=P) (ρ:=ρ) (ρ':=ρ') (o:=⟨e,.call ⟨.builtin b,args,ats⟩,d,g,a,guard⟩) aC h
   cases b
   case len=>
    simp only[aX]
    rw[hg]
    split
    .rename_i x t hx hat
     have:x∈args:=by rw[<-Array.mem_toList_iff,hx];simp
     rw[h x (by simp[Op.operands,Call.operands,this])]
    .rfl
   all_goals first|rfl|(simp only[aX];exact hg)
  |_=>rfl
 case binOp=>simp only[aX];exact gj aC h
 case unOp=>simp only[aX];exact gj aC h
 case convert=>simp only[aX];exact gj aC h
 all_goals rfl
def St.pr(st:St):Nat×Bool:=(st.p,st.r)
def St.like(st st':St):Prop:=st'.n=st.n/\st'.gl=st.gl/\st'.σ=st.σ/\st'.c=st.c/\st'.pr=st.pr
def TG(P:Program)(o:Oper)(st:St)(g:G):Prop:=∀st',st.like st'->(∀x∈o.op.operands,aB st' x=aB st x)->GS P o st' (st'.put o.dst g)
theorem rz{st:St}{g:G}(hd:H_d o st.n)(he:aX P (aB st) st.σ o=some g):TG P o st g:=λst' ⟨h1,h2,h3,h4,h5⟩ hx=>
 fM (by rw[h1];exact hd) (by rw[h3,<-he];exact jW hx)
theorem SW{st:St}{fst cap:List G}{r:G}(ho:o.op= .call {callee:= .value f,args:=xs,argTypes:=ats})(hd:H_d o st.n)(hf:aB st f= .clo (.func fid) fst cap)(hc:aK P fid=true)
  (hi:∀g∈fst++xs.toList.map (aB st)++cap,bB g) (hF:ba P st.gl fid (fst++xs.toList.map (aB st)++cap) r):TG P o st r:=λst' ⟨h1,h2,h3,h4,h5⟩ hx=>by
 have e1:aB st' f=aB st f:=hx f (by simp[ho,Op.operands,Call.operands])
 have e2:xs.toList.map (aB st')=xs.toList.map (aB st):=List.map_congr_left λx hx'=>hx x (by
  have:x∈xs:=by simpa using hx'
  simp[ho,Op.operands,Call.operands,this])
 exact wt ho (by rw[h1];exact hd) (e1.trans hf) hc (by rw[e2];exact hi) (by rw[e2,h2];exact hF)
theorem HR{st:St}{g:G}(ho:o.op= .build t parts)(hd:H_d o st.n)(hg:uH P t (parts.toList.map λp=>(p.1,aB st p.2))=some g):TG P o st g:=λst' ⟨h1,h2,h3,h4,h5⟩ hx=>
 BO ho (by rw[h1];exact hd) (by
  rw[<-hg];congr 1;refine List.map_congr_left λp hp=>?_;rw[hx p.2 (by
   have:p∈parts:=by simpa using hp
   simp only[ho,Op.operands,List.mem_toArray,List.mem_map];exact⟨p,by simpa using this,rfl⟩)])
def mO(l:List Oper)(o:Oper):List Nat:=(o.op.operands.toList.filterMap fun| .tmp t=>some t|_=>none)++(match o.guard with|some (g,_)=>((l[g]?).bind (·.dst)).toList|none=>[])
def p8(o:Oper)(i:Nat):Bool:=o.after.any λe=>Region.binds .any e&&e.on==i
def xQ(l:List Oper)(bars:List Nat)(n:Nat):Bool:=
 (List.range l.length).all λj=>match l[j]? with
  |none=>true
  |some o=>
   (match o.dst with|some d=>decide (d<n)|none=>true)&&
   o.after.all (λe=> !Region.binds .any e||decide (e.on<j))&&
   (List.range l.length).all (λi=>match(l[i]?).bind (·.dst) with
    |none=>true
    |some d=>(i==j||o.dst !=some d)&&(!(mO l o).contains d||(decide (i<j)&&p8 o i)))&&
   (
    !bars.contains j||
    (
     (List.range l.length).all (λi=> !decide (i<j)||(List.range (j+1)).any λk=>decide (i<k)&&(match l[k]? with|some ok=>p8 ok i|none=>false))&&
     (List.range l.length).all (λi=> !decide (j<i)||(List.range i).any λk=>decide (j<=k)&&(match l[i]? with|some oi=>p8 oi k|none=>false))))
def tg(P:Program)(ops:Array Oper)(bars:List Nat)(K:St->Prop):Nat->List Oper->St->Prop
 |_,[],st=>K st
 |j,o::rest,st=>
  (ce st ops o=some true/\∃g,TG P o st g/\tg P ops bars K (j+1) rest (st.put o.dst g))\/
  (ce st ops o=some false/\tg P ops bars K (j+1) rest (st.put o.dst (.lit undef)))\/
  (bars.contains j=true/\ce st ops o=some true/\∃g σ c,GS P o st ({st with σ:=σ,c:=c}.put o.dst g)/\tg P ops bars K (j+1) rest ({st with σ:=σ,c:=c}.put o.dst g))
def BU(P:Program)(ops:Array Oper)(bar:Bool)(o:Oper)(g:G)(st st':St):Prop:=
 (ce st ops o=some true/\TG P o st g/\st'=st.put o.dst g)\/(ce st ops o=some false/\g= .lit undef/\st'=st.put o.dst g)\/
 (bar=true/\ce st ops o=some true/\∃σ c,st'={st with σ:=σ,c:=c}.put o.dst g/\GS P o st st')
theorem yQ{ops:Array Oper}{bars:List Nat}{K:St->Prop}:∀(l:List Oper) (j:Nat) (st:St),tg P ops bars K j l st->
  ∃(sts:Nat->St) (gs:Nat->G),sts 0=st/\K (sts l.length)/\∀i o,l[i]?=some o->BU P ops (bars.contains (j+i)) o (gs i) (sts i) (sts (i+1))
 |[],j,st,h=>⟨λ_=>st,λ_=> .junk,rfl,h,aC⟩
 |o::rest,j,st,h=>by
  have put:∀(a:St) (g:G),tg P ops bars K (j+1) rest a->BU P ops (bars.contains j) o g st a->∃(sts:Nat->St) (gs:Nat->G),sts 0=st/\K (sts (o::rest).length)/\∀i b,(o::rest)[i]?=some b->BU P ops (bars.contains (j+i)) b (gs i) (sts i) (sts (i+1)):=by
   intro a g hr hs;obtain⟨sts,gs,h1,h2,h3⟩:=yQ rest (j+1) a hr;refine⟨λi=>match i with|0=>st|i+1=>sts i,λi=>match i with|0=>g|i+1=>gs i,rfl,h2,λi b ho=>?_⟩;cases i with
   |zero=>simp at ho;subst ho;simpa[h1] using hs
   |succ i=>have:=h3 i b (by simpa using ho);rw[show j+1+i=j+(i+1) by omega] at this;exact this
  rcases h with⟨h1,g,h2,h3⟩|⟨h1,h3⟩|⟨h0,h1,g,σ,c,h2,h3⟩
  .exact put _ g h3 (.inl ⟨h1,h2,rfl⟩)
  .exact put _ (.lit undef) h3 (.inr (.inl ⟨h1,rfl,rfl⟩))
  .exact put _ g h3 (.inr (.inr ⟨h0,h1,σ,c,rfl,h2⟩))
theorem BU.like{ops:Array Oper}{bar:Bool}{o:Oper}{g:G}{st st':St}(h:BU P ops bar o g st st'):st'.n=st.n/\(st'.gl=st.gl/\st'.pr=st.pr)/\(∀t,aD st'.fr t=if o.dst=some t then g else aD st.fr t)/\(bar=false->st'.σ=st.σ/\st'.c=st.c):=by
 have hp:∀s:St,s.n=st.n->s.gl=st.gl->s.pr=st.pr->s.fr=st.fr->(s.put o.dst g).n=st.n/\((s.put o.dst g).gl=st.gl/\(s.put o.dst g).pr=st.pr)/\(∀t,aD (s.put o.dst g).fr t=if o.dst=some t then g else aD st.fr t)/\(s.put o.dst g).σ=s.σ/\(s.put o.dst g).c=s.c:=by
  intro s h1 h2 h4 h3;cases hd:o.dst with
  |none=>simp[St.put,h1,h2,h3,h4]
  |some d=>refine⟨h1,⟨h2,h4⟩,λt=>?_,rfl,rfl⟩;show aD ((d,g)::s.fr) t=_;rw[aO,h3];by_cases e:d=t<;>simp[e]
 rcases h with⟨_,_,rfl⟩|⟨_,_,rfl⟩|⟨hb,_,σ,c,rfl,_⟩
 .obtain⟨a,b,c,d,e⟩:=hp st rfl rfl rfl rfl;exact⟨a,b,c,λ_=>⟨d,e⟩⟩
 .obtain⟨a,b,c,d,e⟩:=hp st rfl rfl rfl rfl;exact⟨a,b,c,λ_=>⟨d,e⟩⟩
 .obtain⟨a,b,c',d,e⟩:=hp {st with σ:=σ,c:=c} rfl rfl rfl rfl;exact⟨a,b,c',λh=>by rw[hb] at h;cases h⟩
theorem mh.congr{cx:Cx}{st st':St}{a:Act}{w:World}(h:mh P cx st a w)(hn:st'.n=st.n)(hg:st'.gl=st.gl)(hf:∀t,aD st'.fr t=aD st.fr t)(hs:st'.σ=st.σ)(hc:st'.c=st.c)(hp:st'.pr=st.pr):mh P cx st' a w:=by obtain⟨β,h⟩:=h;obtain⟨n,gl,fr,σ,c,p,r⟩:=st;obtain⟨e,d,b,σ',c',f,r'⟩:=st';simp only[St.pr,Prod.mk.injEq] at hn hg hf hs hc hp;obtain⟨hp,hr⟩:=hp;subst hn;subst hg;subst hs;subst hc;subst hp;subst hr;exact⟨β,{h with fr:=λi=>by show RV _ _ w (aD b i) _;rw[hf i];exact h.fr i}⟩
theorem om:∀(l:List Bool) (i:Nat),l[i]?=some false->(l.set i true).count false+1=l.count false
 |[],i,h=>by simp at h
 |b::r,0,h=>by simp at h;subst h;simp
 |b::r,i+1,h=>by have:=om r i (by simpa using h);simp only[List.set_cons_succ,List.count_cons];omega
section draw
variable {l:List Oper} {bars:List Nat} {st:St} {K:St->Prop} {cx:Cx} {Q:Exit->Act->World->Prop}
def bX(l:List Oper)(i:Nat):Option Tmp:=(l[i]?).bind (·.dst)
structure DFacts (P:Program) (l:List Oper) (bars:List Nat) (st:St) (sts:Nat->St) (gs:Nat->G):Prop where
 zero:sts 0=st
 dstn:∀(j:Nat) (o:Oper) (d:Tmp),l[j]?=some o->o.dst=some d->d<st.n
 step:∀i o,l[i]?=some o->BU P l.toArray (bars.contains i) o (gs i) (sts i) (sts (i+1))
 edges:∀j o,l[j]?=some o->∀e∈o.after,Region.binds .any e=true->e.on<j
 uniq:∀i j d,bX l i=some d->bX l j=some d->i=j
 look:∀i j o d,l[j]?=some o->bX l i=some d->d∈mO l o->i<j/\p8 o i=true
 bar1:∀j i,j<l.length->bars.contains j=true->i<j->∃k ok,i<k/\k<=j/\l[k]?=some ok/\p8 ok i=true
 bar2:∀j i,i<l.length->j<l.length->bars.contains j=true->j<i->∃k oi,j<=k/\k<i/\l[i]?=some oi/\p8 oi k=true
theorem FF{sts:Nat->St}{gs:Nat->G}(h:xQ l bars st.n=true)(h0:sts 0=st)(hs:∀i o,l[i]?=some o->BU P l.toArray (bars.contains i) o (gs i) (sts i) (sts (i+1))):DFacts P l bars st sts gs:=by
 have hj:∀j o,l[j]?=some o->j<l.length:=λj o ho=>(cr ho).1;have key:=λj o (ho:l[j]?=some o)=>by have:=List.all_eq_true.1 h j (List.mem_range.2 (hj j o ho));rw[ho] at this;simp only[bA] at this;exact this
 refine⟨h0,λj o d ho hd=>?_,hs,λj o ho e he hb=>?_,λi j d hi hj'=>?_,λi j o d ho hi hl=>?_,λj i hlt hb hij=>?_,λj i hil hlt hb a=>?_⟩
 .have:=(key j o ho).1.1.1;rw[hd] at this;simpa using this
 .have:=Array.all_eq_true_iff_forall_mem.1 (key j o ho).1.1.2 e he;simpa[hb] using this
 .cases hoj:l[j]? with
  |none=>simp[bX,hoj] at hj'
  |some oj=>
   cases hoi:l[i]? with
   |none=>simp[bX,hoi] at hi
   |some oi=>
    have:=List.all_eq_true.1 (key j oj hoj).1.2 i (List.mem_range.2 (hj i oi hoi));have hi':(l[i]?).bind (·.dst)=some d:=hi;have hj'':oj.dst=some d:=by simpa[bX,hoj] using hj'
    rw[hi'] at this;simp only[bA,Bool.or_eq_true,beq_iff_eq,bne_iff_ne] at this;rcases this.1 with h1|h1
    .exact h1
    .exact absurd hj'' h1
 .cases hoi:l[i]? with
  |none=>simp[bX,hoi] at hi
  |some oi=>
   have:=List.all_eq_true.1 (key j o ho).1.2 i (List.mem_range.2 (hj i oi hoi));have hi':(l[i]?).bind (·.dst)=some d:=hi;rw[hi'] at this;simp only[bA,Bool.or_eq_true,Bool.not_eq_true',decide_eq_true_eq] at this;rcases this.2 with h1|h1
   .rw[List.contains_eq_mem,decide_eq_false_iff_not] at h1;exact absurd hl h1
   .exact h1
 .obtain⟨o,ho⟩:∃o,l[j]?=some o:=⟨_,cv hlt⟩;have h2:=(key j o ho).2;simp only[Bool.or_eq_true,Bool.not_eq_true',bA] at h2;rcases h2 with h2|⟨h2,_⟩
  .rw[hb] at h2;cases h2
  .have:=List.all_eq_true.1 h2 i (List.mem_range.2 aa);simp only[Bool.or_eq_true,Bool.not_eq_true',decide_eq_false_iff_not] at this;rcases this with h3|h3
   .exact absurd hij h3
   .obtain⟨k,hk,h4⟩:=List.any_eq_true.1 h3;rw[bA] at h4;have hk':=List.mem_range.1 hk;cases hok:l[k]? with
    |none=>rw[hok] at h4;exact absurd h4.2 aC
    |some ok=>rw[hok] at h4;exact⟨k,ok,by simpa using h4.1,aa,hok,h4.2⟩
 .obtain⟨o,ho⟩:∃o,l[j]?=some o:=⟨_,cv hlt⟩;have h2:=(key j o ho).2;simp only[Bool.or_eq_true,Bool.not_eq_true',bA] at h2;rcases h2 with h2|⟨_,h2⟩
  .rw[hb] at h2;cases h2
  .have:=List.all_eq_true.1 h2 i (List.mem_range.2 hil);simp only[Bool.or_eq_true,Bool.not_eq_true',decide_eq_false_iff_not] at this;rcases this with h3|h3
   .exact absurd a h3
   .obtain⟨k,hk,h4⟩:=List.any_eq_true.1 h3;rw[bA] at h4;have hk':=List.mem_range.1 hk;cases hoi:l[i]? with
    |none=>rw[hoi] at h4;exact absurd h4.2 aC
    |some oi=>rw[hoi] at h4;exact⟨k,oi,by simpa using h4.1,hk',rfl,h4.2⟩
variable {sts:Nat->St} {gs:Nat->G}
theorem DFacts.ngl(F:DFacts P l bars st sts gs):∀i,i<=l.length->(sts i).n=st.n/\(sts i).gl=st.gl/\(sts i).pr=st.pr
 |0,_=>by rw[F.zero];exact⟨rfl,rfl,rfl⟩
 |i+1,hi=>by obtain⟨a,b,e⟩:=F.ngl i aa;obtain⟨c,⟨d,f⟩,_⟩:=(F.step i _ (cv aa)).like;exact⟨c.trans a,d.trans b,f.trans e⟩
theorem DFacts.fr1(F:DFacts P l bars st sts gs){j:Nat}{t:Tmp}(hd:bX l j=some t):∀i,j<i->i<=l.length->aD (sts i).fr t=gs j
 |0,h,_=>aa
 |i+1,h,hi=>by
  have ho:l[i]?=some (l[i]'aa):=cv aa;obtain⟨_,_,c,_⟩:=(F.step i _ ho).like;rw[c t];by_cases e:j=i
  .subst e;have:(l[j]'aa).dst=some t:=by simpa[bX,ho] using hd
   rw[if_pos this]
  .have:(l[i]'aa).dst≠some t:=λx=>e (F.uniq j i t hd (by simp[bX,ho,x]));rw[if_neg this];exact F.fr1 hd i aa aa
theorem DFacts.fr2(F:DFacts P l bars st sts gs){t:Tmp}:∀i,i<=l.length->(∀j,j<i->bX l j≠some t)->aD (sts i).fr t=aD st.fr t
 |0,_,_=>by rw[F.zero]
 |i+1,hi,h=>by have ho:l[i]?=some (l[i]'aa):=cv aa;obtain⟨_,_,c,_⟩:=(F.step i _ ho).like;rw[c t,if_neg (λx=>h i aa (by simp[bX,ho,x]))];exact F.fr2 i aa (λj hj=>h j aa)
theorem DFacts.sto(F:DFacts P l bars st sts gs){a:Nat}:∀b,a<=b->b<=l.length->(∀k,a<=k->k<b->bars.contains k=false)->(sts b).σ=(sts a).σ/\(sts b).c=(sts a).c
 |0,h,_,_=>by obtain rfl:a=0:=aa;exact⟨rfl,rfl⟩
 |b+1,h,hl,hb=>by
  by_cases e:a=b+1
  .subst e;exact⟨rfl,rfl⟩
  .have ho:l[b]?=some (l[b]'aa):=cv aa;obtain⟨_,_,_,d⟩:=(F.step b _ ho).like;obtain⟨d1,d2⟩:=d (hb b aa aa);obtain⟨e1,e2⟩:=F.sto b aa aa (λk h1 h2=>hb k h1 aa);exact⟨d1.trans e1,d2.trans e2⟩
structure DInv (P:Program) (l:List Oper) (bars:List Nat) (st:St) (sts:Nat->St) (gs:Nat->G) (cx:Cx) (L:Array Bool) (a:Act) (w:World) (m:Nat) (st':St):Prop where
 size:L.size=l.length
 closed:∀j o,L.getD j false=true->l[j]?=some o->∀e∈o.after,Region.binds .any e=true->L.getD e.on false=true
 hm:m<=l.length
 bar:∀b,b<l.length->bars.contains b=true->(L.getD b false=true↔b<m)
 rel:mh P cx st' a w
 n:st'.n=st.n
 gl:st'.gl=st.gl
 σ:st'.σ=(sts m).σ
 c:st'.c=(sts m).c
 p:st'.pr=st.pr
 f1:∀j t,L.getD j false=true->bX l j=some t->aD st'.fr t=gs j
 f2:∀t,(∀j,L.getD j false=true->bX l j≠some t)->aD st'.fr t=aD st.fr t
theorem fJ(h:p8 o i=true):∃e∈o.after,Region.binds .any e=true/\e.on=i:=by obtain⟨e,he,hb⟩:=Array.any_eq_true'.1 h;simp only[bA,beq_iff_eq] at hb;exact⟨e,he,hb⟩
theorem DInv.ahead(F:DFacts P l bars st sts gs){L:Array Bool}{a:Act}{w:World}{m:Nat}{st':St}(I:DInv P l bars st sts gs cx L a w m st'){j:Nat}{o:Oper}(ho:l[j]?=some o)(hr:H_a o L)(hb:bars.contains j=true):∀d i,i+d=j->0<d->L.getD i false=true:=by
 intro d;induction d using Nat.strongRecOn with
 |_ d ih=>
  intro i hi hd;have hjl:=(cr ho).1;obtain⟨k,ok,h1,h2,h3,h4⟩:=F.bar1 j i hjl hb aa;obtain⟨e,he,hbe,b⟩:=fJ h4;by_cases hkj:k=j
  .subst hkj;rw[ho] at h3;cases h3;rw[<-b];exact hr e he hbe
  .have:=ih (j-k) aa k aa aa;rw[<-b];exact I.closed k ok this h3 e he hbe
theorem DInv.behind(F:DFacts P l bars st sts gs){L:Array Bool}{a:Act}{w:World}{m:Nat}{st':St}(I:DInv P l bars st sts gs cx L a w m st'){j:Nat}(hj:j<l.length)(hb:bars.contains j=true):∀i,j<i->i<l.length->(L.getD i false=true\/∃c,l[i]?=some c/\∀e∈c.after,Region.binds .any e=true->L.getD e.on false=true)->L.getD j false=true:=by
 intro i;induction i using Nat.strongRecOn with
 |_ i ih=>
  intro d hil hL;obtain⟨k,c,h1,h2,h3,h4⟩:=F.bar2 j i hil hj hb d;obtain⟨e,he,hbe,b⟩:=fJ h4;have hk:L.getD k false=true:=by
   rcases hL with hL|⟨f,ho',hr⟩
   .rw[<-b];exact I.closed i c hL h3 e he hbe
   .rw[h3] at ho';cases ho';rw[<-b];exact hr e he hbe
  by_cases hkj:k=j
  .subst hkj;exact hk
  .exact ih k h2 aa aa (.inl hk)
theorem sF(h:L.getD j false=true):j<L.size:=by
 rcases Nat.lt_or_ge j L.size with h'|h'
 .exact h'
 .simp[Array.getElem?_eq_none h'] at h
theorem cI(hi:i<L.size):(L.setIfInBounds i true).getD j false=if i=j then true else L.getD j false:=by
 by_cases e:i=j
 .subst e;simp[hi]
 .rw[if_neg e];simp[Array.getElem?_setIfInBounds_ne e]
theorem DInv.same(F:DFacts P l bars st sts gs){L:Array Bool}{a:Act}{w:World}{m:Nat}{st':St}(I:DInv P l bars st sts gs cx L a w m st'){j:Nat}{o:Oper}(ho:l[j]?=some o)(hr:H_a o L){t:Tmp}(ht:t∈mO l o):aD st'.fr t=aD (sts j).fr t:=by
 have hjl:=(cr ho).1;by_cases hx:∃i,bX l i=some t
 .obtain⟨i,hi⟩:=hx;obtain⟨h1,h2⟩:=F.look i j o t ho hi ht;obtain⟨e,he,hbe,b⟩:=fJ h2;have hL:L.getD i false=true:=by rw[<-b];exact hr e he hbe
  rw[I.f1 i t hL hi,F.fr1 hi j h1 aa]
 .rw[I.f2 t (λi _ h=>hx ⟨i,h⟩),F.fr2 j aa (λi _ h=>hx ⟨i,h⟩)]
theorem DInv.sto(F:DFacts P l bars st sts gs){L:Array Bool}{a:Act}{w:World}{m:Nat}{st':St}(I:DInv P l bars st sts gs cx L a w m st'){j:Nat}{o:Oper}(ho:l[j]?=some o)(hr:H_a o L)(hL:L.getD j false=false):st'.σ=(sts j).σ/\st'.c=(sts j).c:=by
 have hjl:=(cr ho).1;rw[I.σ,I.c];rcases Nat.le_total m j with hmj|hjm
 .have:=F.sto (a:=m) j hmj aa (λb h1 h2=>by
   cases hb:bars.contains b with
   |false=>rfl
   |true=>have h3:=I.behind F (j:=b) aa hb j h2 hjl (.inr ⟨o,ho,hr⟩);have:=(I.bar b aa hb).1 h3;omega)
  exact⟨this.1.symm,this.2.symm⟩
 .exact F.sto (a:=j) m hjm I.hm (λb h1 h2=>by
   cases hb:bars.contains b with
   |false=>rfl
   |true=>
    have hm:=I.hm;have h3:=(I.bar b aa hb).2 h2;by_cases e:b=j
    .subst e;rw[hL] at h3;cases h3
    .obtain⟨ob,hob⟩:∃ob,l[b]?=some ob:=⟨_,cv aa⟩;have:=I.ahead F hob (λe he hbe=>I.closed b ob h3 hob e he hbe) hb (b-j) j aa aa;rw[hL] at this;cases this)
theorem BV{st' s:St}(hg:st'.gl=s.gl)(h:∀t,x= .tmp t->aD st'.fr t=aD s.fr t):aB st' x=aB s x:=by
 cases x with
 |tmp t=>exact h t rfl
 |const v=>rfl
 |global g=>simp only[aB,hg]
 |func f=>rfl
theorem DInv.next(F:DFacts P l bars st sts gs){L:Array Bool}{a a':Act}{w w':World}{m:Nat}{st':St}(I:DInv P l bars st sts gs cx L a w m st'){j:Nat}{o:Oper}(ho:l[j]?=some o)(hr:H_a o L)(hL:L.getD j false=false)
  (hrel:(bars.contains j=false/\mh P cx (st'.put o.dst (gs j)) a' w')\/(bars.contains j=true/\mh P cx (sts (j+1)) a' w')):∃m2 f,DInv P l bars st sts gs cx (L.setIfInBounds j true) a' w' m2 f:=by
 have hjl:=(cr ho).1
 have hjs:j<L.size:=by rw[I.size];exact hjl
 have hcl:∀k ok,(L.setIfInBounds j true).getD k false=true->l[k]?=some ok->∀e∈ok.after,Region.binds .any e=true->(L.setIfInBounds j true).getD e.on false=true:=by
  intro k ok hk hok e he hbe;rw[cI hjs];split
  .rfl
  .rw[cI hjs] at hk;by_cases ek:j=k
   .subst ek;rw[ho] at hok;cases hok;exact hr e he hbe
   .rw[if_neg ek] at hk;exact I.closed k ok hk hok e he hbe
 rcases hrel with⟨hb,hrel⟩|⟨hb,hrel⟩
 .refine⟨m,_,{size:=by simp[I.size],closed:=hcl,hm:=I.hm,bar:=λb hbl hbb=>?_,rel:=hrel,n:=?_,gl:=?_,σ:=?_,c:=?_,p:=?_,f1:=λk t hk hd=>?_,f2:=λt ht=>?_}⟩
  .rw[cI hjs,if_neg (λe=>by subst e;rw[hb] at hbb;cases hbb)]
   exact I.bar b hbl hbb
  .rw[<-I.n];cases o.dst<;>rfl
  .rw[<-I.gl];cases o.dst<;>rfl
  .rw[<-I.σ];cases o.dst<;>rfl
  .rw[<-I.c];cases o.dst<;>rfl
  .rw[<-I.p];cases o.dst<;>rfl
  .have hpf:aD (st'.put o.dst (gs j)).fr t=if o.dst=some t then gs j else aD st'.fr t:=by
    cases hd':o.dst with
    |none=>rfl
    |some d=>show aD ((d,gs j)::st'.fr) t=_;rw[aO];by_cases e:d=t<;>simp[e]
   rw[hpf]
   by_cases e:j=k
   .subst e
    have:o.dst=some t:=by simpa[bX,ho] using hd
    rw[if_pos this]
   .rw[if_neg (λx=>e (F.uniq j k t (by simp[bX,ho,x]) hd))]
    rw[cI hjs,if_neg e] at hk
    exact I.f1 k t hk hd
  .have hpf:aD (st'.put o.dst (gs j)).fr t=if o.dst=some t then gs j else aD st'.fr t:=by
    cases hd':o.dst with
    |none=>rfl
    |some d=>show aD ((d,gs j)::st'.fr) t=_;rw[aO];by_cases e:d=t<;>simp[e]
   rw[hpf,if_neg (λx=>ht j (by rw[cI hjs,if_pos rfl]) (by simp[bX,ho,x]))]
   exact I.f2 t (λk hk=>ht k (by
    rw[cI hjs];split
    .rfl
    .exact hk))
 .obtain⟨hn,hg,hp⟩:=F.ngl (j+1) aa
  have hah:∀i,i<j->L.getD i false=true:=λi hi=>I.ahead F ho hr hb (j-i) i aa aa
  have hbe:∀i,j<i->L.getD i false=false:=λi hi=>by
   cases h:L.getD i false with
   |false=>rfl
   |true=>
    have hil:i<l.length:=by rw[<-I.size];exact sF h
    have:=I.behind F hjl hb i hi hil (.inl h);rw[hL] at this;cases this
  have hLs:∀k,(L.setIfInBounds j true).getD k false=true↔k<j+1:=by
   intro k;rw[cI hjs];by_cases e:j=k
   .subst e;simp
   .rw[if_neg e];rcases Nat.lt_or_ge k j with h|h
    .simp only[hah k h,true_iff];omega
    .have hk:=hbe k aa;rw[hk];simp;omega
  refine⟨j+1,sts (j+1),{size:=by simp[I.size],closed:=hcl,hm:=hjl,bar:=λb hbl hbb=>hLs b,rel:=hrel,n:=hn,gl:=hg,σ:=rfl,c:=rfl,p:=hp,f1:=λk t hk hd=>F.fr1 hd (j+1) ((hLs k).1 hk) hjl,f2:=λt ht=>F.fr2 (j+1) hjl (λk hk=>ht k ((hLs k).2 hk))}⟩
theorem DInv.run(F:DFacts P l bars st sts gs)(y:∀a w,mh P cx (sts l.length) a w->Q .normal a w):∀(fuel:Nat) (L:Array Bool) (a:Act) (w:World) (m:Nat) (st':St),L.toList.count false<=fuel->DInv P l bars st sts gs cx L a w m st'->wpAnyIn cx.F cx.nn P .any l.toArray Q fuel L a w:=by
 have done:∀(L:Array Bool) (a:Act) (w:World) (m:Nat) (st':St),DInv P l bars st sts gs cx L a w m st'->(∀j,j<l.length->L.getD j false=true)->Q .normal a w:=by
  intro L a w m st' I hall;obtain⟨hn,hg,hp⟩:=F.ngl l.length (Nat.le_refl _);obtain⟨s1,s2⟩:=F.sto (a:=m) l.length I.hm (Nat.le_refl _) (λb h1 h2=>by
   cases hb:bars.contains b with
   |false=>rfl
   |true=>have:=(I.bar b h2 hb).1 (hall b h2);omega)
  refine y a w (I.rel.congr (hn.trans I.n.symm) (hg.trans I.gl.symm) (λt=>?_) (s1.trans I.σ.symm) (s2.trans I.c.symm) (hp.trans I.p.symm));by_cases hx:∃i,bX l i=some t
  .obtain⟨i,hi⟩:=hx;have hil:i<l.length:=by
    rcases Nat.lt_or_ge i l.length with h|h
    .exact h
    .simp[bX,List.getElem?_eq_none h] at hi
   rw[F.fr1 hi l.length hil (Nat.le_refl _),I.f1 i t (hall i hil) hi]
  .rw[F.fr2 l.length (Nat.le_refl _) (λi _ h=>hx ⟨i,h⟩),I.f2 t (λi _ h=>hx ⟨i,h⟩)]
 have empty:∀(L:Array Bool) (a:Act) (w:World) (m:Nat) (st':St),DInv P l bars st sts gs cx L a w m st'->Region.ready .any l.toArray L=[]->∀j,j<l.length->L.getD j false=true:=by
  intro L a w m st' I hr j;induction j using Nat.strongRecOn with
  |_ j ih=>
   intro hj;cases h:L.getD j false with
   |true=>rfl
   |false=>
    have:j∈Region.ready .any l.toArray L:=by
     rw[mem_ready];have ho:l[j]?=some (l[j]'hj):=cv hj;refine⟨?_,l[j]'hj,aC,λe he hbe=>?_⟩
     .have hs:j<L.size:=by rw[I.size];exact hj
      simp[hs] at h⊢;exact h
     .have:=F.edges j _ ho e he hbe;exact ih e.on this aa
    rw[hr] at this;cases this
 intro fuel;induction fuel with
 |zero=>
  intro L a w m st' hc I;have hall:∀j,j<l.length->L.getD j false=true:=by
   intro j hj;have hs:j<L.size:=by rw[I.size];exact hj
   have h0:L.toList.count false=0:=aa;rw[List.count_eq_zero] at h0;cases h:L.getD j false with
   |true=>rfl
   |false=>simp[hs] at h;exact absurd (by rw[<-h];simp:false∈L.toList) h0
  refine⟨?_,done L a w m st' I hall⟩;cases hr:Region.ready .any l.toArray L with
  |nil=>rfl
  |cons x xs=>
   have hx:x∈Region.ready .any l.toArray L:=by rw[hr];simp
   obtain⟨h1,o,ho,_⟩:=mem_ready.1 hx;have hxl:x<l.length:=by have:=(Array.getElem?_eq_some_iff.1 ho).1;simpa using this
   have hs:x<L.size:=by rw[I.size];exact hxl
   have:=hall x hxl;simp[hs] at h1 this;rw[h1] at this;cases this
 |succ fuel ih=>
  intro L a w m st' hc I;refine⟨λhr=>done L a w m st' I (empty L a w m st' I hr),λj hj=>?_⟩;obtain⟨h1,o,ho',hr⟩:=mem_ready.1 hj;have ho:l[j]?=some o:=by simpa using ho'
  have hjl:=(cr ho).1;have hs:j<L.size:=by rw[I.size];exact hjl
  have hL:L.getD j false=false:=by simp[hs] at h1⊢;exact h1
  have hcnt:(L.setIfInBounds j true).toList.count false<=fuel:=by have:=om L.toList j (by simp[hs] at h1;simp[hs,h1]);rw[Array.toList_setIfInBounds];omega
  have next:∀k w',((bars.contains j=false/\mh P cx (st'.put o.dst (gs j)) k w')\/(bars.contains j=true/\mh P cx (sts (j+1)) k w'))->wpAnyIn cx.F cx.nn P .any l.toArray Q fuel (L.setIfInBounds j true) k w':=by intro k w' h;obtain⟨m2,r,z⟩:=I.next F ho hr hL h;exact ih _ k w' m2 r hcnt z
  obtain⟨hn,hg,hp⟩:=F.ngl j aa;obtain⟨s1,s2⟩:=I.sto F ho hr hL;have hlook:=λt (ht:t∈mO l o)=>I.same F ho hr ht;have hgev:∀x∈o.op.operands,aB st' x=aB (sts j) x:=λx hx=>BV (I.gl.trans hg.symm) (λt e=>hlook t (by subst e;exact List.mem_append_left _ (List.mem_filterMap.2 ⟨.tmp t,by simpa using hx,rfl⟩)))
  have hgw:ce st' l.toArray o=ce (sts j) l.toArray o:=by
   unfold ce;cases hgd:o.guard with
   |none=>rfl
   |some gw=>
    obtain⟨g,v⟩:=gw;simp only;cases hd:(l.toArray[g]?).bind (·.dst) with
    |none=>rfl
    |some d=>
     simp only;rw[hlook d (List.mem_append_right _ (by
      rw[hgd];have:(l[g]?).bind (·.dst)=some d:=by simpa using hd
      simp[this]))]
  have hat:∀{s:St},mh P cx s a w->True:=λ_=>trivial;obtain⟨β,q⟩:=I.rel;unfold wpOpIn;simp only[ho'];have hstep:=F.step j o ho;have hbar:bars.contains j=true->mh P cx (sts j) a w:=by
   intro hb;refine mh.congr (st:=st') ⟨β,q⟩ (hn.trans I.n.symm) (hg.trans I.gl.symm) (λt=>?_) s1.symm s2.symm (hp.trans I.p.symm);have hah:∀i,i<j->L.getD i false=true:=λi hi=>I.ahead F ho hr hb (j-i) i aa aa;by_cases hx:∃i,i<j/\bX l i=some t
   .obtain⟨i,hij,hi⟩:=hx;rw[F.fr1 hi j hij aa,I.f1 i t (hah i hij) hi]
   .rw[F.fr2 j aa (λi hij h=>hx ⟨i,hij,h⟩),I.f2 t (λi hLi h=>?_)];have hil:i<l.length:=by rw[<-I.size];exact sF hLi
    rcases Nat.lt_trichotomy i j with h'|h'|h'
    .exact hx ⟨i,h',h⟩
    .subst h';rw[hL] at hLi;cases hLi
    .have:=I.behind F hjl hb i h' hil (.inl hLi);rw[hL] at this;cases this
  rcases hstep with⟨hw,hT,hst⟩|⟨hw,hge,hst⟩|⟨hb,hw,σ,c,hst,A⟩
  .rw[<-hgw] at hw;rw[if_pos (cT q hw)];cases hb:bars.contains j with
   |false=>have hlike:(sts j).like st':=⟨I.n.trans hn.symm,I.gl.trans hg.symm,s1,s2,I.p.trans hp.symm⟩;exact hT st' hlike hgev cx a w _ Q ⟨β,q⟩ λk w' r'=>next k w' (.inl ⟨hb,r'⟩)
   |true=>have hlike:(sts j).like (sts j):=⟨rfl,rfl,rfl,rfl,rfl⟩;exact hT (sts j) hlike (λ_ _=>rfl) cx a w _ Q (hbar hb) λk w' r'=>next k w' (.inr ⟨hb,by rw[hst];exact r'⟩)
  .rw[<-hgw] at hw;rw[if_neg (by rw[cT q hw];simp)];refine⟨λf _=>q.loose.fn f,?_⟩;have hd:∀d,o.dst=some d->d<st'.n:=λd h=>by rw[I.n];exact F.dstn j o d ho h
   cases hb:bars.contains j with
   |false=>exact next _ w (.inl ⟨hb,⟨β,by rw[hge];exact q.put o.dst hd (.imm _ _ (.lit _))⟩⟩)
   |true=>
    obtain⟨B,u⟩:=hbar hb;refine next _ w (.inr ⟨hb,⟨B,?_⟩⟩)
    rw[hst,hge];exact u.put o.dst (by rw[hn,<-I.n];exact hd) (.imm _ _ (.lit _))
  .rw[<-hgw] at hw;rw[if_pos (cT q hw)];exact A cx a w _ Q (hbar hb) λk w' r'=>next k w' (.inr ⟨hb,r'⟩)
theorem BW{id:Nat}{Q:Exit->St->Prop}(hm:P.follows .mixedOrders=true)(hok:xQ l bars st.n=true)(h:tg P l.toArray bars (Q .normal) 0 l st):Tr P (.region id l.toArray true) st Q:=λcx a w R ⟨β,r⟩ k=>by
 obtain⟨sts,gs,h0,d,hs⟩:=yQ l 0 st h;have F:=FF hok h0 (λi o ho=>by have:=hs i o ho;rw[Nat.zero_add] at this;exact this);refine wpIn_region_any hm ?_;have hr:RelB P cx st a {w with drawn:=w.drawn+1} β:=r.world ⟨rfl,rfl,rfl,Nat.le_refl _,λ_ _ _=>rfl,Nat.le_succ _⟩;have I:DInv P l bars st sts gs cx (Array.replicate l.toArray.size false) a {w with drawn:=w.drawn+1} 0 st:={
  size:=aC
  closed:=λj o hj=>by have:=sF hj;simp at this;simp[this] at hj
  hm:=Nat.zero_le _
  bar:=λb hb _=>by simp[hb]
  rel:=⟨β,hr⟩
  n:=rfl
  gl:=rfl
  σ:=by rw[h0]
  c:=by rw[h0]
  p:=rfl
  f1:=λj t hj=>by have:=sF hj;simp at this;simp[this] at hj
  f2:=λ_ _=>rfl}
 exact I.run F (λe w' r'=>k _ _ e w' d r') _ _ _ _ _ _ aC
end draw
end
end Go.Proofs.YtnpdibmpndhkjaaGreatDoor
