/- Texts. -/
import Derived.Lib.SliceRun
import Derived.Test.YtnpdibmpndhkjaaGreatDoorProg
import Derived.Test.YtnpdibmpndhkjaaGreatDoorEC
namespace Go.Proofs.YtnpdibmpndhkjaaGreatDoor
set_option linter.unusedSectionVars false
set_option linter.unusedVariables false
set_option linter.unusedSimpArgs false
open Go.RowKit Tryz
variable (gl:List (Nat×List G))
variable {α:Type}{gs gs0 l:List G}{P:Program}{f:FuncId}{g:G}{r t:Bool}{b:Nat}{a i n:Int}{fn:Func}
def hr(d:Nat){c b:Bool}(t:c=b):HP:=⟨some (.r d b),c=b,t⟩
def hw(d:Nat)(L:List G){p:Prop}(t:p):HP:=⟨some (.w d L),p,t⟩
def hk(d:Nat)(L:List G)(M:Nat){p:Prop}(t:p):HP:=⟨some (.k d L M),p,t⟩
def hq(d:Nat)(ts:List G)(O:List HP){P:Program}{gl:List (Nat×List G)}{f:FuncId}{gs:List G}{g:G}(t:ba P gl f gs g):HP:=⟨some (.q d ts g),IJ (O.map (·.p))/\ba P gl f gs g,by
 refine⟨?_,t⟩;induction O with
 |nil=>trivial
 |cons x r ih=>exact⟨x.t,ih⟩⟩
def ho(d:Nat)(ts:List G)(O:List HP){P:Program}{gl:List (Nat×List G)}{f:FuncId}{gs:List G}{ty:TypeId}{m:Nat}{l:List G}(t:iV P gl f gs ty m l)(h:∀g∈l,∃v,g= .lit v):HP:=⟨some (.o d ts ty m l),IJ (O.map (·.p))/\iV P gl f gs ty m l/\∀g∈l,∃v,g= .lit v,by
 refine⟨?_,t,h⟩;induction O with
 |nil=>trivial
 |cons x r ih=>exact⟨x.t,ih⟩⟩
def hm(d:Nat){P:Program}{t:TypeId}{ok:Bool}{gm gk g:G}(h:∀σ,bL P σ t ok gm gk=some g):HP:=⟨some (.m d g),∀σ,bL P σ t ok gm gk=some g,h⟩
theorem bf:∀g∈([]:List G),bB g:=λg h=>by cases h
theorem aY{x:G}(hx:bB x)(h:∀g∈l,bB g):∀g∈x::l,bB g:=λg hg=>by
 rcases List.mem_cons.1 hg with rfl|hg
 .exact hx
 .exact h g hg
theorem jf{gl:List (Nat×List G)}{c:Nat}(hc:aK P f=true)(hF:ba P gl f gs g)(hg:∀x∈gs,bB x):oJ P gl f gs [] c g [] c:=λo st y xs ats fst cap ho hd hx hgs hgl b a=>by subst hgs;subst hgl;subst a;exact wt ho hd hx hc hg hF
structure FnV (P:Program) (gl:List (Nat×List G)) (fid:FuncId) (fst cap:List G) {α β:Type} (ca:α->List G) (cb:β->G) (p:α->Option β):Prop where
 ok:aK P fid=true
 im1:∀g∈fst,bB g
 im2:∀g∈cap,bB g
 fn:∀x r,p x=some r->ba P gl fid (fst++ca x++cap) (cb r)
theorem FnV.im{P:Program}{gl:List (Nat×List G)}{fid:FuncId}{fst cap:List G}{α β:Type}{ca:α->List G}{cb:β->G}{p:α->Option β}(h:FnV P gl fid fst cap ca cb p):bB (.clo (.func fid) fst cap):=L8 h.im1 h.im2
theorem FnV.cs{P:Program}{gl:List (Nat×List G)}{fid:FuncId}{fst cap:List G}{α β:Type}{ca:α->List G}{cb:β->G}{p:α->Option β}(h:FnV P gl fid fst cap ca cb p){x:α}{r:β}(e:p x=some r)(hx:∀g∈ca x,bB g){c:Nat}:oJ P gl fid (fst++ca x++cap) [] c (cb r) [] c:=jf h.ok (h.fn x r e) λg hg=>by
 rcases List.mem_append.1 hg with hg|hg
 .rcases List.mem_append.1 hg with hg|hg
  .exact h.im1 g hg
  .exact hx g hg
 .exact h.im2 g hg
def hz(d:Nat)(R:List Nat){P:Program}{gl:List (Nat×List G)}{f:FuncId}{gs:List G}{σR:aQ}{c:Nat}{g:G}{U:aQ}{c':Nat}(t:oJ P gl f gs σR c g U c'):HP:=⟨some (.z d R g U c'),oJ P gl f gs σR c g U c',t⟩
theorem cF{gl:List (Nat×List G)}{b:Bool}(h:ba P gl f gs (bG t))(e:t=b):ba P gl f gs (bG b):=e▸h
theorem cS{gl:List (Nat×List G)}{σR U:aQ}{c c':Nat}{b:Bool}(h:oJ P gl f gs σR c (bG t) U c')(e:t=b):oJ P gl f gs σR c (bG b) U c':=e▸h
theorem cV{X:Operand->Operand->Option G}{b:Bool}(h:∀p q,X p q=some (bG t))(e:t=b):∀p q,X p q=some (bG b):=e▸h
def OX(f:G->G->G):List G->List G->List G
 |g::r,t::r'=>f g t::OX f r r'
 |_,_=>[]
def nz:Nat->G->G->G
 |0,g,_=>g
 |n+1,g,t=>match t with
  | .sl _ _=>match g with
   | .lit (.slice none 0 0)=> .sl [] 0
   |g=>g
  | .agg l'=>match g with
   | .agg l=> .agg (bif Nat.beq l.length l'.length then OX (nz n) l l' else l)
   |g=>g
  |_=>g
theorem wV{f:G->G->G}:∀(l t:List G),l.length=t.length->(OX f l t).length=l.length
 |[],[],_=>rfl
 |g::r,t::r',h=>by simp only[OX,List.length_cons,wV r r' (by simpa using h)]
theorem sS{f:G->G->G}:∀(l t:List G),l.length=t.length->∀(i:Nat) (g':G),(OX f l t)[i]?=some g'->∃g a,l[i]?=some g/\g'=f g a
 |[],[],_,i,g',h=>by simp[OX] at h
 |g::r,t::r',h,i,g',hg=>by
  cases i with
  |zero=>simp only[OX,List.getElem?_cons_zero,bg] at hg;exact⟨g,t,rfl,hg.symm⟩
  |succ i=>simp only[OX,List.getElem?_cons_succ] at hg;simpa using sS r r' (by simpa using h) i g' hg
theorem UX{S:Nat->Prop}{w:World}:∀(n:Nat) (g t:G) (v:Value),IV S w g v->IV S w (nz n g t) v
 |0,g,t,v,h=>h
 |n+1,g,t,v,h=>by
  unfold nz;split
  .split
   .cases h;exact .sl [] 0 none 0 (λ_=>undef) (Nat.le_refl _) (Nat.zero_le _) aC aC aC
   .exact h
  .split
   .rename_i c _ l;cases hb:Nat.beq l.length c.length with
    |false=>exact h
    |true=>
     have hl:=bc hb;cases h with
     |agg _ us h2 h1 hr=>refine .agg _ us (by rw[ax,wV _ _ hl];exact h2) h1 λi d u hg hu=>?_;obtain⟨g,b,a,rfl⟩:=sS _ _ hl i d hg;exact UX n g b u (hr i g u a hu)
   .exact h
  .exact h
theorem UY{gl:List (Nat×List G)}{r:G}{ts:List G}(gs:List G)(h:ba P gl f ts r)(hl:gs.length=ts.length:=by rfl)(e:OX (nz 20) gs ts=ts:=by kernel_rfl):ba P gl f gs r:=λw S vs hS c hsz a=>by refine h w S vs hS c aa λi g u hg hu=>?_;rw[<-e] at hg;obtain⟨g0,d,b,rfl⟩:=sS _ _ hl i g hg;exact UX 20 g0 d u (a i g0 u b hu)
theorem Gj{f:α->List G}(hf:∀x,∀g∈f x,∃v,g= .lit v)(l:List α):∀g∈l.flatMap f,∃v,g= .lit v:=λg hg=>by obtain⟨x,_,hx⟩:=List.mem_flatMap.1 hg;exact hf x g hx
def wY(z:Int):UInt8:=UInt8.ofNat (IntKind.u8.wrap z).toNat
theorem YG(z:Int):0<=IntKind.u64.wrap z:=by show 0<=z%18446744073709551616;exact Int.emod_nonneg _ a9
theorem zk(z:Int):((wU z:Nat):Int)=IntKind.u64.wrap z:=Int.toNat_of_nonneg (YG z)
theorem C8(z:Int):some (G.lit (.int .u64 (IntKind.u64.wrap z)))=some (uG (wU z)):=by rw[zk]
theorem gV(a b:Int):lD .add (uG a) (uG b)=some (uG (wU (a+b))):=by rw[zk];rfl
theorem YH(a b:Int):lD .sub (uG a) (uG b)=some (uG (wU (a-b))):=by rw[zk];rfl
theorem na(a b:Int):lD .mul (uG a) (uG b)=some (uG (wU (a*b))):=by rw[zk];rfl
theorem iD(a b:Nat)(h:b≠0):lD .rem (uG a) (uG b)=some (uG ((a%b:Nat):Int)):=by show(if(b:Int)=0 then none else some (uG (Int.tmod a b)))=_;rw[if_neg aa];rfl
theorem zm(a b:Nat)(h:b≠0):lD .quo (uG a) (uG b)=some (uG (wU (a/b:Nat))):=by show(if(b:Int)=0 then none else some (uG (IntKind.u64.wrap (Int.tdiv a b))))=_;rw[if_neg aa,zk];rfl
theorem Tt{b r:Int}(h:Gg a b=some r):lD .quo (iG a) (iG b)=some (iG r):=by
 unfold Gg at h;show(if b=0 then none else some (iG (IntKind.i64.wrap (a.tdiv b))))=_;split at h
 .cases h
 .rename_i hb;cases h;rw[if_neg hb]
theorem KO{b r:Int}(h:u9 a b=some r):lD .rem (iG a) (iG b)=some (iG r):=by
 unfold u9 at h;show(if b=0 then none else some (iG (a.tmod b)))=_;split at h
 .cases h
 .rename_i hb;cases h;rw[if_neg hb]
def CH(a b:Nat):Option Nat:=if b=0 then none else some (a%b)
theorem YI{a r:Nat}(h:CH a b=some r):lD .rem (uG a) (uG b)=some (uG r):=by
 unfold CH at h;split at h
 .cases h
 .rename_i hb;cases h;exact iD a b hb
def gB(a b:Int):Int:=if b>a then b else a
def iI(a b:Int):Int:=if b<a then b else a
abbrev sG(s:List UInt8):G:= .lit (.string ⟨s.toArray⟩)
abbrev Iy:G:= .lit (.slice none 0 0)
theorem YJ(z:Int):((wY z).toNat:Int)=IntKind.u8.wrap z:=by
 have h1:0<=IntKind.u8.wrap z/\IntKind.u8.wrap z<256:=by show 0<=z%256/\z%256<256;exact⟨Int.emod_nonneg _ a9,Int.emod_lt_of_pos _ a9⟩
 unfold wY;rw[UInt8.toNat_ofNat',Nat.mod_eq_of_lt aa,Int.toNat_of_nonneg h1.1]
theorem YK(a b:UInt8):lD .add (gY a) (gY b)=some (gY (wY ((a.toNat:Int)+(b.toNat:Int)))):=by show some (G.lit (.int .u8 (IntKind.u8.wrap _)))=some (G.lit (.int .u8 ((wY _).toNat:Int)));rw[YJ]
def Gk(s:List UInt8):Option (List UInt8):=if s.length<=9223372036854775807 then some s else none
theorem Iz(z:Int):some (G.lit (.int .u8 (IntKind.u8.wrap z)))=some (gY (wY z)):=by
 have h1:0<=IntKind.u8.wrap z/\IntKind.u8.wrap z<256:=by show 0<=z%256/\z%256<256;exact⟨Int.emod_nonneg _ a9,Int.emod_lt_of_pos _ a9⟩
 show _=some (G.lit (.int .u8 ((wY z).toNat:Int)));unfold wY;rw[UInt8.toNat_ofNat',Nat.mod_eq_of_lt aa,Int.toNat_of_nonneg h1.1]
theorem fH{l:List α}{x:α}(h:aS l i=some x):0<=i/\l[i.toNat]?=some x:=by
 unfold aS at h;split at h
 .exact⟨‹_›,h⟩
 .cases h
section
variable {P:Program} {ts te:TypeId} {k:Nat} {α:Type} {f:α->List G}
theorem RowTy.ixZ(R:RowTy P ts te k f){l:List α}{i:Int}{x:α}(h:aS l i=some x):fh P ts (aE f l) i=some (.ptr (l.flatMap f) (i.toNat*k)):=by obtain⟨h1,h2⟩:=fH h;have:=R.ix h2;rwa [Int.toNat_of_nonneg h1] at this
theorem RowTy.ptZ(R:RowTy P ts te k f)(ha:fg P te=some true){l:List α}{i:Int}{x:α}(h:aS l i=some x):dN P te (l.flatMap f) (i.toNat*k)=some (.agg (f x)):=R.pt ha (fH h).2
theorem RowTy.p1Z(R:RowTy P ts te 1 f)(ha:fg P te=some false){l:List α}{i:Int}{x:α}(h:aS l i=some x){g:G}(hg:f x=[g]:=by rfl):dN P te (l.flatMap f) (i.toNat*1)=some g:=R.pt1 ha (fH h).2 hg
theorem RowTy.fdZ(R:RowTy P ts te k f){t:TypeId}(ha:fg P t=some false){l:List α}{i:Int}{x:α}{g:G}(j:Nat)(h:aS l i=some x)(hg:(f x)[j]?=some g:=by rfl):dN P t (l.flatMap f) (i.toNat*k+j)=some g:=R.fd ha (fH h).2 hg
theorem RowTy.fs(R:RowTy P ts te k f){t:TypeId}{n:Nat}(ha:fg P t=some true)(hs:bw P t=some n){l:List α}{i j:Nat}{x:α}(h:l[i]?=some x)(hj:j+n<=k):dN P t (l.flatMap f) (i*k+j)=some (.agg (((f x).drop j).take n)):=by have hb:=l9 (k:=k) h;have e:=wQ (f:=f) (k:=k) R.ln h;simp only[dN,ha,hs];rw[if_pos (by rw[R.len];omega),<-e,<-List.drop_drop,List.drop_take,List.take_take,Nat.min_eq_left aa]
theorem RowTy.fsZ(R:RowTy P ts te k f){t:TypeId}{n:Nat}(ha:fg P t=some true)(hs:bw P t=some n)(j:Nat)(hj:j+n<=k){l:List α}{i:Int}{x:α}(h:aS l i=some x):dN P t (l.flatMap f) (i.toNat*k+j)=some (.agg (((f x).drop j).take n)):=R.fs ha hs (fH h).2 hj
theorem RowTy.ixrZ(R:RowTy P ts te k f)(j:Nat){l:List α}{i:Int}{x:α}(h:aS l i=some x):fh P ts (.rsl j 0 l.length) i=some (.ref j (0+i.toNat*k)):=by obtain⟨h1,h2⟩:=fH h;have:=R.ixr j (o:=0) h2;rwa [Int.toNat_of_nonneg h1] at this
theorem RowTy.pt0Z(R:RowTy P ts te k f)(ha:fg P te=some true){l:List α}{i:Int}{x:α}(h:aS l i=some x):dN P te (l.flatMap f) (0+i.toNat*k)=some (.agg (f x)):=by rw[Nat.zero_add];exact R.ptZ ha h
theorem RowTy.p10Z(R:RowTy P ts te 1 f)(ha:fg P te=some false){l:List α}{i:Int}{x:α}(h:aS l i=some x){g:G}(hg:f x=[g]:=by rfl):dN P te (l.flatMap f) (0+i.toNat*1)=some g:=by rw[Nat.zero_add];exact R.p1Z ha h hg
theorem RowTy.fd0Z(R:RowTy P ts te k f){t:TypeId}(ha:fg P t=some false){l:List α}{i:Int}{x:α}{g:G}(j:Nat)(h:aS l i=some x)(hg:(f x)[j]?=some g:=by rfl):dN P t (l.flatMap f) (0+i.toNat*k+j)=some g:=by rw[Nat.zero_add];exact R.fdZ ha j h hg
theorem RowTy.fs0Z(R:RowTy P ts te k f){t:TypeId}{n:Nat}(ha:fg P t=some true)(hs:bw P t=some n)(j:Nat)(hj:j+n<=k){l:List α}{i:Int}{x:α}(h:aS l i=some x):dN P t (l.flatMap f) (0+i.toNat*k+j)=some (.agg (((f x).drop j).take n)):=by rw[Nat.zero_add];exact R.fsZ ha hs j hj h
theorem sT{l l':List α}{x:α}(h:ji l i x=some l'):0<=i/\i.toNat<l.length/\l'=l.set i.toNat x:=by
 unfold ji at h;split at h
 .rename_i hc;cases h;exact⟨hc.1,hc.2,rfl⟩
 .cases h
theorem Tu{l l':List α}{x:α}(h:ji l i x=some l'):∃y,aS l i=some y:=by obtain⟨h1,h2,_⟩:=sT h;exact⟨l[i.toNat],by unfold aS;rw[if_pos h1];exact cv h2⟩
theorem RowTy.ixsZ(R:RowTy P ts te k f)(j:Nat){l l':List α}{i:Int}{x:α}(h:ji l i x=some l'):fh P ts (.rsl j 0 l.length) i=some (.ref j (0+i.toNat*k)):=by obtain⟨y,hy⟩:=Tu h;exact R.ixrZ j hy
theorem wW(hk:∀x,(f x).length=k)(x:α):∀(l:List α) (i:Nat),i<l.length->(l.flatMap f).take (i*k)++f x++(l.flatMap f).drop (i*k+k)=(l.set i x).flatMap f
 |[],i,h=>by cases h
 |y::r,0,h=>by rw[List.set_cons_zero,List.flatMap_cons,List.flatMap_cons,Nat.zero_mul,List.take_zero,Nat.zero_add,List.nil_append];congr 1;rw[List.drop_append_of_le_length (by rw[hk];exact Nat.le_refl _),List.drop_of_length_le (by rw[hk];exact Nat.le_refl _),List.nil_append]
 |y::r,i+1,h=>by
  have ih:=wW hk x r i (by simpa using h);rw[List.set_cons_succ,List.flatMap_cons,List.flatMap_cons,<-ih];have e1:(f y++r.flatMap f).take ((i+1)*k)=f y++(r.flatMap f).take (i*k):=by rw[List.take_append,hk,List.take_of_length_le (by rw[hk,Nat.succ_mul];omega)];congr 2;rw[Nat.succ_mul];omega
  have e2:(f y++r.flatMap f).drop ((i+1)*k+k)=(r.flatMap f).drop (i*k+k):=by rw[List.drop_append,hk,List.drop_of_length_le (by rw[hk,Nat.succ_mul];omega),List.nil_append];congr 1;rw[Nat.succ_mul];omega
  rw[e1,e2];simp
theorem RowTy.putZ(R:RowTy P ts te k f){l l':List α}{i:Int}{x:α}(h:ji l i x=some l'):(f x).length=k/\0+i.toNat*k+k<=(l.flatMap f).length/\(l.flatMap f).take (0+i.toNat*k)++f x++(l.flatMap f).drop (0+i.toNat*k+k)=l'.flatMap f:=by
 obtain⟨h1,h2,rfl⟩:=sT h;refine⟨R.ln x,?_,?_⟩
 .have:=l9 (k:=k) (cv h2);rw[R.len];omega
 .rw[Nat.zero_add];exact wW R.ln x l i.toNat h2
theorem RowTy.putF(R:RowTy P ts te k f){l l':List α}{i:Int}{x x':α}(h:ji l i x'=some l')(hx:aS l i=some x)(a n:Nat){gs:List G}(hg:gs.length=n)(d:a+n<=k)(hf:f x'=(f x).take a++gs++(f x).drop (a+n)):gs.length=n/\0+i.toNat*k+a+n<=(l.flatMap f).length/\(l.flatMap f).take (0+i.toNat*k+a)++gs++(l.flatMap f).drop (0+i.toNat*k+a+n)=l'.flatMap f:=by
 obtain⟨h1,h2,rfl⟩:=sT h;obtain⟨_,hx⟩:=fH hx;have e0:l.set i.toNat x=l:=by
  apply List.ext_getElem?;intro j;rw[List.getElem?_set];split
  .subst_vars;exact hx.symm
  .rfl
 have b:=l9 (k:=k) (cv h2);have c:=wW R.ln x l i.toNat h2;rw[e0] at c;have e:=wW R.ln x' l i.toNat h2;refine⟨hg,?_,?_⟩
 .rw[R.len];omega
 .rw[Nat.zero_add,<-e,hf];have la:((l.flatMap f).take (i.toNat*k)).length=i.toNat*k:=by rw[List.length_take,R.len];omega
  have lx:=R.ln x;generalize hA:(l.flatMap f).take (i.toNat*k)=A at*;generalize hB:(l.flatMap f).drop (i.toNat*k+k)=B at*;rw[<-c];have e1:(A++f x++B).take (i.toNat*k+a)=A++(f x).take a:=by rw[List.append_assoc,List.take_append,la,List.take_of_length_le aa,Nat.add_sub_cancel_left,List.take_append_of_le_length aa]
  have e2:(A++f x++B).drop (i.toNat*k+a+n)=(f x).drop (a+n)++B:=by rw[List.append_assoc,List.drop_append,la,List.drop_of_length_le aa,List.nil_append,show i.toNat*k+a+n-i.toNat*k=a+n by omega,List.drop_append_of_le_length aa]
  rw[e1,e2];simp[List.append_assoc]
theorem jx{l r y:List α}(h:aT b l r=some y):(l.length+r.length)*b<=140737488355328/\y=l++r:=by
 unfold aT at h;split at h
 .cases h;exact⟨‹_›,rfl⟩
 .cases h
def bF:List Nat->List G->List G
 |[],l=>l
 |k::r,l=>bF r (l.set k Iy)
theorem el{α:Type}(l:List α):l.length=l.length:=rfl
theorem RowTy.al(R:RowTy P ts te k f)(l:List α){m:Nat}(e:m=l.length:=by rfl):(l.flatMap f).length=l.length*k/\(∀x∈l.flatMap f,bB x)/\m=l.length:=⟨R.len l,R.imm l,e⟩
theorem hZ{l l':List α}{x:α}(h:ji l i x=some l'):l.length=l'.length:=by obtain⟨_,_,rfl⟩:=sT h;simp
theorem RowTy.whole(R:RowTy P ts te k f)(r:List α):((r.flatMap f).drop 0).take (r.length*k)=r.flatMap f:=by rw[List.drop_zero,List.take_of_length_le (by rw[R.len];exact Nat.le_refl _)]
def dg(d:Nat)(R:RowTy P ts te k f){b:Nat}{l r y:List α}(h:aT b l r=some y):HP:=ha d (y.flatMap f) y.length (p:=(l.flatMap f).length=l.length*k/\0+r.length*k<=(r.flatMap f).length/\(l.length+r.length)*b<=140737488355328/\l.flatMap f++((r.flatMap f).drop 0).take (r.length*k)=y.flatMap f/\l.length+r.length=y.length) (by obtain⟨h1,rfl⟩:=jx h;exact⟨R.len l,by rw[R.len,Nat.zero_add];exact Nat.le_refl _,h1,by rw[R.whole,List.flatMap_append],List.length_append.symm⟩)
def eu(d:Nat)(R:RowTy P ts te k f){b:Nat}{l r y:List α}(h:aT b l r=some y):HP:=ha d (y.flatMap f) y.length (p:=(l.flatMap f).length=l.length*k/\(r.flatMap f).length=r.length*k/\(l.length+r.length)*b<=140737488355328/\l.flatMap f++r.flatMap f=y.flatMap f/\l.length+r.length=y.length) (by obtain⟨h1,rfl⟩:=jx h;exact⟨R.len l,R.len r,h1,by rw[List.flatMap_append],List.length_append.symm⟩)
def YL(d:Nat)(R:RowTy P ts te k f){b:Nat}{r y:List α}(h:aT b [] r=some y):HP:=ha d (y.flatMap f) y.length (p:=True/\0+r.length*k<=(r.flatMap f).length/\(0+r.length)*b<=140737488355328/\[]++((r.flatMap f).drop 0).take (r.length*k)=y.flatMap f/\0+r.length=y.length) (by obtain⟨h1,rfl⟩:=jx h;exact⟨trivial,by rw[R.len,Nat.zero_add];exact Nat.le_refl _,h1,by rw[R.whole];rfl,aC⟩)
def wX(d:Nat)(R:RowTy P ts te k f){b:Nat}{r y:List α}(h:aT b [] r=some y):HP:=ha d (y.flatMap f) y.length (p:=True/\(r.flatMap f).length=r.length*k/\(0+r.length)*b<=140737488355328/\[]++r.flatMap f=y.flatMap f/\0+r.length=y.length) (by obtain⟨h1,rfl⟩:=jx h;exact⟨trivial,R.len _,h1,rfl,aC⟩)
theorem RowTy.snoc1(R:RowTy P ts te k f)(l:List α)(x:α):l.flatMap f++f x=(l++[x]).flatMap f:=aC
def Tv(d:Nat)(R:RowTy P ts te k f){b:Nat}{l y:List α}{x:α}(h:aT b l [x]=some y)(c:List G)(hc:c.length=k):HP:=ha d (l.flatMap f++c) y.length (p:=(l.flatMap f).length=l.length*k/\0+1*k<=c.length/\(l.length+1)*b<=140737488355328/\l.flatMap f++(c.drop 0).take (1*k)=l.flatMap f++c/\l.length+1=y.length) (by obtain⟨h1,rfl⟩:=jx h;exact⟨R.len l,aa,h1,by rw[List.drop_zero,Nat.one_mul,List.take_of_length_le aa],aC⟩)
theorem RowTy.app(R:RowTy P ts te k f){b:Nat}{l y:List α}{x:α}(h:aT b l [x]=some y):(∀g∈l.flatMap f,bB g)/\l.flatMap f++f x=y.flatMap f:=by obtain⟨h1,rfl⟩:=jx h;exact⟨R.imm l,R.snoc1 l x⟩
def ZV(R:RowTy P ts te k f){b:Nat}{l y:List α}{x:α}(h:aT b l [x]=some y)(c:List G):HP:=hc (p:=l.flatMap f++c=l.flatMap f++c/\(∀g∈l.flatMap f,bB g)/\l.flatMap f++f x=y.flatMap f) ⟨rfl,(R.app h).1,(R.app h).2⟩
theorem ym{l y:List α}(h:tq l i=some y):0<=i/\i.toNat<=l.length/\y=l.take i.toNat:=by
 unfold tq at h;split at h
 .rename_i hc;cases h;exact⟨hc.1,hc.2,rfl⟩
 .cases h
theorem yn{l y:List α}(h:mc l i=some y):0<=i/\i.toNat<=l.length/\y=l.drop i.toNat:=by
 unfold mc at h;split at h
 .rename_i hc;cases h;exact⟨hc.1,hc.2,rfl⟩
 .cases h
theorem RowTy.preZI(R:RowTy P ts te k f){l y:List α}{i:Int}(h:tq l i=some y):ig P ts (aE f l) none (some i)=some (aE f y):=by obtain⟨h1,h2,rfl⟩:=ym h;simp only[ig,R.el,R.sz,aL,aE];rw[if_pos aa,yk R.ln,List.length_take,Nat.min_eq_left h2]
theorem RowTy.sufZI(R:RowTy P ts te k f){l y:List α}{i:Int}(h:mc l i=some y):ig P ts (aE f l) (some i) none=some (aE f y):=by obtain⟨h1,h2,rfl⟩:=yn h;simp only[ig,R.el,R.sz,aL,aE];rw[if_pos ⟨aa,aa,by rw[R.len];exact Nat.le_refl _⟩,sQ R.ln,List.length_drop]
theorem RowTy.preZ(R:RowTy P ts te k f)(j:Nat){l y:List α}{i:Int}(h:tq l i=some y):ig P ts (.rsl j 0 l.length) none (some i)=some (.rsl j 0 i.toNat):=by obtain⟨h1,h2,_⟩:=ym h;have:=R.pre j h2;rwa [Int.toNat_of_nonneg h1] at this
theorem RowTy.sufZ(R:RowTy P ts te k f)(j:Nat){l y:List α}{i:Int}(h:mc l i=some y):ig P ts (.rsl j 0 l.length) (some i) none=some (.rsl j (0+i.toNat*k) (l.length-i.toNat)):=by obtain⟨h1,h2,_⟩:=yn h;have:=R.suf j h2;rwa [Int.toNat_of_nonneg h1] at this
theorem KP{z:α}{l:List α}(h:rP b z n=some l):0<=n/\b*n.toNat<=281474976710656/\n<=9223372036854775807/\l=List.replicate n.toNat z:=by
 unfold rP at h;split at h
 .rename_i hc;cases h;exact⟨hc.1,hc.2.1,hc.2.2,rfl⟩
 .cases h
theorem Wn(v:Value)(n:Nat):bN [v] n=List.replicate n v:=by
 unfold bN;apply List.ext_getElem
 .simp
 .intro i h1 h2;simp;rw[Nat.mod_one];rfl
theorem QT{x:α}(hg:f x=[g])(n:Nat):(List.replicate n x).flatMap f=List.replicate n g:=by
 induction n with
 |zero=>rfl
 |succ n ih=>rw[List.replicate_succ,List.flatMap_cons,ih,hg];rfl
theorem mk1(R:RowTy P ts te 1 f){v:Value}{x:α}{l:List α}(h:rP b x n=some l)(hz:jj P te=some [v])(hb:(P.info? te).map (·.bytes)=some b)(hx:f x=[.lit v]):tI P ts (iG n) (iG n)=some (te,l.flatMap f,l.length):=by obtain⟨h1,h2,h3,rfl⟩:=KP h;obtain⟨m,rfl⟩:=Int.eq_ofNat_of_zero_le h1;simp only[Int.toNat_natCast] at h2;show tI P ts (.lit (.int .i64 (.ofNat m))) (.lit (.int .i64 (.ofNat m)))=_;unfold tI;simp only[R.el,R.sz,hz,hb,Nat.beq_refl,List.length_singleton,Bool.true_and];rw[Nat.ble_eq_true_of_le h2,Nat.ble_eq_true_of_le (by omega:m<=9223372036854775807)];simp only[Bool.true_and,ax,Nat.mul_one,Wn,List.map_replicate,Int.toNat_natCast,QT hx,List.length_replicate]
def ZW(d:Nat)(R:RowTy P ts te 1 f){v:Value}{b:Nat}{x:α}{n:Int}{l:List α}(h:rP b x n=some l)(hz:jj P te=some [v]:=by kernel_rfl)(hb:(P.info? te).map (·.bytes)=some b:=by kernel_rfl)(hx:f x=[.lit v]:=by rfl):HP:=hk d (l.flatMap f) l.length (mk1 R h hz hb hx)
def CI(i:Nat)(gs gs0:List G):Prop:=∀(j:Nat) (g g':G),gs[j]?=some g->gs0[j]?=some g'->(∃o n,g= .rsl i o n/\g'= .rsl 0 o n)\/(g'=g/\bB g)
theorem wZ{i:Nat}:CI i [] []:=λj g a h=>by simp at h
theorem w5{i o n:Nat}(h:CI i gs gs0):CI i (.rsl i o n::gs) (.rsl 0 o n::gs0):=λj g a h1 h2=>by
 cases j with
 |zero=>simp at h1 h2;exact .inl ⟨o,n,h1.symm,h2.symm⟩
 |succ j=>exact h j g a (by simpa using h1) (by simpa using h2)
theorem CJ{i:Nat}{g0:G}(hg:bB g0)(h:CI i gs gs0):CI i (g0::gs) (g0::gs0):=λj g a h1 h2=>by
 cases j with
 |zero=>simp at h1 h2;subst h1;subst h2;exact .inr ⟨rfl,hg⟩
 |succ j=>exact h j g a (by simpa using h1) (by simpa using h2)
theorem eB{gs:List G}(h:gs.all (nF 20)=true):∀g∈gs,bB g:=λg hg=>aG 20 g (List.all_eq_true.1 h g hg)
theorem rn4{c a b d e:Nat}:Rn [(c,0),(c+1,1),(c+2,2),(c+3,3)] (.agg [.rsl 0 0 a,.rsl 1 0 b,.rsl 2 0 d,.rsl 3 0 e]) (.agg [.rsl c 0 a,.rsl (c+1) 0 b,.rsl (c+2) 0 d,.rsl (c+3) 0 e]):=VZ rfl λi g h h1 h2=>by
 match i with
 |0=>simp at h1 h2;subst h1;subst h2;exact BZ (m9 c (j:=0) a9)
 |1=>simp at h1 h2;subst h1;subst h2;exact BZ (m9 c (j:=1) a9)
 |2=>simp at h1 h2;subst h1;subst h2;exact BZ (m9 c (j:=2) a9)
 |3=>simp at h1 h2;subst h1;subst h2;exact BZ (m9 c (j:=3) a9)
 |n+4=>simp at h1
end
section
variable {P:Program}
theorem th.mn{o:Oper}{st:St}{S T:St->Prop}(h:th P o st S)(k:∀s,S s->T s):th P o st T:=λcx a w K R r hk=>h cx a w K R r λs hs=>hk s (k s hs)
theorem QU{o:Oper}{st:St}{ts e:TypeId}{x:Operand}{l:List G}{n:Nat}{u:Bool}(ho:∃z,o.op= .binOp .eql ts x (.const (.slice none 0 0)) z)(ht:P.underlying ts=some (.slice e))(hd:H_d o st.n)(hx:aB st x= .sl l n):th P o st (λs=>∃b,(b=true->l=[])/\s=st.put o.dst (bG b)):=by
 obtain⟨z,ho⟩:=ho;intro cx a w K R ⟨β,h⟩ d;refine h.loose.oper (λc hc=>by rw[ho] at hc;cases hc) ?_;have hv:=h.ev x;rw[hx] at hv;obtain⟨ad,cap,us,hv,_,_,ha,_⟩:=hv.sl_cells;have hrun:(execOp a.eval o).run P w= .ok (.value (.bool ad.isNone)) w:=by unfold execOp;have hk:a.eval (.const (.slice none 0 0))= .slice none 0 0:=rfl;simp[ho,hv,hk,eqGuard,Lib.run_eql_slice_nil w ts e ad n cap 0 0 ht]
 unfold Oper.wp;rw[hrun];refine d _ ⟨ad.isNone,λhn=>?_,rfl⟩ _ _ ⟨β,h.put o.dst hd (.imm _ _ (.lit _))⟩;cases l with
 |nil=>rfl
 |cons g r=>obtain⟨b,f,e,_⟩:=ha 0 aC;rw[e] at hn;cases hn
end
section
variable {P:Program} {fn:Func} {Q:Exit->St->Prop} {Bs:List (St->Prop)} {p:List Nat} {st:St}
def QV(P:Program)(c:Code)(x d1 d2:Nat)(ts e:TypeId):Bool:=match c with
 | .region _ ⟨[⟨some b,.move (.tmp x'),_,_,_,none⟩,⟨some d,.binOp .eql t' (.tmp a) (.const (.slice none 0 0)) _,_,_,_,none⟩]⟩ false=>Nat.beq b d1&&Nat.beq d d2&&Nat.beq x x'&&Nat.beq a d1&&Nat.beq t' ts&&(match P.underlying ts with|some (.slice e')=>Nat.beq e e'|_=>false)
 |_=>false
theorem IA{n:Nat}(x d1 d2:Nat)(ts e:TypeId)(hx:aD st.fr x= .sl l n)(h1:d1<st.n)(h2:d2<st.n)(h:∀b,(b=true->l=[])->Gp P fn Q Bs true p ((st.put (some d1) (.sl l n)).put (some d2) (bG b)))(hc:QV P (bq p (ai fn)) x d1 d2 ts e=true:=by kernel_rfl):Gp P fn Q Bs false p st:=by
 unfold Gp c7 at h⊢;simp only[ax,aM] at h⊢;revert hc;generalize bq p (ai fn)=c;intro hc;unfold QV at hc;split at hc
 .rename_i id t v f g i q r a z j k m;simp only[bA] at hc;obtain⟨⟨⟨⟨⟨e1,e2⟩,e3⟩,e4⟩,e5⟩,e6⟩:=hc;obtain rfl:=bc e1;obtain rfl:=bc e2;obtain rfl:=bc e3;obtain rfl:=bc e4;obtain rfl:=bc e5;split at e6
  .rename_i e' hu;obtain rfl:=bc e6;unfold CQ;refine lG (l:=[_,_]) ?_;have g1:GS P ⟨some a,.move (.tmp x),f,g,i,none⟩ st (st.put (some a) (.sl l n)):=fM (o:=⟨some a,.move (.tmp x),f,g,i,none⟩) (λd hd=>by cases hd;exact h1) (by show some (aD st.fr x)=_;rw[hx]);refine .inl ⟨rfl,g1.gsn.mn ?_⟩;rintro s rfl;have g2:=QU (P:=P) (o:=⟨some q,.binOp .eql r (.tmp a) (.const (.slice none 0 0)) z,j,k,m,none⟩) (st:=st.put (some a) (.sl l n)) (u:=true) ⟨z,rfl⟩ hu (λd hd=>by cases hd;exact h2) (l:=l) (n:=n) (by show aD _ _=_;simp[St.put,aD]);refine .inl ⟨rfl,g2.mn ?_⟩;rintro s ⟨b,hb,rfl⟩;exact h b hb
  .cases e6
 .cases hc
end
section
attribute [local irreducible] Tr dz Gp
def ptG:Nat->Nat->List Nat->List Nat
 |0,_,l=>l
 |f+1,n,l=>bif Nat.ble n 1 then l else ptG f (n/10) (n%10::l)
instance(n:Nat):OfNat (List Nat) n:=⟨ptG 60 n []⟩
def rI(n:Nat):List (Nat×Nat):=(List.range n).map λi=>(i,i)
abbrev s0(n:Nat)(gl:List (Nat×List G))(fr:Fr)(σ:aQ)(c p:Nat):St:=⟨n,gl,fr,σ,c,p,false⟩
abbrev ob(i t:Nat)(l:List G):Nat×Option Ob:=(i,some ⟨t,l,none⟩)
def RD{α:Type}(A:List HP)(e:Option α)(r:α)(X:Prop):Prop:=e=some r->X
def Yw{β:Type}(q:Nat×β):List (Nat×β)->List (Nat×β)
 |[]=>[q]
 |z::r=>bif Nat.beq z.1 q.1 then q::r else bif Nat.blt q.1 z.1 then q::z::r else z::Yw q r
def sx(a:List Nat)(ad:Fr)(σ:aQ)(c:Nat)(s:St):St:=⟨s.n,s.gl,ad.foldr Yw (s.fr.filter λq=> !a.any (Nat.beq q.1)),σ,c,s.p,s.r⟩
def sk(a:List Nat)(ad:Fr)(σ:aQ)(c:Nat)(s:St):St:=⟨s.n,s.gl,ad.foldr Yw (s.fr.filter λq=>a.any (Nat.beq q.1)),σ,c,s.p,s.r⟩
def so(a:List Nat)(ad:Fr)(l:aQ)(c:Nat)(s:St):St:=sx a ad (l.foldr Yw s.σ) c s
def sp(a:List Nat)(ad:Fr)(l:aQ)(c:Nat)(s:St):St:=sk a ad (l.foldr Yw s.σ) c s
def sf(a:List Nat)(ad:Fr)(s:St):St:=sx a ad s.σ s.c s
def sg(a:List Nat)(ad:Fr)(s:St):St:=sk a ad s.σ s.c s
abbrev c0{α:Type}(x:α):α:=x
abbrev c1{α β:Type}(x:β):α⊕β:= .inr x
abbrev c2{α β γ:Type}(x:β):α⊕(β⊕γ):= .inr (.inl x)
abbrev c3{α β γ:Type}(x:γ):α⊕(β⊕γ):= .inr (.inr x)
abbrev c4{α β:Type}(x:α):α⊕β:= .inl x
section
variable {P:Program} {α β σ X V:Type} {A:List HP} {e:Option α} {r:α} {Y:Prop}
theorem ak{e:Option β}{F:β->Option α}(k:∀y,e=some y->RD A (F y) r Y):RD A (e.bind F) r Y:=λh=>by obtain⟨y,e1,h⟩:=bS h;exact k y e1 h
theorem aw(L:List HP)(k:RD (L++A) e r Y):RD A e r Y:=k
theorem aF(d:Nat){c:Bool}{a b:Option α}(k1:∀{t:c=true},RD (hr d t::A) a r Y)(k2:∀{t:c=false},RD (hr d t::A) b r Y):RD A (bif c then a else b) r Y:=λh=>by
 rcases bC h with⟨t,h⟩|⟨t,h⟩
 .exact k1 (t:=t) h
 .exact k2 (t:=t) h
theorem kV{c:Bool}{a b:Option α}(k1:c=true->RD A a r Y)(k2:c=false->RD A b r Y):RD A (bif c then a else b) r Y:=λh=>by
 rcases bC h with⟨t,h⟩|⟨t,h⟩
 .exact k1 t h
 .exact k2 t h
variable [M:Mix P] {fn:Func} {Q:Exit->St->Prop} {Bs Bs':List (St->Prop)} {m:Bool} {p:List Nat} {st:St}
theorem eH(l:List Nat){c:Bool}{a b:Option α}(k1:∀{t:c=true},RD A a r (Gp P fn Q Bs m p (sf [] (l.map λd=>(d,bG true)) st)))(k2:∀{t:c=false},RD A b r (Gp P fn Q Bs m p (sf [] (l.map λd=>(d,bG false)) st)))(h:sf [] (l.map λd=>(d,bG c)) st=st:=by kernel_rfl):RD A (bif c then a else b) r (Gp P fn Q Bs m p st):=λh0=>by
 rcases bC h0 with⟨t,h0⟩|⟨t,h0⟩
 .have:=k1 (t:=t) h0;rw[t] at h;rwa [h] at this
 .have:=k2 (t:=t) h0;rw[t] at h;rwa [h] at this
theorem cy{fn:Func}{gl:List (Nat×List G)}{gs:List G}(g:α->G)(hf:P.funcs[f]?=some fn)(h0:e=some r)(h:∀{Q},(∀a,r=a->Q=tH P fn (g a))->RD [] e r (Gp P fn Q [] false [] ⟨fn.ntmps,gl,bQ 0 gs,[],0,0,false⟩))(hb:fn.body.isSome=true:=by kernel_rfl)(hn:Nat.ble gs.length fn.ntmps=true:=by kernel_rfl):ba P gl f gs (g r):=Gh hf (h (λa h=>by cases h;rfl) h0) hb hn
theorem gc{fn:Func}{gl:List (Nat×List G)}{t:TypeId}{c:β->List G}{e:Option (List β)}{r:List β}(hf:P.funcs[f]?=some fn)(h0:e=some r)(h:∀{Q},(∀a,r=a->Q=zE P fn (.rsl 0 0 a.length) [(0,some ⟨t,a.flatMap c,none⟩)])->RD [] e r (Gp P fn Q [] false [] ⟨fn.ntmps,gl,bQ 0 gs,[],0,0,false⟩))(hb:fn.body.isSome=true:=by kernel_rfl)(hn:Nat.ble gs.length fn.ntmps=true:=by kernel_rfl):iV P gl f gs t r.length (r.flatMap c):=OW hf (h (λa h=>by cases h;rfl) h0) hb hn
theorem Yx{fn:Func}{gl:List (Nat×List G)}{σ0:aQ}(g:α->G)(s1:α->aQ)(hf:P.funcs[f]?=some fn)(h0:e=some r)(hp:∀i,i<b->∃ob,ag σ0 i=some ob)(h:∀{Q},(∀a,r=a->Q=zE P fn (g a) (s1 a))->RD [] e r (Gp P fn Q [] false [] ⟨fn.ntmps,gl,bQ 0 gs,σ0,b,b,false⟩))(hb:fn.body.isSome=true:=by kernel_rfl)(hn:Nat.ble gs.length fn.ntmps=true:=by kernel_rfl):OU P gl f gs σ0 b b (g r) (s1 r):=ZU hf (h (λa h=>by cases h;rfl) h0) hp hb hn
theorem cC{e:Option β}{F:β->Option α}(q:List Nat)(J:β->St->St)(c:∀y,RD [] (F y) r (Gp P fn Q Bs true q (J y st)))(h:∀y,(∀z,y=z->Gp P fn Q Bs true q (J z st))->RD A e y (Gp P fn Q Bs m p st)):RD A (e.bind F) r (Gp P fn Q Bs m p st):=λh0=>by obtain⟨y,e1,h1⟩:=bS h0;exact h y (λz hz=>by subst hz;exact c y h1) e1
theorem rdM{e:Option (X⊕α)}{F:X->Option α}(q:List Nat)(J:X->St->St)(c:∀y,RD [] (F y) r (Gp P fn Q Bs true q (J y st)))(h:∀j,(∀y,j= .inl y->Gp P fn Q Bs true q (J y st))->(∀w,j= .inr w->w=r)->RD A e j (Gp P fn Q Bs m p st)):RD A (e.bind λj=>ma j F some) r (Gp P fn Q Bs m p st):=λh0=>by
 obtain⟨j,e1,h1⟩:=bS h0;refine h j (λy hy=>?_) (λw hw=>?_) e1
 .subst hy;exact c y h1
 .subst hw;exact bn h1
def Wg{β:Type}(A:List HP)(k:Option (Prop×List Nat×β)->List Nat)(x:Option (Prop×List Nat×β))(j:β):Prop:=qe A (k x)=true/\x=some (vb A (k x),k x,j)
def aay(P:Program)(fn:Func)(Bs:List (St->Prop))(m:Bool)(p q:List Nat)(A O:List HP)(vs:List TypeId)(ρ:List (Nat×Nat))(kd:List (Nat×Rk))(J st:St):Prop:=Wg A Si (Xs P (bK A) (wT (bq q (ai fn))) (c7 m p (ai fn)) (bE p (ai fn) Bs []) vs ρ kd J st) (pR O,J,bq q (ai fn),bE q (ai fn) Bs [])
theorem cN(q:List Nat)(J:St->St)(O:List HP)(k:RD [] e r (Gp P fn Q Bs false q (J st)))(vs:List TypeId:=[])(ρ:List (Nat×Nat):=OY (J st))(kd:List (Nat×Rk):=[])(h:aay P fn Bs m p q A O vs ρ kd (J st) st:=by exact⟨aH,aH⟩):RD A e r (Gp P fn Q Bs m p st):=λh0=>pO q (J st) A O (k h0) vs ρ kd h.1 h.2
def Yy(P:Program)(fn:Func)(Bs:List (St->Prop))(m:Bool)(p b:List Nat)(A O:List HP)(vs:List TypeId)(ρ:List (Nat×Nat))(kd:List (Nat×Rk))(J st:St):Prop:=(Wg A Si (Xr P (bK A) (c7 m p (ai fn)) (bE p (ai fn) Bs []) vs ρ kd J st) (pR O,J,bq b (ai fn),Oj fn Bs b))/\∀B,bE b (ai fn) (Bs++[B]) []= .lp B::Oj fn Bs b
theorem gA{step:σ->Option (σ⊕β)}{s0:σ}{F:β->Option α}(q b:List Nat)(J:β->St->St)(S:σ->St->St)(O:List HP)(c:∀y,RD [] (F y) r (Gp P fn Q Bs true q (J y st)))(h:∀{B:St->Prop} {v:σ⊕β} (s:σ),(∀s',v= .inl s'->B (S s' st))->(∀y,v= .inr y->Gp P fn Q Bs true q (J y st))->RD [] (step s) v (Gp P fn Q (Bs++[B]) false b (S s st)))(vs:List TypeId:=[])(ρ:List (Nat×Nat):=OY (S s0 st))(kd:List (Nat×Rk):=[])(k:Yy P fn Bs m p b A O vs ρ kd (S s0 st) st:=by exact⟨⟨aH,aH⟩,λ_=>aH⟩):RD A ((loop step s0).bind F) r (Gp P fn Q Bs m p st):=λh0=>by obtain⟨x,e1,h1⟩:=bS h0;exact pN (λs=>S s st) b e1 A O (λB s v hv h5 h4=>h s h5 (λy hy=>h4 y hy▸c x h1) hv) vs ρ kd k.1.1 k.1.2 k.2
theorem qf{step:σ->Option (σ⊕(X⊕V))}{s0:σ}{F:X->Option α}{rs:V->α}{Z:V->Prop}(q b:List Nat)(J:X->St->St)(S:σ->St->St)(O:List HP)(K:∀q,r=rs q->Z q)(c:∀y,RD [] (F y) r (Gp P fn Q Bs true q (J y st)))(h:∀{B:St->Prop} {v:σ⊕(X⊕V)} (s:σ),(∀s',v= .inl s'->B (S s' st))->(∀y,v= .inr (.inl y)->Gp P fn Q Bs true q (J y st))->(∀q,v= .inr (.inr q)->Z q)->RD [] (step s) v (Gp P fn Q (Bs++[B]) false b (S s st)))(vs:List TypeId:=[])(ρ:List (Nat×Nat):=OY (S s0 st))(kd:List (Nat×Rk):=[])(k:Yy P fn Bs m p b A O vs ρ kd (S s0 st) st:=by exact⟨⟨aH,aH⟩,λ_=>aH⟩):RD A ((loop step s0).bind λx=>ma x F λq=>some (rs q)) r (Gp P fn Q Bs m p st):=λh0=>by
 obtain⟨x,e1,h1⟩:=bS h0;refine pN (λs=>S s st) b e1 A O (λB s v hv h5 h4=>h s h5 (λy hy=>?_) (λz hz=>?_) hv) vs ρ kd k.1.1 k.1.2 k.2
 .have:=h4 _ hy;subst this;exact c y h1
 .have:=h4 _ hz;subst this;exact K z (bn h1).symm
def aaz(P:Program)(fn:Func)(Bs Bs':List (St->Prop))(m:Bool)(p q:List Nat)(A O:List HP)(vs:List TypeId)(ρ:List (Nat×Nat))(kd:List (Nat×Rk))(J st:St):Prop:=(Wg A YA (Xm P (bK A) (c7 m p (ai fn)) (Wm fn Bs Bs' p q) vs ρ kd J st) (pR O,J))/\Wm fn Bs Bs' p q++bE q (ai fn) Bs' []=bE p (ai fn) Bs []
theorem aA{q:List Nat}{J:β->St}{t:β}(c:β->α)(a:∀y,r=c y->Gp P fn Q Bs' true q (J y))(O:List HP)(vs:List TypeId:=[])(ρ:List (Nat×Nat):=OY (J t))(kd:List (Nat×Rk):=[])(h:aaz P fn Bs Bs' m p q A O vs ρ kd (J t) st:=by exact⟨⟨aH,aH⟩,aH⟩):RD A (some (c t)) r (Gp P fn Q Bs m p st):=λh0=>yl q A O (a t (bn h0).symm) vs ρ kd h.1.1 h.1.2 h.2
def aaA(P:Program)(fn:Func)(Bs:List (St->Prop))(m:Bool)(p:List Nat)(A O:List HP)(vs:List TypeId)(ρ:List (Nat×Nat))(kd:List (Nat×Rk))(B:St->Prop)(J st:St):Prop:=Wg A YB (Xn P (bK A) (c7 m p (ai fn)) (bE p (ai fn) Bs []) vs ρ kd J st) (pR O,J,B)
theorem cj{B:St->Prop}{J:β->St}{t:β}{r:β⊕α}(k5:∀s',r= .inl s'->B (J s'))(O:List HP)(vs:List TypeId:=[])(ρ:List (Nat×Nat):=OY (J t))(kd:List (Nat×Rk):=[])(h:aaA P fn Bs m p A O vs ρ kd B (J t) st:=by exact⟨aH,aH⟩):RD A (some (.inl t)) r (Gp P fn Q Bs m p st):=λh0=>jw A O (k5 t (bn h0).symm) vs ρ kd h.1 h.2
def aaB(P:Program)(fn:Func)(Bs:List (St->Prop))(m:Bool)(p:List Nat)(A O:List HP)(g:G)(st:St):Prop:=Wg A YC (Xo P (bK A) (c7 m p (ai fn)) (bE p (ai fn) Bs []) fn g st) (pR O,g)
theorem aP{g:β->G}{a:β}(c:β->α)(K:∀a,r=c a->Q=tH P fn (g a))(O:List HP)(h:aaB P fn Bs m p A O (g a) st:=by exact⟨aH,aH⟩):RD A (some (c a)) r (Gp P fn Q Bs m p st):=λh0=>by rw[K a (bn h0).symm];exact Ar A O h.1 h.2
def aaC(P:Program)(fn:Func)(Bs:List (St->Prop))(m:Bool)(p:List Nat)(A:List HP)(t:TypeId)(l:List G)(a:Nat)(st:St):Prop:=Wg A YD (Xp P (bK A) (c7 m p (ai fn)) (bE p (ai fn) Bs []) fn t st) (∀g∈l,bB g,a,l)
theorem mr{t:TypeId}{f:β->List G}{a:List β}(c:List β->α)(K:∀a,r=c a->Q=zE P fn (.rsl 0 0 a.length) [(0,some ⟨t,a.flatMap f,none⟩)])(hi:∀g∈a.flatMap f,bB g)(b:Nat:=a.length)(hn:b=a.length:=by rfl)(h:aaC P fn Bs m p A t (a.flatMap f) b st:=by exact⟨aH,aH⟩):RD A (some (c a)) r (Gp P fn Q Bs m p st):=λh0=>by rw[K a (bn h0).symm];exact EI A hi b hn h.1 h.2
def aaD(P:Program)(fn:Func)(Bs:List (St->Prop))(m:Bool)(p:List Nat)(A O:List HP)(ρ:List (Nat×Nat))(kd:List (Nat×Rk))(g:G)(σ1:aQ)(st:St):Prop:=Wg A YF (Xq P (bK A) (c7 m p (ai fn)) (bE p (ai fn) Bs []) fn ρ kd g σ1 st) (pR O,g,σ1)
theorem rdU{g:β->G}{σ1:β->aQ}{a:β}(c:β->α)(K:∀a,r=c a->Q=zE P fn (g a) (σ1 a))(O:List HP)(ρ:List (Nat×Nat))(kd:List (Nat×Rk))(h:aaD P fn Bs m p A O ρ kd (g a) (σ1 a) st:=by exact⟨aH,aH⟩):RD A (some (c a)) r (Gp P fn Q Bs m p st):=λh0=>by rw[K a (bn h0).symm];exact ZT A O ρ kd h.1 h.2
end
end
instance:Mix prog:=⟨aH⟩
def cZ(x:Int):List G:=[iG x]
theorem tZ:fg prog 3=some false:=aH
def cW(x:Nat):List G:=[uG x]
theorem tW:fg prog 23=some false:=aH
structure DIdent where
 By:Int
 Seq:Int
 Sum:Nat
 deriving DecidableEq
def aj(x:DIdent):List G:=[iG x.By,iG x.Seq,uG x.Sum]
theorem aW:fg prog 50=some true:=aH
theorem jz:bw prog 50=some 3:=aH
structure DTerm where
 Kind:Int
 Of:DIdent
 N:Int
 M:Int
 deriving DecidableEq
def fT(x:DTerm):List G:=[iG x.Kind,iG x.Of.By,iG x.Of.Seq,uG x.Of.Sum,iG x.N,iG x.M]
theorem O9:fg prog 70=some true:=aH
theorem fL:RowTy prog 41 70 6 fT:=⟨aH,aH,a9,λ_=>rfl,λ_=>rfl⟩
def cO(x:Bool):List G:=[bG x]
theorem tO:fg prog 4=some false:=aH
structure D23K where
 Lead:Bool
 Of:DIdent
 N:Int
 Private:Nat
 deriving DecidableEq
def mw(x:D23K):List G:=[bG x.Lead,iG x.Of.By,iG x.Of.Seq,uG x.Of.Sum,iG x.N,uG x.Private]
theorem Pa:fg prog 52=some true:=aH
structure D23H where
 Device:Int
 L:List D23K
def fA(x:D23H):List G:=[iG x.Device,aE mw x.L]
theorem cP:RowTy prog 35 52 6 mw:=⟨aH,aH,a9,λ_=>rfl,λ_=>rfl⟩
def cY(x:UInt8):List G:=[gY x]
theorem tY:fg prog 5=some false:=aH
theorem rY:RowTy prog 44 5 1 cY:=⟨aH,aH,a9,λ_=>rfl,λ_=>rfl⟩
theorem lY(l:List UInt8):∀g∈l.flatMap cY,∃v,g= .lit v:=Gj (λx g hg=>by simp only[cY,List.mem_cons,List.not_mem_nil,or_false] at hg;rcases hg with rfl<;>exact⟨_,rfl⟩) l
theorem rZ:RowTy prog 22 3 1 cZ:=⟨aH,aH,a9,λ_=>rfl,λ_=>rfl⟩
theorem lZ(l:List Int):∀g∈l.flatMap cZ,∃v,g= .lit v:=Gj (λx g hg=>by simp only[cZ,List.mem_cons,List.not_mem_nil,or_false] at hg;rcases hg with rfl<;>exact⟨_,rfl⟩) l
structure DCard where
 Device:Int
 Member:Int
 Lead:Nat
 Keep:Nat
 Sign:Nat
 deriving DecidableEq
def bv(x:DCard):List G:=[iG x.Device,iG x.Member,uG x.Lead,uG x.Keep,uG x.Sign]
theorem E2:fg prog 129=some true:=aH
theorem Pb:fg prog 27=some false:=aH
structure DBox where
 To:Nat
 Eph:Nat
 Body:Nat
 Tag:Nat
 deriving DecidableEq
def cz(x:DBox):List G:=[uG x.To,uG x.Eph,uG x.Body,uG x.Tag]
theorem UL:fg prog 249=some true:=aH
theorem E3:fg prog 94=some false:=aH
structure DNode where
 Pub:Nat
 Boxes:List DBox
def bY(x:DNode):List G:=[uG x.Pub,aE cz x.Boxes]
theorem Pc:fg prog 102=some true:=aH
theorem tLY:fg prog 44=some false:=aH
def Jc(x:List Int):List G:=[aE cZ x]
theorem Vs:fg prog 22=some false:=aH
structure DSealed where
 Of:DIdent
 Body:List UInt8
def bp(x:DSealed):List G:=[iG x.Of.By,iG x.Of.Seq,uG x.Of.Sum,aE cY x.Body]
theorem GM:fg prog 196=some true:=aH
structure DSig where
 R:Nat
 S:Nat
 deriving DecidableEq
def yy(x:DSig):List G:=[uG x.R,uG x.S]
structure DOp where
 By:Int
 Seq:Int
 Kind:Int
 At:Int
 Past:List DIdent
 Device:Int
 Old:Int
 Member:Int
 Role:Int
 Path:List DNode
 Epoch:DIdent
 N:Int
 Body:List UInt8
 Refs:List Nat
 Of:DIdent
 Guards:List Int
 Need:Int
 Wait:Int
 Boxes:List DBox
 Pub:Nat
 Hist:List DSealed
 Sig:DSig
def aJ(x:DOp):List G:=[iG x.By,iG x.Seq,iG x.Kind,iG x.At,aE aj x.Past,iG x.Device,iG x.Old,iG x.Member,iG x.Role,aE bY x.Path,iG x.Epoch.By,iG x.Epoch.Seq,uG x.Epoch.Sum,iG x.N,aE cY x.Body,aE cW x.Refs,iG x.Of.By,iG x.Of.Seq,uG x.Of.Sum,aE cZ x.Guards,iG x.Need,iG x.Wait,aE cz x.Boxes,uG x.Pub,aE bp x.Hist,uG x.Sig.R,uG x.Sig.S]
theorem GN:fg prog 99=some true:=aH
def OT(x:List Bool):List G:=[aE cO x]
theorem Vt:fg prog 134=some false:=aH
structure D12G where
 Cards:List DCard
 L:List DOp
 IDs:List DIdent
 Up:List (List Int)
 In:List (List Bool)
def aI(x:D12G):List G:=[aE bv x.Cards,aE aJ x.L,aE aj x.IDs,aE Jc x.Up,aE OT x.In]
theorem bT:RowTy prog 25 129 5 bv:=⟨aH,aH,a9,λ_=>rfl,λ_=>rfl⟩
theorem eJ:RowTy prog 26 99 27 aJ:=⟨aH,aH,a9,λ_=>rfl,λ_=>rfl⟩
theorem ac:RowTy prog 27 50 3 aj:=⟨aH,aH,a9,λ_=>rfl,λ_=>rfl⟩
theorem kF(l:List DIdent):∀g∈l.flatMap aj,∃v,g= .lit v:=Gj (λx g hg=>by simp only[aj,List.mem_cons,List.not_mem_nil,or_false] at hg;rcases hg with rfl|rfl|rfl<;>exact⟨_,rfl⟩) l
theorem bZ:RowTy prog 93 102 2 bY:=⟨aH,aH,a9,λ_=>rfl,λ_=>rfl⟩
theorem dl:RowTy prog 94 249 4 cz:=⟨aH,aH,a9,λ_=>rfl,λ_=>rfl⟩
theorem rW:RowTy prog 47 23 1 cW:=⟨aH,aH,a9,λ_=>rfl,λ_=>rfl⟩
theorem lW(l:List Nat):∀g∈l.flatMap cW,∃v,g= .lit v:=Gj (λx g hg=>by simp only[cW,List.mem_cons,List.not_mem_nil,or_false] at hg;rcases hg with rfl<;>exact⟨_,rfl⟩) l
theorem bH:RowTy prog 95 196 4 bp:=⟨aH,aH,a9,λ_=>rfl,λ_=>rfl⟩
theorem nH:RowTy prog 28 22 1 Jc:=⟨aH,aH,a9,λ_=>rfl,λ_=>rfl⟩
theorem zV:RowTy prog 29 134 1 OT:=⟨aH,aH,a9,λ_=>rfl,λ_=>rfl⟩
theorem rO:RowTy prog 134 4 1 cO:=⟨aH,aH,a9,λ_=>rfl,λ_=>rfl⟩
theorem lO(l:List Bool):∀g∈l.flatMap cO,∃v,g= .lit v:=Gj (λx g hg=>by simp only[cO,List.mem_cons,List.not_mem_nil,or_false] at hg;rcases hg with rfl<;>exact⟨_,rfl⟩) l
structure D23Act where
 At:Int
 N:Int
 Private:Nat
 deriving DecidableEq
def r5(x:D23Act):List G:=[iG x.At,iG x.N,uG x.Private]
theorem dh:RowTy prog 63 66 3 r5:=⟨aH,aH,a9,λ_=>rfl,λ_=>rfl⟩
structure D15M where
 N:Int
 Role:Int
 Is:Bool
 ID:DIdent
 Guards:List Int
 Need:Int
 Wait:Int
 Objected:Bool
 Last:Int
def jG(x:D15M):List G:=[iG x.N,iG x.Role,bG x.Is,iG x.ID.By,iG x.ID.Seq,uG x.ID.Sum,aE cZ x.Guards,iG x.Need,iG x.Wait,bG x.Objected,iG x.Last]
theorem LG:fg prog 289=some true:=aH
structure D15V where
 Of:DIdent
 By:Int
 Device:Int
 At:Int
 deriving DecidableEq
def nJ(x:D15V):List G:=[iG x.Of.By,iG x.Of.Seq,uG x.Of.Sum,iG x.By,iG x.Device,iG x.At]
theorem Pd:fg prog 371=some true:=aH
structure D15R where
 Cards:List DCard
 In:List Int
 Gone:List Int
 L:List D15M
 Back:Int
 V:List D15V
def aU(x:D15R):List G:=[aE bv x.Cards,aE cZ x.In,aE cZ x.Gone,aE jG x.L,iG x.Back,aE nJ x.V]
theorem bI:RowTy prog 228 289 11 jG:=⟨aH,aH,a9,λ_=>rfl,λ_=>rfl⟩
theorem bV:RowTy prog 229 371 6 nJ:=⟨aH,aH,a9,λ_=>rfl,λ_=>rfl⟩
structure D16L where
 Row:List Int
 Void:List Bool
 Fork:List Bool
 Decided:List Bool
def fU(x:D16L):List G:=[aE cZ x.Row,aE cO x.Void,aE cO x.Fork,aE cO x.Decided]
theorem E4(l:List UInt8):l.flatMap cY=l.map gY:=by
 induction l with
 |nil=>rfl
 |cons x r ih=>rw[List.flatMap_cons,ih];rfl
theorem aaf(s:List UInt8):nu prog 9=true/\G.lit (.int .i64 ((⟨s.toArray⟩:ByteArray).size:Int))=iG (ah s):=⟨aH,rfl⟩
def hL(d:Nat)(s:List UInt8):HP:=⟨some (.v d (iG (ah s))),nu prog 9=true/\G.lit (.int .i64 ((⟨s.toArray⟩:ByteArray).size:Int))=iG (ah s),aaf s⟩
theorem Vu{s t:List UInt8}(h:Gk s=some t):iQ prog [] 9 44 (sG s)=some (aE cY t):=by
 unfold Gk at h;split at h
 .rename_i hl;cases h;have e1:dp prog 44=some 5:=aH;have e2:xR prog 5=some .u8:=aH;have e3:nu prog 9=true:=aH;unfold iQ;simp only[e1,e2,e3,Bool.true_and];rw[Nat.ble_eq_true_of_le (by simpa using hl)];simp only[ax,Kb,aE,E4]
 .cases h
def hcB(d:Nat){s t:List UInt8}(h:Gk s=some t):HP:=⟨some (.c d (aE cY t)),iQ prog [] 9 44 (sG s)=some (aE cY t),Vu h⟩
theorem xl:∀l:List UInt8,A5 (l.map gY)=some l
 |[]=>rfl
 |x::r=>by have h:=x.toNat_lt;simp only[List.map_cons,gY,A5];rw[if_pos aa,xl r];simp
theorem aag(l:List UInt8):iQ prog [] 44 9 (aE cY l)=some (sG l):=by have e1:dp prog 44=some 5:=aH;have e2:xR prog 5=some .u8:=aH;have e3:nu prog 9=true:=aH;unfold iQ;simp only[aE,e1,e2,fO,E4,List.length_map,Nat.mul_one,if_true,xl,e3,Bool.true_and,Nat.beq_refl,ax]
def XY(d:Nat)(l:List UInt8):HP:=⟨some (.c d (sG l)),iQ prog [] 44 9 (aE cY l)=some (sG l),aag l⟩
def XZ(d:Nat){l s y:List UInt8}(h:aT 1 l s=some y):HP:=ha d (y.flatMap cY) y.length (p:=(l.flatMap cY).length=l.length*1/\l.length+s.length<=140737488355328/\l.flatMap cY++s.map gY=y.flatMap cY/\l.length+s.length=y.length) (by obtain⟨h1,rfl⟩:=jx h;exact⟨rY.len l,aa,by rw[List.flatMap_append,E4 s],List.length_append.symm⟩)
def Pe(x:DIdent):List Value:=[.int .i64 x.By,.int .i64 x.Seq,.int .u64 (x.Sum:Int)]
theorem Pf(d:Nat)(i j:DIdent):bt prog (Op.equalIn (d+3) 50 (.agg (Pe i).toArray) (.agg (Pe j).toArray))=some (decide (i=j)):=by
 obtain⟨a,b,c⟩:=i;obtain⟨x,y,z⟩:=j;rw[xV (fs:= #[⟨ "By",3,0,false, "", "",0⟩,⟨ "Seq",3,1,false, "", "",8⟩,⟨ "Sum",23,2,false, "", "",16⟩]) aH aH];simp only[Array.toList];rw[uJ (k:= .i64) (k':= .i64) (a:=a) (b:=x) a9 aH aH aH];rw[uJ (k:= .i64) (k':= .i64) (a:=b) (b:=y) a9 aH aH aH];rw[uJ (k:= .u64) (k':= .u64) (a:=(c:Int)) (b:=(z:Int)) a9 aH aH aH];simp only[DIdent.mk.injEq];by_cases h1:a=x
 .by_cases h2:b=y
  .by_cases h3:c=z
   .simp[h1,h2,h3,Op.eqFields,bz]
   .have:¬((c:Int)=(z:Int)):=aa;simp[h1,h2,h3,this]
  .simp[h1,h2]
 .simp[h1]
theorem dU(i j:DIdent)(h:decide (i=j)=r):∀p q:Operand,b8 prog .eql 50 p q (.agg (aj i)) (.agg (aj j))=some (bG r):=λp q=>by subst h;exact Eo (us:=Pe i) (vs:=Pe j) aH aH aH (Pf 9997 i j)
theorem dy(i j:DIdent)(h:(!decide (i=j))=r):∀p q:Operand,b8 prog .neq 50 p q (.agg (aj i)) (.agg (aj j))=some (bG r):=λp q=>by subst h;exact Cb (us:=Pe i) (vs:=Pe j) aH aH aH (Pf 9997 i j)
abbrev ip:DOp:=⟨0,0,0,0,[],0,0,0,0,[],⟨0,0,0⟩,0,[],[],⟨0,0,0⟩,[],0,0,[],0,[],⟨0,0⟩⟩
abbrev xm:D12G:=⟨[],[],[],[],[]⟩
abbrev eY:D15R:=⟨[],[],[],[],0,[]⟩
abbrev AC:D16L:=⟨[],[],[],[]⟩
abbrev Pg:D23H:=⟨0,[]⟩
section
set_option maxHeartbeats 2000000
attribute [local irreducible] Tr dz Gp
def DJ(s1:Nat×List UInt8):Option ((Nat×List UInt8)⊕(Nat×List UInt8)):=
 bif decide (((127:Nat):Int)<(s1.1:Int)) then((aT 1 s1.2 ([wY ((((wY ((s1.1%128:Nat):Int)).toNat:Nat):Int)+(((128:UInt8).toNat:Nat):Int))]:List UInt8)).bind λa=>some (.inl (wU ((s1.1/128:Nat):Int),a))) else(some (.inr (s1.1,s1.2)))
def jl(k:Nat):Option (List UInt8):=
 (loop (DJ) (k,[])).bind λb=>(aT 1 b.2 ([wY (b.1:Int)]:List UInt8)).bind λa=>some a
theorem xn{k r}(h:jl k=some r):iV prog gl 34 [uG k] 5 r.length (r.flatMap cY):=
 gc func34 h λK=>gA 1110 111022 (λa=>so [] [(0,uG a.1),(3,.rsl 0 0 a.2.length)] [ob 0 5 (a.2.flatMap cY)] 1) (λs1=>so [] [(0,uG s1.1),(3,.rsl 0 0 s1.2.length)] [ob 0 5 (s1.2.flatMap cY)] 1) [hc (rY.imm [])] (vs:=[5]) (ρ:=[(0,0)]) (kd:=[(0,.row)]) (λa=>ak λe c=>aw [hv 17 (Iz (a.1:Int)),dg 19 rY c]<|mr c0 K (rY.imm _)) λs1 k5 f=>aF 5 (ak λb d=>aw [hb 8 (iD s1.1 128 a9),hv 9 (Iz ((s1.1%128:Nat):Int)),hb 10 (YK (wY ((s1.1%128:Nat):Int)) (128:UInt8)),dg 12 rY d,hb 14 (zm s1.1 128 a9)]<|cj k5 [hc (el b),hc (rY.imm b)] (ρ:=[(0,2)]) (kd:=[(0,.row)]))<|aA c1 f [hc (el s1.2),hc (rY.imm s1.2)] (ρ:=[(0,0)]) (kd:=[(0,.row)])
theorem kZ{k r}(h:jl k=some r):ba prog gl 34 [uG k] (aE cY r):=(xn gl h).fn rY.sz (rY.len _) (rY.imm _)
def cg(n:Int):Option (List UInt8):=
 bif decide (n<0) then((jl (wU (((wU (((wU (wI (0-(wI (n+1)))):Nat):Int)*((2:Nat):Int)):Nat):Int)+((1:Nat):Int)))).bind λa=>some a) else((jl (wU (((wU n:Nat):Int)*((2:Nat):Int)))).bind λb=>some b)
theorem eZ{n r}(h:cg n=some r):iV prog gl 32 [iG n] 5 r.length (r.flatMap cY):=
 gc func32 h λK=>aF 4 (ak λa e3=>aw [hv 8 (C8 (wI (0-(wI (n+1))))),hb 9 (na ((wU (wI (0-(wI (n+1)))):Nat):Int) ((2:Nat):Int)),hb 10 (gV ((wU (((wU (wI (0-(wI (n+1)))):Nat):Int)*((2:Nat):Int)):Nat):Int) ((1:Nat):Int)),ho 11 [uG (wU (((wU (((wU (wI (0-(wI (n+1)))):Nat):Int)*((2:Nat):Int)):Nat):Int)+((1:Nat):Int)))] [] (xn gl e3) (lY a)]<|mr c0 K (rY.imm _))<|ak λb e5=>aw [hv 13 (C8 n),hb 14 (na ((wU n:Nat):Int) ((2:Nat):Int)),ho 15 [uG (wU (((wU n:Nat):Int)*((2:Nat):Int)))] [] (xn gl e5) (lY b)]<|mr c0 K (rY.imm _)
theorem dV{n r}(h:cg n=some r):ba prog gl 32 [iG n] (aE cY r):=(eZ gl h).fn rY.sz (rY.len _) (rY.imm _)
def zW(b:Bool):Option (List UInt8):=
 bif b then((cg 1).bind λa=>some a) else((cg 0).bind λc=>some c)
theorem Jd{b r}(h:zW b=some r):iV prog gl 33 [bG b] 5 r.length (r.flatMap cY):=
 gc func33 h λK=>aF 3 (ak λa e3=>aw [ho 4 [iG 1] [] (eZ gl e3) (lY a)]<|mr c0 K (rY.imm _))<|ak λc e5=>aw [ho 5 [iG 0] [] (eZ gl e5) (lY c)]<|mr c0 K (rY.imm _)
theorem Je{b r}(h:zW b=some r):ba prog gl 33 [bG b] (aE cY r):=(Jd gl h).fn rY.sz (rY.len _) (rY.imm _)
def iJ(a:DIdent):Option (List UInt8):=
 (cg a.By).bind λb=>(cg a.Seq).bind λc=>(aT 1 b c).bind λd=>(jl a.Sum).bind λe=>(aT 1 d e).bind λf=>some f
theorem GO{id_ r}(h:iJ id_=some r):iV prog gl 35 [.agg (aj id_)] 5 r.length (r.flatMap cY):=
 gc func35 h λK=>ak λa e2=>ak λb e4=>ak λc e6=>ak λd e8=>ak λe e10=>aw [ho 6 [iG id_.By] [] (eZ gl e2) (lY a),hf 9 (dV gl e4),eu 10 rY e6,hf 14 (kZ gl e8),eu 15 rY e10]<|mr c0 K (rY.imm _)
theorem jH{id_ r}(h:iJ id_=some r):ba prog gl 35 [.agg (aj id_)] (aE cY r):=(GO gl h).fn rY.sz (rY.len _) (rY.imm _)
def oQ(a:Nat)(b:Nat):Option Nat:=
 some ((wU (((wU (((wU ((((wU ((((a%2305843009213693951)%4294967296:Nat):Int)*(((b%2305843009213693951)%4294967296:Nat):Int)))%2305843009213693951:Nat):Int)+((wU ((((wU (((wU (((wU (((a%2305843009213693951)/4294967296:Nat):Int):Nat):Int)*(((b%2305843009213693951)%4294967296:Nat):Int)):Nat):Int)+((wU ((((a%2305843009213693951)%4294967296:Nat):Int)*((wU (((b%2305843009213693951)/4294967296:Nat):Int):Nat):Int)):Nat):Int)))%536870912:Nat):Int)*((4294967296:Nat):Int)):Nat):Int)):Nat):Int)+((wU (((wU (((wU (((wU (((a%2305843009213693951)/4294967296:Nat):Int):Nat):Int)*(((b%2305843009213693951)%4294967296:Nat):Int)):Nat):Int)+((wU ((((a%2305843009213693951)%4294967296:Nat):Int)*((wU (((b%2305843009213693951)/4294967296:Nat):Int):Nat):Int)):Nat):Int)))/536870912:Nat):Int):Nat):Int)):Nat):Int)+((wU (((8:Nat):Int)*((wU (((wU (((a%2305843009213693951)/4294967296:Nat):Int):Nat):Int)*((wU (((b%2305843009213693951)/4294967296:Nat):Int):Nat):Int)):Nat):Int)):Nat):Int)))%2305843009213693951)
theorem nK{a b r}(h:oQ a b=some r):ba prog gl 112 [uG a,uG b] (uG r):=
 cy (λr:Nat=>uG r) func112 h λK=>aw [hb 11 (iD a 2305843009213693951 a9),hb 13 (iD b 2305843009213693951 a9),hb 16 (iD (a%2305843009213693951) 4294967296 a9),hb 19 (iD (b%2305843009213693951) 4294967296 a9),hb 20 (na (((a%2305843009213693951)%4294967296:Nat):Int) (((b%2305843009213693951)%4294967296:Nat):Int)),hb 23 (zm (a%2305843009213693951) 4294967296 a9),hb 26 (iD (b%2305843009213693951) 4294967296 a9),hb 27 (na ((wU (((a%2305843009213693951)/4294967296:Nat):Int):Nat):Int) (((b%2305843009213693951)%4294967296:Nat):Int)),hb 30 (iD (a%2305843009213693951) 4294967296 a9),hb 33 (zm (b%2305843009213693951) 4294967296 a9),hb 34 (na (((a%2305843009213693951)%4294967296:Nat):Int) ((wU (((b%2305843009213693951)/4294967296:Nat):Int):Nat):Int)),hb 35 (gV ((wU (((wU (((a%2305843009213693951)/4294967296:Nat):Int):Nat):Int)*(((b%2305843009213693951)%4294967296:Nat):Int)):Nat):Int) ((wU ((((a%2305843009213693951)%4294967296:Nat):Int)*((wU (((b%2305843009213693951)/4294967296:Nat):Int):Nat):Int)):Nat):Int)),hb 38 (zm (a%2305843009213693951) 4294967296 a9),hb 41 (zm (b%2305843009213693951) 4294967296 a9),hb 42 (na ((wU (((a%2305843009213693951)/4294967296:Nat):Int):Nat):Int) ((wU (((b%2305843009213693951)/4294967296:Nat):Int):Nat):Int)),hb 44 (iD (wU ((((a%2305843009213693951)%4294967296:Nat):Int)*(((b%2305843009213693951)%4294967296:Nat):Int))) 2305843009213693951 a9),hb 47 (iD (wU (((wU (((wU (((a%2305843009213693951)/4294967296:Nat):Int):Nat):Int)*(((b%2305843009213693951)%4294967296:Nat):Int)):Nat):Int)+((wU ((((a%2305843009213693951)%4294967296:Nat):Int)*((wU (((b%2305843009213693951)/4294967296:Nat):Int):Nat):Int)):Nat):Int))) 536870912 a9),hb 49 (na (((wU (((wU (((wU (((a%2305843009213693951)/4294967296:Nat):Int):Nat):Int)*(((b%2305843009213693951)%4294967296:Nat):Int)):Nat):Int)+((wU ((((a%2305843009213693951)%4294967296:Nat):Int)*((wU (((b%2305843009213693951)/4294967296:Nat):Int):Nat):Int)):Nat):Int)))%536870912:Nat):Int) ((4294967296:Nat):Int)),hb 50 (gV (((wU ((((a%2305843009213693951)%4294967296:Nat):Int)*(((b%2305843009213693951)%4294967296:Nat):Int)))%2305843009213693951:Nat):Int) ((wU ((((wU (((wU (((wU (((a%2305843009213693951)/4294967296:Nat):Int):Nat):Int)*(((b%2305843009213693951)%4294967296:Nat):Int)):Nat):Int)+((wU ((((a%2305843009213693951)%4294967296:Nat):Int)*((wU (((b%2305843009213693951)/4294967296:Nat):Int):Nat):Int)):Nat):Int)))%536870912:Nat):Int)*((4294967296:Nat):Int)):Nat):Int)),hb 53 (zm (wU (((wU (((wU (((a%2305843009213693951)/4294967296:Nat):Int):Nat):Int)*(((b%2305843009213693951)%4294967296:Nat):Int)):Nat):Int)+((wU ((((a%2305843009213693951)%4294967296:Nat):Int)*((wU (((b%2305843009213693951)/4294967296:Nat):Int):Nat):Int)):Nat):Int))) 536870912 a9),hb 54 (gV ((wU ((((wU ((((a%2305843009213693951)%4294967296:Nat):Int)*(((b%2305843009213693951)%4294967296:Nat):Int)))%2305843009213693951:Nat):Int)+((wU ((((wU (((wU (((wU (((a%2305843009213693951)/4294967296:Nat):Int):Nat):Int)*(((b%2305843009213693951)%4294967296:Nat):Int)):Nat):Int)+((wU ((((a%2305843009213693951)%4294967296:Nat):Int)*((wU (((b%2305843009213693951)/4294967296:Nat):Int):Nat):Int)):Nat):Int)))%536870912:Nat):Int)*((4294967296:Nat):Int)):Nat):Int)):Nat):Int) ((wU (((wU (((wU (((wU (((a%2305843009213693951)/4294967296:Nat):Int):Nat):Int)*(((b%2305843009213693951)%4294967296:Nat):Int)):Nat):Int)+((wU ((((a%2305843009213693951)%4294967296:Nat):Int)*((wU (((b%2305843009213693951)/4294967296:Nat):Int):Nat):Int)):Nat):Int)))/536870912:Nat):Int):Nat):Int)),hb 56 (na ((8:Nat):Int) ((wU (((wU (((a%2305843009213693951)/4294967296:Nat):Int):Nat):Int)*((wU (((b%2305843009213693951)/4294967296:Nat):Int):Nat):Int)):Nat):Int)),hb 57 (gV ((wU (((wU ((((wU ((((a%2305843009213693951)%4294967296:Nat):Int)*(((b%2305843009213693951)%4294967296:Nat):Int)))%2305843009213693951:Nat):Int)+((wU ((((wU (((wU (((wU (((a%2305843009213693951)/4294967296:Nat):Int):Nat):Int)*(((b%2305843009213693951)%4294967296:Nat):Int)):Nat):Int)+((wU ((((a%2305843009213693951)%4294967296:Nat):Int)*((wU (((b%2305843009213693951)/4294967296:Nat):Int):Nat):Int)):Nat):Int)))%536870912:Nat):Int)*((4294967296:Nat):Int)):Nat):Int)):Nat):Int)+((wU (((wU (((wU (((wU (((a%2305843009213693951)/4294967296:Nat):Int):Nat):Int)*(((b%2305843009213693951)%4294967296:Nat):Int)):Nat):Int)+((wU ((((a%2305843009213693951)%4294967296:Nat):Int)*((wU (((b%2305843009213693951)/4294967296:Nat):Int):Nat):Int)):Nat):Int)))/536870912:Nat):Int):Nat):Int)):Nat):Int) ((wU (((8:Nat):Int)*((wU (((wU (((a%2305843009213693951)/4294967296:Nat):Int):Nat):Int)*((wU (((b%2305843009213693951)/4294967296:Nat):Int):Nat):Int)):Nat):Int)):Nat):Int)),hb 58 (iD (wU (((wU (((wU ((((wU ((((a%2305843009213693951)%4294967296:Nat):Int)*(((b%2305843009213693951)%4294967296:Nat):Int)))%2305843009213693951:Nat):Int)+((wU ((((wU (((wU (((wU (((a%2305843009213693951)/4294967296:Nat):Int):Nat):Int)*(((b%2305843009213693951)%4294967296:Nat):Int)):Nat):Int)+((wU ((((a%2305843009213693951)%4294967296:Nat):Int)*((wU (((b%2305843009213693951)/4294967296:Nat):Int):Nat):Int)):Nat):Int)))%536870912:Nat):Int)*((4294967296:Nat):Int)):Nat):Int)):Nat):Int)+((wU (((wU (((wU (((wU (((a%2305843009213693951)/4294967296:Nat):Int):Nat):Int)*(((b%2305843009213693951)%4294967296:Nat):Int)):Nat):Int)+((wU ((((a%2305843009213693951)%4294967296:Nat):Int)*((wU (((b%2305843009213693951)/4294967296:Nat):Int):Nat):Int)):Nat):Int)))/536870912:Nat):Int):Nat):Int)):Nat):Int)+((wU (((8:Nat):Int)*((wU (((wU (((a%2305843009213693951)/4294967296:Nat):Int):Nat):Int)*((wU (((b%2305843009213693951)/4294967296:Nat):Int):Nat):Int)):Nat):Int)):Nat):Int))) 2305843009213693951 a9)]<|aP c0 K []
def r6(s1:Nat×Nat×Nat):Option ((Nat×Nat×Nat)⊕(Nat)):=
 bif decide (((0:Nat):Int)<(s1.2.2:Int)) then((bif decide (((s1.2.2%2:Nat):Int)=((1:Nat):Int)) then((oQ s1.1 s1.2.1).bind λa=>some a) else(some s1.1)).bind λb=>(oQ s1.2.1 s1.2.1).bind λc=>some (.inl (b,c,wU ((s1.2.2/2:Nat):Int)))) else(some (.inr s1.1))
def iK(a:Nat)(n:Nat):Option Nat:=
 (loop (r6) (1,a%2305843009213693951,n)).bind λb=>some b
theorem lc{a n r}(h:iK a n=some r):ba prog gl 58 [uG a,uG n] (uG r):=
 cy (λr:Nat=>uG r) func58 h λK=>aw [hb 9 (iD a 2305843009213693951 a9)]<|gA 111101 11110122 (λf=>sg [] [(5,uG f)]) (λs1=>sg [] [(5,uG s1.1),(6,uG s1.2.1),(7,uG s1.2.2)]) [] (λf=>aP c0 K []) λs1 k5 g=>aF 12 (aw [hb 16 (iD s1.2.2 2 a9)]<|cN 1111012210201 (sf [] [(17,bG (decide (((s1.2.2%2:Nat):Int)=((1:Nat):Int))))]) []<|cC 1111012210201 (λb=>sf [17] [(5,uG b)]) (λb=>ak λi d=>aw [hf 23 (nK gl d),hb 14 (zm s1.2.2 2 a9)]<|cj k5 []) λb c=>eH [17] (ak λj e=>aw [hf 20 (nK gl e)]<|aA c0 c [])<|aA c0 c [])<|aA c1 g []
def E5(a:Nat):Option Nat:=
 (iK 37 a).bind λb=>some b
theorem M7{a r}(h:E5 a=some r):ba prog gl 37 [uG a] (uG r):=
 cy (λr:Nat=>uG r) func37 h λK=>ak λb e2=>aw [hf 4 (lc gl e2)]<|aP c0 K []
def iq(n:Int)(most:Int):Option Int:=
 bif decide (n<0) then((u9 (wI (0-(wI (n+1)))) most).bind λa=>some a) else((u9 n most).bind λb=>some b)
theorem iL{n most r}(h:iq n most=some r):ba prog gl 17 [iG n,iG most] (iG r):=
 cy iG func17 h λK=>aF 6 (ak λa e3=>aw [hb 12 (KO e3)]<|aP c0 K [])<|ak λb e5=>aw [hb 12 (KO e5)]<|aP c0 K []
def Jf(cards:List DCard):Option D12G:=
 some ⟨cards,[],[],[],[]⟩
theorem M8{cards r}(h:Jf cards=some r):ba prog gl 38 [aE bv cards] (.agg (aI r)):=
 cy (λr=> .agg (aI r)) func38 h λK=>aP c0 K []
def xo(a:Nat):Option Nat:=
 (iK 37 a).bind λb=>some b
theorem r7{a r}(h:xo a=some r):ba prog gl 59 [uG a] (uG r):=
 cy (λr:Nat=>uG r) func59 h λK=>ak λb e2=>aw [hf 4 (lc gl e2)]<|aP c0 K []
def my(b:List UInt8)(s1:List Nat×Int)(a:Nat×Int):Option ((Nat×Int)⊕(Nat)):=
 bif decide (s1.2<=a.2) then((aS b a.2).bind λc=>some (.inl (wU (((wU ((a.1:Int)*((256:Nat):Int)):Nat):Int)+((wU (c.toNat:Int):Nat):Int)),wI (a.2-1)))) else(some (.inr a.1))
def qh(b:List UInt8)(s1:List Nat×Int):Option ((List Nat×Int)⊕(List Nat)):=
 bif decide (s1.2<ah b) then((loop (my b s1) (0,wI ((iI (ah b) (wI (s1.2+7)))-1))).bind λa=>(aT 8 s1.1 ([a]:List Nat)).bind λc=>some (.inl (c,wI (s1.2+7)))) else(some (.inr s1.1))
def lr(b:List UInt8):Option (List Nat):=
 (loop (qh b) ([],0)).bind λa=>some a
theorem yz{b r}(h:lr b=some r):iV prog gl 128 [aE cY b] 23 r.length (r.flatMap cW):=
 gc func128 h λK=>gA 11101 1110122 (λg=>sp [] [(3,.rsl 0 0 g.length)] [ob 0 23 (g.flatMap cW)] 1) (λs1=>so [] [(3,.rsl 0 0 s1.1.length),(4,iG s1.2)] [ob 0 23 (s1.1.flatMap cW)] 1) [hc (rW.imm [])] (vs:=[23]) (ρ:=[(0,0)]) (kd:=[(0,.row)]) (λg=>mr c0 K (rW.imm _)) λs1 k5 l=>aF 10 (gA 1110122102101 111012210210122 (λc=>sf [] [(5,uG c)]) (λa=>sf [] [(5,uG a.1),(6,iG a.2)]) [hc (el s1.1),hc (rW.imm s1.1)] (ρ:=[(0,0)]) (kd:=[(0,.row)]) (λc=>ak λd i=>aw [dg 35 rW i]<|cj k5 [hc (el d),hc (rW.imm d)] (ρ:=[(0,2)]) (kd:=[(0,.row)])) λa j k=>aF 21 (ak λe f=>aw [hb 25 (na (a.1:Int) ((256:Nat):Int)),hv 28 (rY.ixZ f),hv 29 (rY.p1Z tY f),hv 30 (C8 (e.toNat:Int)),hb 31 (gV ((wU ((a.1:Int)*((256:Nat):Int)):Nat):Int) ((wU (e.toNat:Int):Nat):Int))]<|cj j [hc (el s1.1),hc (rW.imm s1.1)] (ρ:=[(0,0)]) (kd:=[(0,.row)]))<|aA c1 k [hc (el s1.1),hc (rW.imm s1.1)] (ρ:=[(0,0)]) (kd:=[(0,.row)]))<|aA c1 l [hc (el s1.1),hc (rW.imm s1.1)] (ρ:=[(0,0)]) (kd:=[(0,.row)])
def qi(a:Nat)(b:Nat):Option Nat:=
 some ((wU (((a%2305843009213693951:Nat):Int)+((b%2305843009213693951:Nat):Int)))%2305843009213693951)
theorem xp{a b r}(h:qi a b=some r):ba prog gl 184 [uG a,uG b] (uG r):=
 cy (λr:Nat=>uG r) func184 h λK=>aw [hb 6 (iD a 2305843009213693951 a9),hb 8 (iD b 2305843009213693951 a9),hb 9 (gV ((a%2305843009213693951:Nat):Int) ((b%2305843009213693951:Nat):Int)),hb 10 (iD (wU (((a%2305843009213693951:Nat):Int)+((b%2305843009213693951:Nat):Int))) 2305843009213693951 a9)]<|aP c0 K []
def qj(b:List Nat)(a:Nat×Int):Option ((Nat×Int)⊕(Nat)):=
 bif decide (a.2<ah b) then((oQ 37 a.1).bind λc=>(aS b a.2).bind λd=>(qi d (wU (wI (a.2+1)))).bind λe=>(qi c e).bind λf=>(iK f 17).bind λg=>some (.inl (g,wI (a.2+1)))) else(some (.inr a.1))
def qk(l:List Nat)(a:List Nat×Int):Option ((List Nat×Int)⊕(List Nat)):=
 bif decide (a.2<ah l) then((aS l a.2).bind λb=>(aT 8 a.1 ([b%2305843009213693951]:List Nat)).bind λc=>some (.inl (c,wI (a.2+1)))) else(some (.inr a.1))
def yA(label:List UInt8)(l:List Nat):Option Nat:=
 (Gk label).bind λc=>(lr c).bind λd=>(aT 8 d ([wU (ah l)]:List Nat)).bind λe=>(loop (qk l) (e,0)).bind λf=>(aT 8 f ([0]:List Nat)).bind λa=>(loop (qj a) (wU (ah label),0)).bind λb=>some b
theorem AD{label l r}(h:yA label l=some r):ba prog gl 127 [sG label,aE cW l] (uG r):=
 cy (λr:Nat=>uG r) func127 h λK=>ak λv e2=>ak λw e4=>ak λu e6=>aw [hcB 11 e2,ho 12 [aE cY v] [] (yz gl e4) (lW w),hv 15 (C8 (ah l)),dg 17 rW e6]<|gA 11101 1110122 (λi=>so [1] [(5,.rsl 0 0 i.length)] [ob 0 23 (i.flatMap cW)] 1) (λb=>so [] [(5,.rsl 0 0 b.1.length),(6,iG b.2)] [ob 0 23 (b.1.flatMap cW)] 1) [hc (el u),hc (rW.imm u)] (ρ:=[(0,2)]) (kd:=[(0,.row)]) (λi=>ak λc j=>aw [dg 34 rW j,hL 36 label,hv 37 (C8 (ah label))]<|gA 11111101 1111110122 (λd=>sk [] [(7,uG d)] [] 0) (λa=>sk [] [(5,aE cW c),(7,uG a.1),(8,iG a.2)] [] 0) [hc (rW.al c)] (λd=>aP c0 K []) λa k m=>aF 41 (ak λx n=>ak λy e=>ak λz o=>ak λA p=>ak λB q=>aw [hf 45 (nK gl n),hv 48 (rW.ixZ e),hv 49 (rW.p1Z tW e),hv 52 (C8 (wI (a.2+1))),hf 53 (xp gl o),hf 54 (xp gl p),hf 56 (lc gl q)]<|cj k [])<|aA c1 m []) λb k11 k10=>aF 21 (ak λs f=>ak λg t=>aw [hv 27 (rW.ixZ f),hv 28 (rW.p1Z tW f),hb 29 (iD s 2305843009213693951 a9),dg 31 rW t]<|cj k11 [hc (el g),hc (rW.imm g)] (ρ:=[(0,2)]) (kd:=[(0,.row)]))<|aA c1 k10 [hc (el b.1),hc (rW.imm b.1)] (ρ:=[(0,0)]) (kd:=[(0,.row)])
def nM(label:List UInt8)(l:List Nat):Option Nat:=
 (yA label l).bind λa=>some (wU (((1:Nat):Int)+((a%2305843009213693949:Nat):Int)))
theorem vo{label l r}(h:nM label l=some r):ba prog gl 113 [sG label,aE cW l] (uG r):=
 cy (λr:Nat=>uG r) func113 h λK=>ak λa e2=>aw [hf 7 (AD gl e2),hb 8 (iD a 2305843009213693949 a9),hb 9 (gV ((1:Nat):Int) ((a%2305843009213693949:Nat):Int))]<|aP c0 K []
def lf(kind:List UInt8)(device:Int):Option Nat:=
 (nM kind ([wU device]:List Nat)).bind λa=>some a
theorem kG{kind device r}(h:lf kind device=some r):ba prog gl 60 [sG kind,iG device] (uG r):=
 cy (λr:Nat=>uG r) func60 h λK=>ak λa e2=>aw [hv 7 (C8 device),hq 9 [sG kind,aE cW ([wU device]:List Nat)] [hc (rW.al ([wU device]:List Nat))] (vo gl e2)]<|aP c0 K []
def GP(a:List Int)(s1:List DCard×Int):Option ((List DCard×Int)⊕(List DCard)):=
 bif decide (s1.2<ah a) then((aS a s1.2).bind λb=>(lf [108,101,97,100] (wI (s1.2+1))).bind λc=>(xo c).bind λd=>(lf [107,101,101,112] (wI (s1.2+1))).bind λe=>(xo e).bind λf=>(lf [115,105,103,110] (wI (s1.2+1))).bind λg=>(xo g).bind λh=>(aT 40 s1.1 [(⟨wI (s1.2+1),b,d,f,h⟩:DCard)]).bind λi=>some (.inl (i,wI (s1.2+1)))) else(some (.inr s1.1))
def ql(a:List Int):Option (List DCard):=
 (loop (GP a) ([],0)).bind λb=>some b
theorem GQ{owners r}(h:ql owners=some r):iV prog gl 39 [aE cZ owners] 129 r.length (r.flatMap bv):=
 gc func39 h λK=>gA 11101 1110122 (λc=>sp [] [(3,.rsl 0 0 c.length)] [ob 0 129 (c.flatMap bv)] 1) (λs1=>so [] [(3,.rsl 0 0 s1.1.length),(4,iG s1.2)] [ob 0 129 (s1.1.flatMap bv)] 1) [hc (bT.imm [])] (vs:=[129]) (ρ:=[(0,0)]) (kd:=[(0,.row)]) (λc=>mr c0 K (bT.imm _)) λs1 k5 k=>aF 9 (ak λl a=>ak λm d=>ak λn e16=>ak λo e=>ak λp f=>ak λq g=>ak λs i=>ak λb j=>aw [hv 18 (rZ.ixZ a),hv 19 (rZ.p1Z tZ a),hf 21 (kG gl d),hf 22 (r7 gl e16),hf 24 (kG gl e),hf 25 (r7 gl f),hf 27 (kG gl g),hf 28 (r7 gl i),dg 31 bT j]<|cj k5 [hc (el b),hc (bT.imm b)] (ρ:=[(0,2)]) (kd:=[(0,.row)]))<|aA c1 k [hc (el s1.1),hc (bT.imm s1.1)] (ρ:=[(0,0)]) (kd:=[(0,.row)])
theorem GR{owners r}(h:ql owners=some r):ba prog gl 39 [aE cZ owners] (aE bv r):=(GQ gl h).fn bT.sz (bT.len _) (bT.imm _)
def jI(label:List UInt8)(b:List UInt8):Option Nat:=
 (lr b).bind λa=>(aT 8 a ([wU (ah b)]:List Nat)).bind λc=>(yA label c).bind λd=>some d
theorem yB{label b r}(h:jI label b=some r):ba prog gl 65 [sG label,aE cY b] (uG r):=
 cy (λr:Nat=>uG r) func65 h λK=>ak λc e2=>ak λa e4=>ak λd e6=>aw [ho 7 [aE cY b] [] (yz gl e2) (lW c),hv 10 (C8 (ah b)),dg 12 rW e4,hq 13 [sG label,aE cW a] [hc (rW.al a)] (AD gl e6)]<|aP c0 K []
def Ph(b:List UInt8):Option Nat:=
 (jI [115,105,103,110,101,100] b).bind λa=>some a
theorem LH{b r}(h:Ph b=some r):ba prog gl 114 [aE cY b] (uG r):=
 cy (λr:Nat=>uG r) func114 h λK=>ak λa e2=>aw [hf 4 (yB gl e2)]<|aP c0 K []
def fV:Option Nat:=
 some 2305843009213693950
theorem eU{r}(h:fV=some r):ba prog gl 117 [] (uG r):=
 cy (λr:Nat=>uG r) func117 h λK=>aP c0 K []
def yC(a:Nat×Nat×Nat):Option ((Nat×Nat×Nat)⊕(Nat)):=
 bif decide (((0:Nat):Int)<(a.2.1:Int)) then((bif decide (((a.2.1%2:Nat):Int)=((1:Nat):Int)) then((fV).bind λb=>(CH (wU ((a.2.2:Int)+(a.1:Int))) b).bind λc=>some c) else(some a.2.2)).bind λd=>(fV).bind λe=>(CH (wU ((a.1:Int)+(a.1:Int))) e).bind λf=>some (.inl (f,wU ((a.2.1/2:Nat):Int),d))) else(some (.inr a.2.2))
def vp(a:Nat)(b:Nat):Option Nat:=
 (fV).bind λd=>(CH a d).bind λe=>(fV).bind λf=>(CH b f).bind λg=>(loop (yC) (e,g,0)).bind λc=>some c
theorem GT{a b r}(h:vp a b=some r):ba prog gl 115 [uG a,uG b] (uG r):=
 cy (λr:Nat=>uG r) func115 h λK=>ak λq e2=>ak λs e4=>ak λt e6=>ak λu e8=>aw [hf 7 (eU gl e2),hb 8 (YI e4),hf 10 (eU gl e6),hb 11 (YI e8)]<|gA 111110 11111022 (λe=>sg [] [(5,uG e)]) (λc=>sf [] [(0,uG c.1),(1,uG c.2.1),(5,uG c.2.2)]) [] (λe=>aP c0 K []) λc k13 g=>aF 13 (aw [hb 15 (iD c.2.1 2 a9)]<|cN 111110221201 (sf [] [(16,bG (decide (((c.2.1%2:Nat):Int)=((1:Nat):Int))))]) []<|cC 111110221201 (λd=>sf [16] [(5,uG d)]) (λd=>ak λm i=>ak λn j=>aw [hb 24 (gV (c.1:Int) (c.1:Int)),hf 25 (eU gl i),hb 26 (YI j),hb 28 (zm c.2.1 2 a9)]<|cj k13 []) λd f=>eH [16] (ak λo k=>ak λp l=>aw [hb 19 (gV (c.2.2:Int) (c.1:Int)),hf 20 (eU gl k),hb 21 (YI l)]<|aA c0 f [])<|aA c0 f [])<|aA c1 g []
def Pi(d:Nat)(pub:Nat)(b:List UInt8):Option Nat:=
 (Ph b).bind λa=>(yA [115,105,103] ([d,pub,a]:List Nat)).bind λc=>some c
theorem LI{r_ pub b r}(h:Pi r_ pub b=some r):ba prog gl 116 [uG r_,uG pub,aE cY b] (uG r):=
 cy (λr:Nat=>uG r) func116 h λK=>ak λa e2=>ak λc e4=>aw [hf 10 (LH gl e2),hq 12 [sG [115,105,103],aE cW ([r_,pub,a]:List Nat)] [hc (rW.al ([r_,pub,a]:List Nat))] (AD gl e4)]<|aP c0 K []
def zX(a:Nat)(b:List UInt8):Option DSig:=
 (Ph b).bind λh=>(nM [110,111,110,99,101] ([a,h]:List Nat)).bind λf=>(iK 37 f).bind λg=>(xo a).bind λi=>(Pi g i b).bind λj=>(vp j a).bind λc=>(fV).bind λd=>(CH (wU ((f:Int)+(c:Int))) d).bind λe=>some ⟨g,e⟩
theorem Jg{a b r}(h:zX a b=some r):ba prog gl 61 [uG a,aE cY b] (.agg (yy r)):=
 cy (λr=> .agg (yy r)) func61 h λK=>ak λf e2=>ak λg e4=>ak λk e6=>ak λl e8=>ak λm e10=>ak λc d=>ak λi e=>ak λj e16=>aw [hf 10 (LH gl e2),hq 12 [sG [110,111,110,99,101],aE cW ([a,f]:List Nat)] [hc (rW.al ([a,f]:List Nat))] (vo gl e4),hf 14 (lc gl e6),hf 17 (r7 gl e8),hf 19 (LI gl e10),hf 21 (GT gl d),hb 25 (gV (g:Int) (c:Int)),hf 26 (eU gl e),hb 27 (YI e16)]<|aP c0 K []
end
section
set_option maxHeartbeats 2000000
attribute [local irreducible] Tr dz Gp
def tR(l:List Int)(s1:List UInt8×Int):Option ((List UInt8×Int)⊕(List UInt8)):=
 bif decide (s1.2<ah l) then((aS l s1.2).bind λa=>(cg a).bind λb=>(aT 1 s1.1 b).bind λc=>some (.inl (c,wI (s1.2+1)))) else(some (.inr s1.1))
def oS(l:List Int):Option (List UInt8):=
 (loop (tR l) ([],0)).bind λa=>some a
theorem oT{l r}(h:oS l=some r):iV prog gl 118 [aE cZ l] 5 r.length (r.flatMap cY):=
 gc func118 h λK=>gA 11101 1110122 (λc=>sp [] [(3,.rsl 0 0 c.length)] [ob 0 5 (c.flatMap cY)] 1) (λs1=>so [] [(3,.rsl 0 0 s1.1.length),(4,iG s1.2)] [ob 0 5 (s1.1.flatMap cY)] 1) [hc (rY.imm [])] (vs:=[5]) (ρ:=[(0,0)]) (kd:=[(0,.row)]) (λc=>mr c0 K (rY.imm _)) λs1 k5 e=>aF 8 (ak λf a=>ak λg d=>ak λb e16=>aw [hv 14 (rZ.ixZ a),hv 15 (rZ.p1Z tZ a),hf 16 (dV gl d),eu 17 rY e16]<|cj k5 [hc (el b),hc (rY.imm b)] (ρ:=[(0,1)]) (kd:=[(0,.row)]))<|aA c1 e [hc (el s1.1),hc (rY.imm s1.1)] (ρ:=[(0,0)]) (kd:=[(0,.row)])
theorem Jn{l r}(h:oS l=some r):ba prog gl 118 [aE cZ l] (aE cY r):=(oT gl h).fn rY.sz (rY.len _) (rY.imm _)
def tS(l:List Nat)(s1:List UInt8×Int):Option ((List UInt8×Int)⊕(List UInt8)):=
 bif decide (s1.2<ah l) then((aS l s1.2).bind λa=>(jl a).bind λb=>(aT 1 s1.1 b).bind λc=>some (.inl (c,wI (s1.2+1)))) else(some (.inr s1.1))
def vt(l:List Nat):Option (List UInt8):=
 (loop (tS l) ([],0)).bind λa=>some a
theorem AG{l r}(h:vt l=some r):iV prog gl 121 [aE cW l] 5 r.length (r.flatMap cY):=
 gc func121 h λK=>gA 11101 1110122 (λc=>sp [] [(3,.rsl 0 0 c.length)] [ob 0 5 (c.flatMap cY)] 1) (λs1=>so [] [(3,.rsl 0 0 s1.1.length),(4,iG s1.2)] [ob 0 5 (s1.1.flatMap cY)] 1) [hc (rY.imm [])] (vs:=[5]) (ρ:=[(0,0)]) (kd:=[(0,.row)]) (λc=>mr c0 K (rY.imm _)) λs1 k5 e=>aF 8 (ak λf a=>ak λg d=>ak λb e16=>aw [hv 14 (rW.ixZ a),hv 15 (rW.p1Z tW a),hf 16 (kZ gl d),eu 17 rY e16]<|cj k5 [hc (el b),hc (rY.imm b)] (ρ:=[(0,1)]) (kd:=[(0,.row)]))<|aA c1 e [hc (el s1.1),hc (rY.imm s1.1)] (ρ:=[(0,0)]) (kd:=[(0,.row)])
theorem Jo{l r}(h:vt l=some r):ba prog gl 121 [aE cW l] (aE cY r):=(AG gl h).fn rY.sz (rY.len _) (rY.imm _)
def qq(l:List DBox)(s3:List UInt8×Int):Option ((List UInt8×Int)⊕(List UInt8)):=
 bif decide (s3.2<ah l) then((aS l s3.2).bind λa=>(aS l s3.2).bind λb=>(aS l s3.2).bind λc=>(aS l s3.2).bind λd=>(vt ([a.To,b.Eph,c.Body,d.Tag]:List Nat)).bind λe=>(aT 1 s3.1 e).bind λf=>some (.inl (f,wI (s3.2+1)))) else(some (.inr s3.1))
def nQ(l:List DBox):Option (List UInt8):=
 (cg (ah l)).bind λa=>(loop (qq l) (a,0)).bind λb=>some b
theorem GW{l r}(h:nQ l=some r):iV prog gl 119 [aE cz l] 5 r.length (r.flatMap cY):=
 gc func119 h λK=>ak λj e2=>aw [ho 7 [iG (ah l)] [] (eZ gl e2) (lY j)]<|gA 11101 1110122 (λk=>sp [] [(3,.rsl 0 0 k.length)] [ob 0 5 (k.flatMap cY)] 1) (λs3=>so [] [(3,.rsl 0 0 s3.1.length),(4,iG s3.2)] [ob 0 5 (s3.1.flatMap cY)] 1) [hc (el j),hc (rY.imm j)] (ρ:=[(0,0)]) (kd:=[(0,.row)]) (λk=>mr c0 K (rY.imm _)) λs3 k7 k6=>aF 11 (ak λa b=>ak λc e16=>ak λd e=>ak λf g=>ak λm n=>ak λi o=>aw [hv 17 (dl.ixZ b),hv 19 (dl.fdZ tW 0 b),hv 22 (dl.ixZ e16),hv 24 (dl.fdZ tW 1 e16),hv 27 (dl.ixZ e),hv 29 (dl.fdZ tW 2 e),hv 32 (dl.ixZ g),hv 34 (dl.fdZ tW 3 g),ho 36 [aE cW ([a.To,c.Eph,d.Body,f.Tag]:List Nat)] [hc (rW.al ([a.To,c.Eph,d.Body,f.Tag]:List Nat))] (AG gl n) (lY m),dg 37 rY o]<|cj k7 [hc (el i),hc (rY.imm i)] (ρ:=[(0,2)]) (kd:=[(0,.row)]))<|aA c1 k6 [hc (el s3.1),hc (rY.imm s3.1)] (ρ:=[(0,0)]) (kd:=[(0,.row)])
theorem yD{l r}(h:nQ l=some r):ba prog gl 119 [aE cz l] (aE cY r):=(GW gl h).fn rY.sz (rY.len _) (rY.imm _)
def vu(s:List UInt8):Option (List UInt8):=
 (cg (ah s)).bind λa=>(aT 1 a s).bind λb=>some b
theorem Jp{s r}(h:vu s=some r):iV prog gl 120 [sG s] 5 r.length (r.flatMap cY):=
 gc func120 h λK=>ak λa e2=>ak λb e4=>aw [hL 4 s,ho 5 [iG (ah s)] [] (eZ gl e2) (lY a),XZ 7 e4]<|mr c0 K (rY.imm _)
theorem AH{s r}(h:vu s=some r):ba prog gl 120 [sG s] (aE cY r):=(Jp gl h).fn rY.sz (rY.len _) (rY.imm _)
def qr(o:DOp)(a:List UInt8×Int):Option ((List UInt8×Int)⊕(List UInt8)):=
 bif decide (a.2<ah o.Hist) then((aS o.Hist a.2).bind λb=>(iJ b.Of).bind λc=>(aT 1 a.1 c).bind λd=>(aS o.Hist a.2).bind λe=>(vu e.Body).bind λf=>(aT 1 d f).bind λg=>some (.inl (g,wI (a.2+1)))) else(some (.inr a.1))
def qs(o:DOp)(a:List UInt8×Int):Option ((List UInt8×Int)⊕(List UInt8)):=
 bif decide (a.2<ah o.Path) then((aS o.Path a.2).bind λf=>(jl f.Pub).bind λg=>(aT 1 a.1 g).bind λb=>(aS o.Path a.2).bind λc=>(nQ c.Boxes).bind λd=>(aT 1 b d).bind λe=>some (.inl (e,wI (a.2+1)))) else(some (.inr a.1))
def qt(o:DOp)(s3:List UInt8×Int):Option ((List UInt8×Int)⊕(List UInt8)):=
 bif decide (s3.2<ah o.Past) then((aS o.Past s3.2).bind λa=>(iJ a).bind λb=>(aT 1 s3.1 b).bind λc=>some (.inl (c,wI (s3.2+1)))) else(some (.inr s3.1))
def lz(o:DOp):Option (List UInt8):=
 (oS ([o.By,o.Seq,o.Kind,o.At,ah o.Past]:List Int)).bind λD=>(loop (qt o) (D,0)).bind λE=>(oS ([o.Device,o.Old,o.Member,o.Role,ah o.Path]:List Int)).bind λa=>(aT 1 E a).bind λb=>(loop (qs o) (b,0)).bind λc=>(iJ o.Epoch).bind λd=>(aT 1 c d).bind λe=>(cg o.N).bind λf=>(aT 1 e f).bind λg=>(vu o.Body).bind λh=>(aT 1 g h).bind λi=>(cg (ah o.Refs)).bind λj=>(aT 1 i j).bind λk=>(vt o.Refs).bind λl=>(aT 1 k l).bind λm=>(iJ o.Of).bind λn=>(aT 1 m n).bind λp=>(cg (ah o.Guards)).bind λq=>(aT 1 p q).bind λr=>(oS o.Guards).bind λs=>(aT 1 r s).bind λt=>(oS ([o.Need,o.Wait]:List Int)).bind λu=>(aT 1 t u).bind λv=>(nQ o.Boxes).bind λw=>(aT 1 v w).bind λx=>(jl o.Pub).bind λy=>(aT 1 x y).bind λz=>(cg (ah o.Hist)).bind λA=>(aT 1 z A).bind λB=>(loop (qr o) (B,0)).bind λC=>some C
theorem GX{o r}(h:lz o=some r):iV prog gl 62 [.agg (aJ o)] 5 r.length (r.flatMap cY):=
 gc func62 h λK=>ak λw e2=>aw [ho 19 [aE cZ ([o.By,o.Seq,o.Kind,o.At,ah o.Past]:List Int)] [hc (rZ.al ([o.By,o.Seq,o.Kind,o.At,ah o.Past]:List Int))] (oT gl e2) (lY w)]<|gA 11101 1110122 (λx=>sp [] [(1,.ref 0 0),(3,.rsl 1 0 x.length)] [ob 0 99 (aJ o),ob 1 5 (x.flatMap cY)] 2) (λs3=>sp [] [(1,.ref 0 0),(3,.rsl 1 0 s3.1.length),(4,iG s3.2)] [ob 0 99 (aJ o),ob 1 5 (s3.1.flatMap cY)] 2) [hc (el w),hc (rY.imm w)] (ρ:=[(0,0),(1,2)]) (kd:=[(1,.row)]) (λx=>ak λy z=>ak λj A=>aw [ho 48 [aE cZ ([o.Device,o.Old,o.Member,o.Role,ah o.Path]:List Int)] [hc (rZ.al ([o.Device,o.Old,o.Member,o.Role,ah o.Path]:List Int))] (oT gl z) (lY y),dg 49 rY A]<|gA 1111101 111110122 (λg=>so [] [(3,.rsl 1 0 g.length)] [ob 1 5 (g.flatMap cY)] 2) (λa=>so [] [(3,.rsl 1 0 a.1.length),(5,iG a.2)] [ob 1 5 (a.1.flatMap cY)] 2) [hc (el j),hc (rY.imm j)] (ρ:=[(0,0),(1,4)]) (kd:=[(1,.row)]) (λg=>ak λv25 B=>ak λv27 C=>ak λv29 D=>ak λv31 e32=>ak λv33 E=>ak λv35 F=>ak λv37 H=>ak λv39 I=>ak λv41 J=>ak λv43 L=>ak λv45 M=>ak λv47 N=>ak λv49 O=>ak λv51 P=>ak λv53 Q=>ak λv55 R=>ak λS U=>ak λv59 V=>ak λv61 W=>ak λv63 X=>ak λv65 Y=>ak λv67 Z=>ak λv69 e70=>ak λk e72=>aw [hf 78 (jH gl B),eu 79 rY C,hf 83 (dV gl D),eu 84 rY e32,XY 88 o.Body,hf 89 (AH gl E),eu 90 rY F,hf 95 (dV gl H),eu 96 rY I,hf 100 (Jo gl J),eu 101 rY L,hf 105 (jH gl M),eu 106 rY N,hf 111 (dV gl O),eu 112 rY P,hf 116 (Jn gl Q),eu 117 rY R,ho 124 [aE cZ ([o.Need,o.Wait]:List Int)] [hc (rZ.al ([o.Need,o.Wait]:List Int))] (oT gl U) (lY S),dg 125 rY V,hf 129 (yD gl W),eu 130 rY X,hf 134 (kZ gl Y),eu 135 rY Z,hf 140 (dV gl e70),eu 141 rY e72]<|gA 11111111111111111101 1111111111111111110122 (λi=>sk [] [(3,.rsl 0 0 i.length)] [ob 0 5 (i.flatMap cY)] 1) (λb=>so [] [(3,.rsl 1 0 b.1.length),(6,iG b.2)] [ob 1 5 (b.1.flatMap cY)] 2) [hc (el k),hc (rY.imm k)] (ρ:=[(0,0),(1,15)]) (kd:=[(1,.row)]) (λi=>mr c0 K (rY.imm _)) λb k77 k76=>aF 146 (ak λy83 l=>ak λv85 e86=>ak λv87 e88=>ak λy89 m=>ak λv91 e92=>ak λn e94=>aw [hv 153 (bH.ixZ l),hv 155 (bH.fsZ aW jz 0 a9 l),hf 156 (jH gl e86),eu 157 rY e88,hv 162 (bH.ixZ m),hv 164 (bH.fdZ tLY 3 m),XY 165 y89.Body,hf 166 (AH gl e92),eu 167 rY e94]<|cj k77 [hc (el n),hc (rY.imm n)] (ρ:=[(0,0),(1,3)]) (kd:=[(1,.row)]))<|aA c1 k76 [hc (el b.1),hc (rY.imm b.1)] (ρ:=[(0,1)]) (kd:=[(0,.row)])) λa k20 k19=>aF 54 (ak λy96 p=>ak λv98 e99=>ak λv100 q=>ak λy102 c=>ak λv104 s=>ak λd t=>aw [hv 61 (bZ.ixZ p),hv 63 (bZ.fdZ tW 0 p),hf 64 (kZ gl e99),eu 65 rY q,hv 70 (bZ.ixZ c),hv 72 (bZ.fdZ E3 1 c),hf 73 (yD gl s),eu 74 rY t]<|cj k20 [hc (el d),hc (rY.imm d)] (ρ:=[(0,0),(1,3)]) (kd:=[(1,.row)]))<|aA c1 k19 [hc (el a.1),hc (rY.imm a.1)] (ρ:=[(0,0),(1,1)]) (kd:=[(1,.row)])) λs3 k7 k6=>aF 24 (ak λy109 e=>ak λv111 u=>ak λf v=>aw [hv 31 (ac.ixZ e),hv 32 (ac.ptZ aW e),hf 33 (jH gl u),eu 34 rY v]<|cj k7 [hc (el f),hc (rY.imm f)] (ρ:=[(0,0),(1,2)]) (kd:=[(1,.row)]))<|aA c1 k6 [hc (el s3.1),hc (rY.imm s3.1)] (ρ:=[(0,0),(1,1)]) (kd:=[(1,.row)])
theorem qu{o r}(h:lz o=some r):ba prog gl 62 [.agg (aJ o)] (aE cY r):=(GX gl h).fn rY.sz (rY.len _) (rY.imm _)
def nR(o:DOp):Option DOp:=
 (lf [115,105,103,110] o.By).bind λa=>(lz o).bind λb=>(zX a b).bind λc=>some ({o with Sig:=c})
theorem E8{o r}(h:nR o=some r):ba prog gl 40 [.agg (aJ o)] (.agg (aJ r)):=
 cy (λr=> .agg (aJ r)) func40 h λK=>ak λa e2=>ak λb e4=>ak λc e6=>aw [hf 5 (kG gl e2),hf 7 (qu gl e4),hf 8 (Jg gl e6)]<|aP c0 K []
def pV(o:DOp):Option DIdent:=
 (lz o).bind λa=>(jI [111,112] a).bind λb=>some ⟨o.By,o.Seq,b⟩
theorem AI{o r}(h:pV o=some r):ba prog gl 42 [.agg (aJ o)] (.agg (aj r)):=
 cy (λr=> .agg (aj r)) func42 h λK=>ak λa e2=>ak λb e4=>aw [hf 8 (qu gl e2),hf 9 (yB gl e4)]<|aP c0 K []
def xq(l:List Int)(n:Int)(s1:Int):Option ((Int)⊕(Unit⊕Bool)):=
 bif decide (s1<ah l) then((aS l s1).bind λa=>bif decide (a=n) then(some (.inr (.inr true))) else(some (.inl (wI (s1+1))))) else(some (.inr (.inl ())))
def fb(l:List Int)(n:Int):Option Bool:=
 (loop (xq l n) 0).bind λa=>ma a (λb=>some false) (λq=>some q)
theorem ci{l n r}(h:fb l n=some r):ba prog gl 90 [aE cZ l,iG n] (bG r):=
 cy bG func90 h λK=>qf 1101 110122 (λb=>sg [] []) (λs1=>sf [] [(5,iG s1)]) [] K (λb=>aP c0 K []) λs1 k5 c k6=>aF 9 (ak λd a=>aw [hv 14 (rZ.ixZ a),hv 15 (rZ.p1Z tZ a)]<|aF 17 (aP c3 k6 [])<|cj k5 [])<|aA c2 c []
def tT(g:D12G)(s3:List Bool×Int)(a:List Bool×Int):Option ((List Bool×Int)⊕(List Bool)):=
 (aS g.Up s3.2).bind λb=>bif decide (a.2<ah b) then((aS g.Up s3.2).bind λc=>(aS c a.2).bind λd=>(ji a.1 d true).bind λe=>some (.inl (e,wI (a.2+1)))) else(some (.inr a.1))
def AJ(g:D12G)(up:List Int)(s3:List Bool×Int):Option ((List Bool×Int)⊕(List Bool)):=
 bif decide (0<=s3.2) then((fb up s3.2).bind λb=>(bif b then((ji s3.1 s3.2 true).bind λc=>some c) else(some s3.1)).bind λa=>(aS a s3.2).bind λd=>bif d then((loop (tT g s3) (a,0)).bind λe=>some (.inl (e,wI (s3.2-1)))) else(some (.inl (a,wI (s3.2-1))))) else(some (.inr s3.1))
def jA(g:D12G)(up:List Int):Option (List Bool):=
 (rP 1 (false:Bool) (ah g.L)).bind λa=>(loop (AJ g up) (a,wI ((ah g.L)-1))).bind λb=>some b
theorem AK{g up r}(h:jA g up=some r):iV prog gl 64 [.agg (aI g),aE cZ up] 4 r.length (r.flatMap cO):=
 gc func64 h λK=>ak λv e2=>aw [ZW 11 rO e2]<|gA 11101 1110122 (λp=>sp [] [(5,.rsl 0 0 p.length)] [ob 0 4 (p.flatMap cO)] 1) (λs3=>so [0] [(2,.ref 0 0),(5,.rsl 1 0 s3.1.length),(6,iG s3.2)] [ob 0 31 (aI g),ob 1 4 (s3.1.flatMap cO)] 2) [hc (el v),hc (rO.imm v)] (ρ:=[(0,0),(1,1)]) (kd:=[(1,.row)]) (λp=>mr c0 K (rO.imm _)) λs3 k7 k6=>aF 17 (ak λq s=>aw [hf 22 (ci gl s)]<|cN 111012210201 (sf [] [(22,bG q)]) [hc (el s3.1),hc (rO.imm s3.1)] (ρ:=[(0,0),(1,1)]) (kd:=[(1,.row)])<|cC 111012210201 (λa=>so [22] [(5,.rsl 1 0 a.length)] [ob 1 4 (a.flatMap cO)] 2) (λa=>ak λw d=>aw [hv 28 (rO.ixrZ 1 d)]<|kV (λe=>aw [hv 29 (cB (rO.p10Z tO d) e)]<|gA 11101221021131 1110122102113122 (λc=>so [] [(5,.rsl 1 0 c.length)] [ob 1 4 (c.flatMap cO)] 2) (λb=>so [] [(5,.rsl 1 0 b.1.length),(7,iG b.2)] [ob 1 4 (b.1.flatMap cO)] 2) [hc (el a),hc (rO.imm a)] (ρ:=[(0,0),(1,1)]) (kd:=[(1,.row)]) (λc=>cj k7 [hc (el c),hc (rO.imm c)] (ρ:=[(0,0),(1,1)]) (kd:=[(1,.row)])) λb t u=>ak λx j=>aw [hv 34 (nH.ixZ j),hv 35 (nH.p1Z Vs j)]<|aF 37 (ak λy k=>ak λz l=>ak λm f=>aw [hv 44 (nH.ixZ k),hv 45 (nH.p1Z Vs k),hv 47 (rZ.ixZ l),hv 48 (rZ.p1Z tZ l),hv 49 (rO.ixsZ 1 f),hw 49 (m.flatMap cO) (rO.putZ f)]<|cj t [hc (hZ f),hc (rO.imm m)] (ρ:=[(0,0),(1,1)]) (kd:=[(1,.row)]))<|aA c1 u [hc (el b.1),hc (rO.imm b.1)] (ρ:=[(0,0),(1,1)]) (kd:=[(1,.row)])) λe=>aw [hv 29 (cB (rO.p10Z tO d) e)]<|cj k7 [hc (el a),hc (rO.imm a)] (ρ:=[(0,0),(1,1)]) (kd:=[(1,.row)])) λa n=>eH [22] (ak λo i=>aw [hv 25 (rO.ixsZ 1 i),hw 25 (o.flatMap cO) (rO.putZ i)]<|aA c0 n [hc (hZ i),hc (rO.imm o)] (ρ:=[(0,0),(1,1)]) (kd:=[(1,.row)]))<|aA c0 n [hc (el s3.1),hc (rO.imm s3.1)] (ρ:=[(0,0),(1,1)]) (kd:=[(1,.row)]))<|aA c1 k6 [hc (el s3.1),hc (rO.imm s3.1)] (ρ:=[(0,1)]) (kd:=[(0,.row)])
theorem Jq{g up r}(h:jA g up=some r):ba prog gl 64 [.agg (aI g),aE cZ up] (aE cO r):=(AK gl h).fn rO.sz (rO.len _) (rO.imm _)
def oU(a:DIdent)(b:DIdent):Option Bool:=
 bif decide (a.By≠b.By) then(some (decide (a.By<b.By))) else(bif decide (a.Seq≠b.Seq) then(some (decide (a.Seq<b.Seq))) else(some (decide ((a.Sum:Int)<(b.Sum:Int)))))
theorem oV{a b r}(h:oU a b=some r):ba prog gl 104 [.agg (aj a),.agg (aj b)] (bG r):=
 cy bG func104 h λK=>aF 9 (aP c0 K [])<|aF 19 (aP c0 K [])<|aP c0 K []
def eM(kind:Int):Option Bool:=
 (bif decide (kind=1) then(some true) else(bif decide (kind=2) then(some true) else(bif decide (kind=3) then(some true) else(bif decide (kind=4) then(some true) else(some (decide (kind=13))))))).bind λa=>some a
theorem oX{kind r}(h:eM kind=some r):ba prog gl 48 [iG kind] (bG r):=
 cy bG func48 h λK=>cN [1,0] (sf [] []) []<|cC [1,0] (λa=>sg [] [(2,bG a)]) (λa=>aP c0 K []) λa k3=>aF 4 (aA c0 k3 [])<|aF 8 (aA c0 k3 [])<|aF 12 (aA c0 k3 [])<|aF 16 (aA c0 k3 [])<|aA c0 k3 []
def mz(o:DOp):Option Bool:=
 (bif decide (o.Kind=7) then(some true) else(bif decide (o.Kind=8) then(some true) else(bif decide (o.Kind=12) then(some true) else(bif decide (o.Kind=10) then(some true) else(bif decide (o.Kind=11) then(some true) else(some (decide (o.Kind=13)))))))).bind λa=>(bif decide (o.Device≠0) then(bif decide (o.Kind≠2) then(bif decide (o.Kind≠3) then(bif decide (o.Kind≠11) then(some (decide (o.Kind≠13))) else(some false)) else(some false)) else(some false)) else(some false)).bind λh=>bif h then(some false) else((bif decide (o.Old≠0) then(bif decide (o.Kind≠13) then(some true) else(bif decide (o.Member≠0) then(bif decide (o.Kind≠3) then(bif decide (o.Kind≠5) then(some true) else(bif decide (o.Role≠0) then(bif decide (o.Kind≠2) then(some (decide (o.Kind≠5))) else(some false)) else(some false))) else(bif decide (o.Role≠0) then(bif decide (o.Kind≠2) then(some (decide (o.Kind≠5))) else(some false)) else(some false))) else(bif decide (o.Role≠0) then(bif decide (o.Kind≠2) then(some (decide (o.Kind≠5))) else(some false)) else(some false)))) else(bif decide (o.Member≠0) then(bif decide (o.Kind≠3) then(bif decide (o.Kind≠5) then(some true) else(bif decide (o.Role≠0) then(bif decide (o.Kind≠2) then(some (decide (o.Kind≠5))) else(some false)) else(some false))) else(bif decide (o.Role≠0) then(bif decide (o.Kind≠2) then(some (decide (o.Kind≠5))) else(some false)) else(some false))) else(bif decide (o.Role≠0) then(bif decide (o.Kind≠2) then(some (decide (o.Kind≠5))) else(some false)) else(some false)))).bind λi=>bif i then(some false) else((bif decide (0<ah o.Path) then((eM o.Kind).bind λb=>some (!b)) else(some false)).bind λj=>bif j then(some false) else((bif decide (o.Kind≠6) then(bif(!decide (o.Epoch=(⟨0,0,0⟩:DIdent))) then(some true) else(bif decide (o.N≠0) then(some true) else(some (decide (0<ah o.Refs))))) else(some false):Option Bool).bind λc=>bif c then(some false) else((bif decide (0<ah o.Body) then(bif decide (o.Kind≠6) then(bif decide (o.Kind≠7) then(some true) else(bif(!decide (o.Of=(⟨0,0,0⟩:DIdent))) then(some (!a)) else(some false))) else(bif(!decide (o.Of=(⟨0,0,0⟩:DIdent))) then(some (!a)) else(some false))) else(bif(!decide (o.Of=(⟨0,0,0⟩:DIdent))) then(some (!a)) else(some false)):Option Bool).bind λd=>bif d then(some false) else((bif decide (o.Kind≠9) then(bif decide (0<ah o.Guards) then(some true) else(bif decide (o.Wait≠0) then(some true) else(some (decide ((o.Pub:Int)≠((0:Nat):Int)))))) else(some false)).bind λe=>bif e then(some false) else((bif decide (o.Need≠0) then(bif decide (o.Kind≠9) then(bif decide (o.Kind≠1) then(some true) else(bif decide (0<ah o.Boxes) then(bif decide (o.Kind≠9) then(bif decide (o.Kind≠10) then(some (decide (o.Kind≠11))) else(some false)) else(some false)) else(some false))) else(bif decide (0<ah o.Boxes) then(bif decide (o.Kind≠9) then(bif decide (o.Kind≠10) then(some (decide (o.Kind≠11))) else(some false)) else(some false)) else(some false))) else(bif decide (0<ah o.Boxes) then(bif decide (o.Kind≠9) then(bif decide (o.Kind≠10) then(some (decide (o.Kind≠11))) else(some false)) else(some false)) else(some false))).bind λf=>bif f then(some false) else((bif decide (ah o.Hist=0) then(some true) else(bif decide (o.Kind=2) then(some true) else(some (decide (o.Kind=13))))).bind λg=>some g)))))))
theorem Jr{o r}(h:mz o=some r):ba prog gl 180 [.agg (aJ o)] (bG r):=
 cy bG func180 h λK=>cN 1110 (sp [] [(1,.ref 0 0),(3,iG o.Kind)] [ob 0 99 (aJ o)] 1) []<|cC 1110 (λv=>sf [] [(4,bG v)]) (λv=>cN 111100 (sf [] []) []<|cC 111100 (λw=>sf [] [(47,bG w)]) (λw=>eH [47] (aP c0 K [])<|cN 1111100 (sf [47] []) []<|cC 1111100 (λx=>sf [] [(80,bG x)]) (λx=>eH [80] (aP c0 K [])<|cN 11111100 (sf [80] []) []<|cC 11111100 (λy=>sf [] [(89,bG y)]) (λy=>eH [89] (aP c0 K [])<|cN 111111100 (sf [89] []) []<|cC 111111100 (λi=>sf [] [(108,bG i)]) (λi=>eH [108] (aP c0 K [])<|cN 1111111100 (sf [108] []) []<|cC 1111111100 (λj=>sf [4] [(130,bG j)]) (λj=>eH [130] (aP c0 K [])<|cN 11111111100 (sf [130] []) []<|cC 11111111100 (λk=>sf [] [(148,bG k)]) (λk=>eH [148] (aP c0 K [])<|cN 111111111100 (sf [148] []) []<|cC 111111111100 (λl=>sf [] [(177,bG l)]) (λl=>eH [177] (aP c0 K [])<|cN 111111111110 (sf [177] []) []<|cC 111111111110 (λm=>sk [] [(2,bG m)] [] 0) (λm=>aP c0 K []) λm n=>aF 181 (aA c0 n [])<|aF 185 (aA c0 n [])<|aA c0 n []) λl b=>aF 151 (aF 155 (aF 159 (aA c0 b [])<|aF 164 (aF 168 (aF 172 (aA c0 b [])<|aA c0 b [])<|aA c0 b [])<|aA c0 b [])<|aF 164 (aF 168 (aF 172 (aA c0 b [])<|aA c0 b [])<|aA c0 b [])<|aA c0 b [])<|aF 164 (aF 168 (aF 172 (aA c0 b [])<|aA c0 b [])<|aA c0 b [])<|aA c0 b []) λk f=>aF 132 (aF 137 (aA c0 f [])<|aF 142 (aA c0 f [])<|aA c0 f [])<|aA c0 f []) λj c=>aF 112 (aF 116 (aF 120 (aA c0 c [])<|kV (λp=>aw [hV 125 (cV (dy o.Of (⟨0,0,0⟩:DIdent) rfl) p)]<|aA c0 c []) λp=>aw [hV 125 (cV (dy o.Of (⟨0,0,0⟩:DIdent) rfl) p)]<|aA c0 c [])<|kV (λq=>aw [hV 125 (cV (dy o.Of (⟨0,0,0⟩:DIdent) rfl) q)]<|aA c0 c []) λq=>aw [hV 125 (cV (dy o.Of (⟨0,0,0⟩:DIdent) rfl) q)]<|aA c0 c [])<|kV (λs=>aw [hV 125 (cV (dy o.Of (⟨0,0,0⟩:DIdent) rfl) s)]<|aA c0 c []) λs=>aw [hV 125 (cV (dy o.Of (⟨0,0,0⟩:DIdent) rfl) s)]<|aA c0 c []) λi g=>aF 91 (kV (λt=>aw [hV 96 (cV (dy o.Epoch (⟨0,0,0⟩:DIdent) rfl) t)]<|aA c0 g []) λt=>aw [hV 96 (cV (dy o.Epoch (⟨0,0,0⟩:DIdent) rfl) t)]<|aF 101 (aA c0 g [])<|aA c0 g [])<|aA c0 g []) λy u=>aF 84 (ak λA z=>aw [hf 87 (oX gl z)]<|aA c0 u [])<|aA c0 u []) λx a=>aF 50 (aF 54 (aA c0 a [])<|aF 58 (aF 62 (aF 67 (aA c0 a [])<|aF 71 (aF 75 (aA c0 a [])<|aA c0 a [])<|aA c0 a [])<|aF 71 (aF 75 (aA c0 a [])<|aA c0 a [])<|aA c0 a [])<|aF 71 (aF 75 (aA c0 a [])<|aA c0 a [])<|aA c0 a [])<|aF 58 (aF 62 (aF 67 (aA c0 a [])<|aF 71 (aF 75 (aA c0 a [])<|aA c0 a [])<|aA c0 a [])<|aF 71 (aF 75 (aA c0 a [])<|aA c0 a [])<|aA c0 a [])<|aF 71 (aF 75 (aA c0 a [])<|aA c0 a [])<|aA c0 a []) λw e=>aF 31 (aF 35 (aF 39 (aF 43 (aA c0 e [])<|aA c0 e [])<|aA c0 e [])<|aA c0 e [])<|aA c0 e []) λv d=>aF 8 (aA c0 d [])<|aF 12 (aA c0 d [])<|aF 16 (aA c0 d [])<|aF 20 (aA c0 d [])<|aF 24 (aA c0 d [])<|aA c0 d []
def fB(n:Int)(low:Int)(high:Int):Option Bool:=
 (bif decide (low<=n) then(some (decide (n<=high))) else(some false)).bind λa=>some a
theorem bJ{n low high r}(h:fB n low high=some r):ba prog gl 278 [iG n,iG low,iG high] (bG r):=
 cy bG func278 h λK=>cN [1,0] (sf [] []) []<|cC [1,0] (λa=>sg [] [(6,bG a)]) (λa=>aP c0 K []) λa k3=>aF 9 (aA c0 k3 [])<|aA c0 k3 []
def AL(n:Nat):Option Bool:=
 some (decide ((n:Int)<((2305843009213693951:Nat):Int)))
theorem vv{n r}(h:AL n=some r):ba prog gl 281 [uG n] (bG r):=
 cy bG func281 h λK=>aP c0 K []
def iM(a:DIdent):Option Bool:=
 ((fB a.By 1 12).bind λd=>bif d then((fB a.Seq 1 2147483647).bind λb=>bif b then((AL a.Sum).bind λc=>some c) else(some false)) else(some false)).bind λe=>some e
theorem dW{id_ r}(h:iM id_=some r):ba prog gl 279 [.agg (aj id_)] (bG r):=
 cy bG func279 h λK=>cN [1,0] (sp [] [(1,.ref 0 0)] [ob 0 50 (aj id_)] 1) []<|cC [1,0] (λa=>sk [] [(2,bG a)] [] 0) (λa=>aP c0 K []) λa k5=>ak λg e8=>kV (λb=>ak λe c=>aw [hf 5 (cF (bJ gl e8) b),hf 9 (bJ gl c)]<|aF 10 (ak λf d=>aw [hf 14 (vv gl d)]<|aA c0 k5 [])<|aA c0 k5 []) λb=>aw [hf 5 (cF (bJ gl e8) b)]<|aA c0 k5 []
def ir(n:Nat):Option Bool:=
 (bif decide (((1:Nat):Int)<=(n:Int)) then(some (decide ((n:Int)<((2305843009213693951:Nat):Int)))) else(some false)).bind λa=>some a
theorem kH{n r}(h:ir n=some r):ba prog gl 280 [uG n] (bG r):=
 cy bG func280 h λK=>cN [1,0] (sf [] []) []<|cC [1,0] (λa=>sg [] [(2,bG a)]) (λa=>aP c0 K []) λa k3=>aF 4 (aA c0 k3 [])<|aA c0 k3 []
end
section
set_option maxHeartbeats 2000000
attribute [local irreducible] Tr dz Gp
def ed(o:DOp):Option Bool:=
 ((fB o.By 1 12).bind λa=>bif(!a) then(some true) else((fB o.Seq 1 2147483647).bind λb=>bif(!b) then(some true) else((fB o.At 0 2147483647).bind λc=>some (!c)))).bind λD=>bif D then(some false) else(bif decide (o.Kind=1) then((fB o.Need 0 20).bind λE=>some E) else(bif decide (o.Kind=2) then(((fB o.Device 1 12).bind λf=>bif f then((fB o.Role 1 3).bind λg=>some g) else(some false)).bind λh=>some h) else(bif decide (o.Kind=3) then(((fB o.Device 1 12).bind λi=>bif i then(bif decide (o.Member=0) then(some true) else(bif decide (o.Device=0) then((fB o.Member 1 8).bind λj=>some j) else(some false))) else(bif decide (o.Device=0) then((fB o.Member 1 8).bind λk=>some k) else(some false))).bind λl=>some l) else(bif decide (o.Kind=5) then(((fB o.Member 1 8).bind λm=>bif m then((fB o.Role 1 3).bind λn=>some n) else(some false)).bind λp=>some p) else(bif decide (o.Kind=6) then(((iM o.Epoch).bind λq=>bif q then((fB o.N 0 2147483647).bind λr=>some r) else(some false)).bind λs=>some s) else(bif decide (o.Kind=9) then(((fB o.Need 1 (ah o.Guards)).bind λt=>bif t then((fB o.Wait 0 2147483647).bind λu=>bif u then((ir o.Pub).bind λv=>some v) else(some false)) else(some false)).bind λw=>some w) else(bif decide (o.Kind=11) then(((iM o.Of).bind λx=>bif x then((fB o.Device 1 12).bind λy=>some y) else(some false)).bind λz=>some z) else(bif decide (o.Kind=13) then(((iM o.Of).bind λA=>bif A then((fB o.Device 1 12).bind λB=>bif B then((fB o.Old 1 12).bind λd=>some d) else(some false)) else(some false)).bind λC=>some C) else(bif decide (o.Kind=4) then(some true) else((iM o.Of).bind λe=>some e))))))))))
theorem De{o r}(h:ed o=some r):ba prog gl 181 [.agg (aJ o)] (bG r):=
 cy bG func181 h λK=>cN 1100 (sp [] [(1,.ref 0 0)] [ob 0 99 (aJ o)] 1) []<|cC 1100 (λO=>sf [] [(18,bG O)]) (λO=>eH [18] (aP c0 K [])<|aF 22 (ak λv7 e8=>aw [hf 25 (bJ gl e8)]<|aP c0 K [])<|aF 27 (cN 11101214130 (sf [18] []) []<|cC 11101214130 (λc=>sk [] [(2,bG c)] [] 0) (λc=>aP c0 K []) λc v=>ak λv16 w=>kV (λd=>ak λv19 P=>aw [hf 30 (cF (bJ gl w) d),hf 34 (bJ gl P)]<|aA c0 v []) λd=>aw [hf 30 (cF (bJ gl w) d)]<|aA c0 v [])<|aF 37 (cN 1110121414130 (sf [18] []) []<|cC 1110121414130 (λe=>sk [] [(2,bG e)] [] 0) (λe=>aP c0 K []) λe a=>ak λv28 x=>kV (λf=>aw [hf 40 (cF (bJ gl x) f)]<|aF 45 (aA c0 a [])<|aF 49 (ak λv33 Q=>aw [hf 53 (bJ gl Q)]<|aA c0 a [])<|aA c0 a []) λf=>aw [hf 40 (cF (bJ gl x) f)]<|aF 49 (ak λv36 R=>aw [hf 53 (bJ gl R)]<|aA c0 a [])<|aA c0 a [])<|aF 57 (cN 111012141414130 (sf [18] []) []<|cC 111012141414130 (λg=>sk [] [(2,bG g)] [] 0) (λg=>aP c0 K []) λg y=>ak λv45 z=>kV (λi=>ak λv48 S=>aw [hf 60 (cF (bJ gl z) i),hf 64 (bJ gl S)]<|aA c0 y []) λi=>aw [hf 60 (cF (bJ gl z) i)]<|aA c0 y [])<|aF 67 (cN 11101214141414130 (sf [18] []) []<|cC 11101214141414130 (λj=>sk [] [(2,bG j)] [] 0) (λj=>aP c0 K []) λj A=>ak λv57 B=>kV (λk=>ak λv60 U=>aw [hf 70 (cF (dW gl B) k),hf 74 (bJ gl U)]<|aA c0 A []) λk=>aw [hf 70 (cF (dW gl B) k)]<|aA c0 A [])<|aF 77 (cN 1110121414141414130 (sf [18] []) []<|cC 1110121414141414130 (λl=>sk [] [(2,bG l)] [] 0) (λl=>aP c0 K []) λl m=>ak λv69 C=>kV (λn=>ak λv72 V=>aw [hf 83 (cF (bJ gl C) n),hf 87 (bJ gl V)]<|aF 88 (ak λv75 W=>aw [hf 92 (kH gl W)]<|aA c0 m [])<|aA c0 m []) λn=>aw [hf 83 (cF (bJ gl C) n)]<|aA c0 m [])<|aF 95 (cN 111012141414141414130 (sf [18] []) []<|cC 111012141414141414130 (λp=>sk [] [(2,bG p)] [] 0) (λp=>aP c0 K []) λp D=>ak λv84 E=>kV (λq=>ak λv87 X=>aw [hf 98 (cF (dW gl E) q),hf 102 (bJ gl X)]<|aA c0 D []) λq=>aw [hf 98 (cF (dW gl E) q)]<|aA c0 D [])<|aF 105 (cN 11101214141414141414130 (sf [18] []) []<|cC 11101214141414141414130 (λs=>sk [] [(2,bG s)] [] 0) (λs=>aP c0 K []) λs t=>ak λv96 F=>kV (λu=>ak λv99 H=>aw [hf 108 (cF (dW gl F) u),hf 112 (bJ gl H)]<|aF 113 (ak λY I=>aw [hf 117 (bJ gl I)]<|aA c0 t [])<|aA c0 t []) λu=>aw [hf 108 (cF (dW gl F) u)]<|aA c0 t [])<|aF 120 (aP c0 K [])<|ak λZ J=>aw [hf 123 (dW gl J)]<|aP c0 K []) λO b=>ak λv109 L=>aw [hf 5 (bJ gl L)]<|aF 6 (aA c0 b [])<|ak λv112 M=>aw [hf 10 (bJ gl M)]<|aF 12 (aA c0 b [])<|ak λv115 N=>aw [hf 16 (bJ gl N)]<|aA c0 b []
def qv(l:List DBox)(s1:Int):Option ((Int)⊕(Unit⊕Bool)):=
 bif decide (s1<ah l) then(((aS l s1).bind λa=>(ir a.To).bind λb=>bif(!b) then(some true) else((aS l s1).bind λc=>(ir c.Eph).bind λd=>bif(!d) then(some true) else((aS l s1).bind λe=>(AL e.Body).bind λf=>bif(!f) then(some true) else((aS l s1).bind λg=>(AL g.Tag).bind λh=>some (!h))))).bind λi=>bif i then(some (.inr (.inr false))) else(some (.inl (wI (s1+1))))) else(some (.inr (.inl ())))
def qw(l:List DBox):Option Bool:=
 (loop (qv l) 0).bind λa=>ma a (λb=>some true) (λq=>some q)
theorem yE{l r}(h:qw l=some r):ba prog gl 282 [aE cz l] (bG r):=
 cy bG func282 h λK=>qf 1101 110122 (λg=>sg [] []) (λs1=>sf [] [(3,iG s1)]) [] K (λg=>aP c0 K []) λs1 k5 n k6=>aF 7 (cN 1101221020 (sf [] []) []<|cC 1101221020 (λb=>sf [] [(43,bG b)]) (λb=>eH [43] (aP c3 k6 [])<|cj k5 []) λb a=>ak λo c=>ak λp i=>aw [hv 12 (dl.ixZ c),hv 14 (dl.fdZ tW 0 c),hf 15 (kH gl i)]<|aF 16 (aA c0 a [])<|ak λq d=>ak λs j=>aw [hv 20 (dl.ixZ d),hv 22 (dl.fdZ tW 1 d),hf 23 (kH gl j)]<|aF 25 (aA c0 a [])<|ak λt e=>ak λu k=>aw [hv 29 (dl.ixZ e),hv 31 (dl.fdZ tW 2 e),hf 32 (vv gl k)]<|aF 34 (aA c0 a [])<|ak λv f=>ak λw m=>aw [hv 38 (dl.ixZ f),hv 40 (dl.fdZ tW 3 f),hf 41 (vv gl m)]<|aA c0 a [])<|aA c2 n []
def qx(o:DOp)(a:Int):Option ((Int)⊕(Unit⊕Bool)):=
 bif decide (a<ah o.Hist) then((aS o.Hist a).bind λb=>(iM b.Of).bind λc=>bif(!c) then(some (.inr (.inr false))) else(some (.inl (wI (a+1))))) else(some (.inr (.inl ())))
def qy(o:DOp)(a:Int):Option ((Int)⊕(Unit⊕Bool)):=
 bif decide (a<ah o.Path) then(((aS o.Path a).bind λb=>(ir b.Pub).bind λc=>bif(!c) then(some true) else((aS o.Path a).bind λd=>(qw d.Boxes).bind λe=>some (!e))).bind λf=>bif f then(some (.inr (.inr false))) else(some (.inl (wI (a+1))))) else(some (.inr (.inl ())))
def qz(o:DOp)(a:Int):Option ((Int)⊕(Unit⊕Bool)):=
 bif decide (a<ah o.Past) then((aS o.Past a).bind λb=>(iM b).bind λc=>bif(!c) then(some (.inr (.inr false))) else(some (.inl (wI (a+1))))) else(some (.inr (.inl ())))
def qA(o:DOp)(a:Int):Option ((Int)⊕(Unit⊕Bool)):=
 bif decide (a<ah o.Refs) then((aS o.Refs a).bind λb=>(AL b).bind λc=>bif(!c) then(some (.inr (.inr false))) else(some (.inl (wI (a+1))))) else(some (.inr (.inl ())))
def qB(o:DOp)(s1:Int):Option ((Int)⊕(Unit⊕Bool)):=
 bif decide (s1<ah o.Guards) then((aS o.Guards s1).bind λa=>(fB a 1 12).bind λb=>bif(!b) then(some (.inr (.inr false))) else(some (.inl (wI (s1+1))))) else(some (.inr (.inl ())))
def vw(o:DOp):Option Bool:=
 (loop (qB o) 0).bind λj=>ma j (λk=>(loop (qA o) 0).bind λa=>ma a (λf=>(loop (qz o) 0).bind λb=>ma b (λg=>(loop (qy o) 0).bind λc=>ma c (λh=>(loop (qx o) 0).bind λd=>ma d (λi=>(qw o.Boxes).bind λe=>some e) (λq=>some q)) (λq=>some q)) (λq=>some q)) (λq=>some q)) (λq=>some q)
theorem GY{o r}(h:vw o=some r):ba prog gl 182 [.agg (aJ o)] (bG r):=
 cy bG func182 h λK=>qf 1101 110122 (λt=>sp [] [(1,.ref 0 0)] [ob 0 99 (aJ o)] 1) (λs1=>sp [] [(1,.ref 0 0),(3,iG s1)] [ob 0 99 (aJ o)] 1) [] K (λt=>qf 11101 1110122 (λb=>sf [] []) (λc=>sf [] [(4,iG c)]) [] K (λb=>qf 111101 11110122 (λd=>sf [] []) (λe=>sf [] [(5,iG e)]) [] K (λd=>qf 1111101 111110122 (λf=>sf [] []) (λg=>sf [] [(6,iG g)]) [] K (λf=>qf 11111101 1111110122 (λi=>sf [] []) (λj=>sf [] [(7,iG j)]) [] K (λi=>ak λO u=>aw [hf 92 (yE gl u)]<|aP c0 K []) λj v w x=>aF 79 (ak λP k=>ak λQ y=>aw [hv 85 (bH.ixZ k),hv 87 (bH.fsZ aW jz 0 a9 k),hf 88 (dW gl y)]<|aF 89 (aP c3 x [])<|cj v [])<|aA c2 w []) λg z A B=>aF 54 (cN 1111101221020 (sf [] []) []<|cC 1111101221020 (λa=>sf [] [(74,bG a)]) (λa=>eH [74] (aP c3 B [])<|cj z []) λa l=>ak λR m=>ak λS C=>aw [hv 60 (bZ.ixZ m),hv 62 (bZ.fdZ tW 0 m),hf 63 (kH gl C)]<|aF 64 (aA c0 l [])<|ak λU n=>ak λV D=>aw [hv 69 (bZ.ixZ n),hv 71 (bZ.fdZ E3 1 n),hf 72 (yE gl D)]<|aA c0 l [])<|aA c2 A []) λe E F H=>aF 40 (ak λW p=>ak λX I=>aw [hv 46 (ac.ixZ p),hv 47 (ac.ptZ aW p),hf 48 (dW gl I)]<|aF 49 (aP c3 H [])<|cj E [])<|aA c2 F []) λc J k13 L=>aF 26 (ak λY q=>ak λZ M=>aw [hv 32 (rW.ixZ q),hv 33 (rW.p1Z tW q),hf 34 (vv gl M)]<|aF 35 (aP c3 L [])<|cj J [])<|aA c2 k13 []) λs1 k5 k4 k6=>aF 12 (ak λy86 s=>ak λv88 N=>aw [hv 18 (rZ.ixZ s),hv 19 (rZ.p1Z tZ s),hf 20 (bJ gl N)]<|aF 21 (aP c3 k6 [])<|cj k5 [])<|aA c2 k4 []
def tU(o:DOp)(a:Int):Option ((Int)⊕(Unit⊕Bool)):=
 bif decide (a<ah o.Hist) then((aS o.Hist a).bind λb=>bif decide (208<ah b.Body) then(some (.inr (.inr true))) else(some (.inl (wI (a+1))))) else(some (.inr (.inl ())))
def tV(o:DOp)(s1:Int):Option ((Int)⊕(Unit⊕Bool)):=
 bif decide (s1<ah o.Path) then((aS o.Path s1).bind λa=>bif decide (12<ah a.Boxes) then(some (.inr (.inr true))) else(some (.inl (wI (s1+1))))) else(some (.inr (.inl ())))
def z6(o:DOp):Option Bool:=
 (loop (tV o) 0).bind λg=>ma g (λh=>(loop (tU o) 0).bind λa=>ma a (λf=>(bif decide (12<ah o.Past) then(some true) else(bif decide (5<ah o.Path) then(some true) else(bif decide (208<ah o.Body) then(some true) else(bif decide (8<ah o.Refs) then(some true) else(bif decide (20<ah o.Hist) then(some true) else(some (decide (6<ah o.Guards)))))))).bind λb=>bif b then(some true) else(bif decide (o.Kind=7) then((fB (ah o.Body) 1 20).bind λc=>some (!c)) else(bif decide (o.Kind=9) then(some (decide (ah o.Boxes≠ah o.Guards))) else(bif decide (o.Kind=10) then((fB (ah o.Boxes) 1 6).bind λd=>some (!d)) else((bif decide (o.Kind=11) then(some (decide (ah o.Boxes≠1))) else(some false)).bind λe=>some e))))) (λq=>some q)) (λq=>some q)
theorem AM{o r}(h:z6 o=some r):ba prog gl 183 [.agg (aJ o)] (bG r):=
 cy bG func183 h λK=>qf 1101 110122 (λj=>sp [] [(1,.ref 0 0)] [ob 0 99 (aJ o)] 1) (λs1=>sp [] [(1,.ref 0 0),(3,iG s1)] [ob 0 99 (aJ o)] 1) [] K (λj=>qf 11101 1110122 (λd=>sf [] []) (λe=>sf [] [(4,iG e)]) [] K (λd=>cN 111100 (sf [] []) []<|cC 111100 (λb=>sf [] [(68,bG b)]) (λb=>eH [68] (aP c0 K [])<|aF 71 (ak λp k=>aw [hf 75 (bJ gl k)]<|aP c0 K [])<|aF 79 (aP c0 K [])<|aF 89 (ak λq l=>aw [hf 93 (bJ gl l)]<|aP c0 K [])<|cN 111111110 (sf [68] []) []<|cC 111111110 (λc=>sk [] [(2,bG c)] [] 0) (λc=>aP c0 K []) λc f=>aF 97 (aA c0 f [])<|aA c0 f []) λb a=>aF 38 (aA c0 a [])<|aF 44 (aA c0 a [])<|aF 50 (aA c0 a [])<|aF 56 (aA c0 a [])<|aF 62 (aA c0 a [])<|aA c0 a []) λe m k13 n=>aF 24 (ak λs g=>aw [hv 30 (bH.ixZ g),hv 32 (bH.fdZ tLY 3 g)]<|aF 34 (aP c3 n [])<|cj m [])<|aA c2 k13 []) λs1 k5 t k6=>aF 9 (ak λu i=>aw [hv 15 (bZ.ixZ i),hv 17 (bZ.fdZ E3 1 i)]<|aF 19 (aP c3 k6 [])<|cj k5 [])<|aA c2 t []
def qC(o:DOp)(a:Int):Option ((Int)⊕(Unit⊕Int)):=
 bif decide (a<ah o.Guards) then((aS o.Guards (wI (a-1))).bind λb=>(aS o.Guards a).bind λc=>bif decide (c<=b) then(some (.inr (.inr 6))) else(some (.inl (wI (a+1))))) else(some (.inr (.inl ())))
def qD(o:DOp)(a:Int):Option ((Int)⊕(Unit⊕Int)):=
 bif decide (a<ah o.Past) then((aS o.Past (wI (a-1))).bind λb=>(aS o.Past a).bind λc=>(oU b c).bind λd=>bif(!d) then(some (.inr (.inr 6))) else(some (.inl (wI (a+1))))) else(some (.inr (.inl ())))
def qE(o:DOp):Option Int:=
 (bif decide (o.Kind<1) then(some true) else(some (decide (13<o.Kind)))).bind λi=>bif i then(some 1) else((mz o).bind λj=>bif(!j) then(some 1) else(((ed o).bind λa=>bif(!a) then(some true) else((vw o).bind λb=>some (!b))).bind λk=>bif k then(some 8) else((z6 o).bind λc=>bif c then(some 2) else((loop (qD o) 1).bind λd=>ma d (λg=>(loop (qC o) 1).bind λe=>ma e (λh=>(bif decide (ah o.Past=0) then(bif decide (o.Kind=1) then(some false) else(some true)) else(bif decide (o.Kind=1) then(some true) else(some false))).bind λf=>bif f then(some 10) else(some 0)) (λq=>some q)) (λq=>some q)))))
theorem GZ{o r}(h:qE o=some r):ba prog gl 122 [.agg (aJ o)] (iG r):=
 cy iG func122 h λK=>cN 1100 (sp [] [(1,.ref 0 0)] [ob 0 99 (aJ o)] 1) []<|cC 1100 (λq=>sf [] [(12,bG q)]) (λq=>eH [12] (aP c0 K [])<|ak λM e5=>aw [hf 14 (Jr gl e5)]<|aF 15 (aP c0 K [])<|cN 111100 (sf [12] []) []<|cC 111100 (λs=>sf [] [(23,bG s)]) (λs=>eH [23] (aP c0 K [])<|ak λC d=>kV (λb=>aw [hf 25 (cF (AM gl d) b)]<|aP c0 K []) λb=>aw [hf 25 (cF (AM gl d) b)]<|qf 11111101 1111110122 (λe=>sf [23] []) (λf=>sf [23] [(3,iG f)]) [] K (λe=>qf 111111101 11111110122 (λg=>sf [] []) (λi=>sf [] [(4,iG i)]) [] K (λg=>cN 1111111100 (sf [] []) []<|cC 1111111100 (λc=>sk [] [(72,bG c)] [] 0) (λc=>eH [72] (aP c0 K [])<|aP c0 K []) λc a=>aF 68 (aF 71 (aA c0 a [])<|aA c0 a [])<|aF 71 (aA c0 a [])<|aA c0 a []) λi t u v=>aF 50 (ak λD j=>ak λE k=>aw [hv 57 (rZ.ixZ j),hv 58 (rZ.p1Z tZ j),hv 62 (rZ.ixZ k),hv 63 (rZ.p1Z tZ k)]<|aF 64 (aP c3 v [])<|cj t [])<|aA c2 u []) λf w x y=>aF 30 (ak λF l=>ak λH m=>ak λI z=>aw [hv 37 (ac.ixZ l),hv 38 (ac.ptZ aW l),hv 42 (ac.ixZ m),hv 43 (ac.ptZ aW m),hf 44 (oV gl z)]<|aF 45 (aP c3 y [])<|cj w [])<|aA c2 x []) λs n=>ak λJ A=>aw [hf 17 (De gl A)]<|aF 18 (aA c0 n [])<|ak λL B=>aw [hf 21 (GY gl B)]<|aA c0 n []) λq p=>aF 7 (aA c0 p [])<|aA c0 p []
def qF(g:D12G)(b:DIdent)(s1:Int):Option ((Int)⊕(Unit⊕Int)):=
 bif decide (s1<ah g.IDs) then((aS g.IDs s1).bind λa=>bif decide (a=b) then(some (.inr (.inr s1))) else(some (.inl (wI (s1+1))))) else(some (.inr (.inl ())))
def fC(g:D12G)(a:DIdent):Option Int:=
 (loop (qF g a) 0).bind λb=>ma b (λc=>some (-1)) (λq=>some q)
theorem dX{g id_ r}(h:fC g id_=some r):ba prog gl 123 [.agg (aI g),.agg (aj id_)] (iG r):=
 cy iG func123 h λK=>qf 1101 110122 (λd=>sg [] []) (λs1=>sp [] [(2,.ref 0 0),(3,.ref 1 0),(5,iG s1)] [ob 0 31 (aI g),ob 1 50 (aj id_)] 2) [] K (λd=>aP c0 K []) λs1 k5 e k6=>aF 10 (ak λb c=>aw [hv 16 (ac.ixZ c),hv 17 (ac.ptZ aW c)]<|kV (λa=>aw [hV 19 (cV (dU b id_ rfl) a)]<|aP c3 k6 []) λa=>aw [hV 19 (cV (dU b id_ rfl) a)]<|cj k5 [])<|aA c2 e []
def tX(g:D12G)(device:Int)(s1:DCard×Int):Option ((DCard×Int)⊕(DCard⊕(DCard×Bool))):=
 bif decide (s1.2<ah g.Cards) then((aS g.Cards s1.2).bind λa=>bif decide (a.Device=device) then((aS g.Cards s1.2).bind λb=>some (.inr (.inr (b,true)))) else(some (.inl (s1.1,wI (s1.2+1))))) else(some (.inr (.inl s1.1)))
def vz(g:D12G)(device:Int):Option (DCard×Bool):=
 (loop (tX g device) (⟨0,0,0,0,0⟩,0)).bind λa=>ma a (λb=>some (⟨0,0,0,0,0⟩,false)) (λq=>some q)
theorem AN{g device r}(h:vz g device=some r):ba prog gl 124 [.agg (aI g),iG device] (.tup [.agg (bv r.1),bG r.2]):=
 cy (λr=> .tup [.agg (bv r.1),bG r.2]) func124 h λK=>qf 1101 110122 (λa=>sp [] [(4,.ref 0 0)] [ob 0 129 (bv a)] 1) (λs1=>so [0] [(2,.ref 0 0),(4,.ref 1 0),(6,iG s1.2)] [ob 0 31 (aI g),ob 1 129 (bv s1.1)] 2) [] K (λa=>aP c0 K []) λs1 k5 d k6=>aF 11 (ak λe b=>aw [hv 17 (bT.ixZ b),hv 19 (bT.fdZ tZ 0 b)]<|aF 21 (ak λf c=>aw [hv 25 (bT.ixZ c),hv 26 (bT.ptZ E2 c)]<|aP c3 k6 [])<|cj k5 [])<|aA c2 d [] (ρ:=[(0,1)])
def jJ(pub:Nat)(b:List UInt8)(s:DSig):Option Bool:=
 (bif decide ((pub:Int)<((1:Nat):Int)) then(some true) else((fV).bind λa=>bif decide ((a:Int)<(pub:Int)) then(some true) else(bif decide ((s.R:Int)<((1:Nat):Int)) then(some true) else((fV).bind λc=>bif decide ((c:Int)<(s.R:Int)) then(some true) else((fV).bind λd=>some (decide ((d:Int)<=(s.S:Int)))))))).bind λf=>bif f then(some false) else((iK 37 s.S).bind λg=>(Pi s.R pub b).bind λh=>(iK pub h).bind λi=>(oQ s.R i).bind λe=>some (decide ((g:Int)=(e:Int))))
theorem G0{pub b s r}(h:jJ pub b s=some r):ba prog gl 125 [uG pub,aE cY b,.agg (yy s)] (bG r):=
 cy bG func125 h λK=>cN 1100 (so [2] [(5,.ref 0 0)] [ob 0 97 (yy s)] 1) []<|cC 1100 (λc=>sf [] [(30,bG c)]) (λc=>eH [30] (aP c0 K [])<|ak λl e5=>ak λm e7=>ak λn e9=>ak λg d=>aw [hf 33 (lc gl e5),hf 41 (LI gl e7),hf 42 (lc gl e9),hf 43 (nK gl d)]<|aP c0 K []) λc a=>aF 8 (aA c0 a [])<|ak λi e16=>aw [hf 11 (eU gl e16)]<|aF 13 (aA c0 a [])<|aF 18 (aA c0 a [])<|ak λj e=>aw [hf 22 (eU gl e)]<|aF 24 (aA c0 a [])<|ak λk f=>aw [hf 28 (eU gl f)]<|aA c0 a []
def jK(g:D12G)(o:DOp)(in_:List Bool)(s1:Bool×Int):Option ((Bool×Int)⊕(Bool⊕Bool)):=
 bif decide (s1.2<ah g.L) then(((aS in_ s1.2).bind λa=>bif(!a) then(some true) else((aS g.L s1.2).bind λb=>some (decide (b.By≠o.By)))).bind λc=>bif c then(some (.inl (s1.1,wI (s1.2+1)))) else((aS g.L s1.2).bind λd=>bif decide (o.Seq<=d.Seq) then(some (.inr (.inr false))) else((bif s1.1 then(some true) else((aS g.L s1.2).bind λe=>some (decide (e.Seq=wI (o.Seq-1))))).bind λf=>some (.inl (f,wI (s1.2+1)))))) else(some (.inr (.inl s1.1)))
def lA(g:D12G)(o:DOp)(in_:List Bool):Option Bool:=
 (loop (jK g o in_) (false,0)).bind λc=>ma c (λa=>(bif decide (o.Seq=1) then(some true) else(some a)).bind λb=>some b) (λq=>some q)
theorem G1{g o in_ r}(h:lA g o in_=some r):ba prog gl 126 [.agg (aI g),.agg (aJ o),aE cO in_] (bG r):=
 cy bG func126 h λK=>qf 11101 1110122 (λd=>sp [] [(4,.ref 0 0),(7,bG d)] [ob 0 99 (aJ o)] 1) (λs1=>sp [2] [(3,.ref 0 0),(4,.ref 1 0),(7,bG s1.1),(8,iG s1.2)] [ob 0 31 (aI g),ob 1 99 (aJ o)] 2) [] K (λd=>cN 11110 (sf [] []) []<|cC 11110 (λa=>sk [] [(6,bG a)] [] 0) (λa=>aP c0 K []) λa e=>aF 56 (aA c0 e [])<|aA c0 e []) λs1 k5 n k6=>aF 13 (cN 111012210200 (sf [] []) []<|cC 111012210200 (λb=>sf [] [(31,bG b)]) (λb=>eH [31] (cj k5 [])<|ak λp f=>aw [hv 35 (eJ.ixZ f),hv 37 (eJ.fdZ tZ 1 f)]<|aF 40 (aP c3 k6 [])<|cC 111012210211 (λc=>sf [31] [(7,bG c)]) (λc=>cj k5 []) λc i=>aF 41 (aA c0 i [])<|ak λq j=>aw [hv 46 (eJ.ixZ j),hv 48 (eJ.fdZ tZ 1 j)]<|aA c0 i []) λb k=>ak λs l=>aw [hv 18 (rO.ixZ l),hv 19 (rO.p1Z tO l)]<|aF 20 (aA c0 k [])<|ak λt m=>aw [hv 25 (eJ.ixZ m),hv 27 (eJ.fdZ tZ 0 m)]<|aA c0 k [])<|aA c2 n [] (ρ:=[(0,1)])
end
section
set_option maxHeartbeats 2000000
attribute [local irreducible] Tr dz Gp
def qG(g:D12G)(a:List Int)(c:Int)(b:Int):Option ((Int)⊕(Unit⊕(Int×List Int))):=
 bif decide (b<ah a) then((aS a c).bind λd=>(aS g.In d).bind λe=>(aS a b).bind λf=>(aS e f).bind λh=>bif h then(some (.inr (.inr (6,[])))) else(some (.inl (wI (b+1))))) else(some (.inr (.inl ())))
def qH(g:D12G)(o:DOp)(a:List Int)(b:Int):Option ((Int)⊕(Unit⊕(Int×List Int))):=
 bif decide (b<ah a) then((loop (qG g a b) 0).bind λc=>ma c (λf=>(aS a b).bind λd=>(aS g.L d).bind λe=>bif decide (o.At<e.At) then(some (.inr (.inr (6,[])))) else(some (.inl (wI (b+1))))) (λq=>some (.inr (.inr q)))) else(some (.inr (.inl ())))
def qI(g:D12G)(o:DOp)(a:List Int×Int):Option ((List Int×Int)⊕(List Int⊕(Int×List Int))):=
 bif decide (a.2<ah o.Past) then((aS o.Past a.2).bind λc=>(fC g c).bind λb=>bif decide (b<0) then(some (.inr (.inr (10,[])))) else((aT 8 a.1 ([b]:List Int)).bind λd=>some (.inl (d,wI (a.2+1))))) else(some (.inr (.inl a.1)))
def vA(g:D12G)(o:DOp):Option (Int×List Int):=
 (qE o).bind λk=>bif decide (k≠0) then(some (k,[])) else((pV o).bind λm=>(fC g m).bind λn=>bif decide (0<=n) then(some (5,[])) else(bif decide (200<=ah g.L) then(some (3,[])) else((vz g o.By).bind λb=>bif(!b.2) then(some (17,[])) else((lz o).bind λc=>(jJ b.1.Sign c o.Sig).bind λd=>bif(!d) then(some (12,[])) else((bif decide (o.Kind=1) then(some (decide (0<ah g.L))) else(some false)).bind λe=>bif e then(some (1,[])) else((loop (qI g o) ([],0)).bind λf=>ma f (λa=>(loop (qH g o a) 0).bind λh=>ma h (λl=>(jA g a).bind λi=>(lA g o i).bind λj=>bif(!j) then(some (11,[])) else(some (0,a))) (λq=>some q)) (λq=>some q)))))))
theorem G2{g o r}(h:vA g o=some r):ba prog gl 63 [.agg (aI g),.agg (aJ o)] (.tup [iG r.1,aE cZ r.2]):=
 cy (λr=> .tup [iG r.1,aE cZ r.2]) func63 h λK=>ak λv1 e2=>aw [hf 16 (GZ gl e2)]<|aF 18 (aP c0 K [])<|ak λv4 e5=>ak λv6 e7=>aw [hf 22 (AI gl e5),hf 23 (dX gl e7)]<|aF 24 (aP c0 K [])<|aF 28 (aP c0 K [])<|ak λM w=>aw [hf 33 (AN gl w)]<|aF 37 (aP c0 K [])<|ak λN x=>ak λO e16=>aw [hf 41 (qu gl x),hf 44 (G0 gl e16)]<|aF 46 (aP c0 K [])<|cN 111111111100 (sp [] [(2,.ref 0 0),(3,.ref 1 0)] [ob 0 31 (aI g),ob 1 99 (aJ o)] 2) []<|cC 111111111100 (λc=>sf [] [(55,bG c)]) (λc=>eH [55] (aP c0 K [])<|qf 11111111111101 1111111111110122 (λb=>sf [55] [(10,aE cZ b)]) (λa=>so [55] [(10,.rsl 2 0 a.1.length),(11,iG a.2)] [ob 2 3 (a.1.flatMap cZ)] 3) [hc (rZ.imm [])] K (vs:=[3]) (ρ:=rI 3) (kd:=[(2,.row)]) (λb=>qf 111111111111101 11111111111110122 (λf=>sf [] []) (λi=>sf [] [(13,iG i)]) [] K (λf=>ak λP y=>ak λQ z=>aw [hf 118 (Jq gl y),hf 119 (G1 gl z)]<|aF 120 (aP c0 K [])<|aP c0 K []) λi A B j=>aF 79 (qf 1111111111111012210201 111111111111101221020122 (λk=>sf [] []) (λl=>sf [] [(14,iG l)]) [] j (λk=>ak λR m=>ak λS n=>aw [hv 108 (rZ.ixZ m),hv 109 (rZ.p1Z tZ m),hv 110 (eJ.ixZ n),hv 112 (eJ.fdZ tZ 3 n)]<|aF 113 (aP c3 j [])<|cj A []) λl C D E=>aF 85 (ak λU p=>ak λV q=>ak λW s=>ak λX d=>aw [hv 92 (rZ.ixZ p),hv 93 (rZ.p1Z tZ p),hv 94 (zV.ixZ q),hv 95 (zV.p1Z Vt q),hv 98 (rZ.ixZ s),hv 99 (rZ.p1Z tZ s),hv 100 (rO.ixZ d)]<|kV (λe=>aw [hv 101 (cB (rO.p1Z tO d) e)]<|aP c3 E []) λe=>aw [hv 101 (cB (rO.p1Z tO d) e)]<|cj C [])<|aA c2 D [])<|aA c2 B []) λa F H I=>aF 60 (ak λY t=>ak λZ J=>aw [hv 67 (ac.ixZ t),hv 68 (ac.ptZ aW t),hf 69 (dX gl J)]<|aF 71 (aP c3 I [])<|ak λu L=>aw [dg 75 rZ L]<|cj F [hc (el u),hc (rZ.imm u)] (ρ:=[(0,0),(1,1),(2,4)]) (kd:=[(2,.row)]))<|aA c2 H [hc (rZ.al a.1)]) λc v=>aF 49 (aA c0 v [])<|aA c0 v []
def xr(g:D12G)(a:List (List Bool)×Int):Option ((List (List Bool)×Int)⊕(List (List Bool))):=
 bif decide (a.2<ah g.In) then((aS g.In a.2).bind λb=>(aT 1 ([]:List Bool) b).bind λc=>((aT 1 c [false]).bind λd=>(aT 24 a.1 [d]).bind λe=>some e).bind λf=>some (.inl (f,wI (a.2+1)))) else(some (.inr a.1))
def AO(g:D12G)(o:DOp):Option (D12G×Int):=
 (vA g o).bind λa=>bif decide (a.1≠0) then(some (g,a.1)) else((jA g a.2).bind λl=>(aT 328 ([]:List DOp) g.L).bind λm=>(aT 328 m [o]).bind λn=>(aT 24 ([]:List DIdent) g.IDs).bind λb=>(pV o).bind λc=>(aT 24 b [c]).bind λd=>(aT 24 ([]:List (List Int)) g.Up).bind λe=>(aT 24 e [a.2]).bind λf=>(loop (xr g) ([],0)).bind λh=>((aT 1 l [false]).bind λi=>(aT 24 h [i]).bind λj=>some j).bind λk=>some (⟨g.Cards,n,d,f,k⟩,0))
theorem M9{g o r}(h:AO g o=some r):ba prog gl 41 [.agg (aI g),.agg (aJ o)] (.tup [.agg (aI r.1),iG r.2]):=
 cy (λr=> .tup [.agg (aI r.1),iG r.2]) func41 h λK=>ak λH e2=>aw [hf 15 (G2 gl e2)]<|aF 19 (aP c0 K [])<|ak λb e5=>ak λN e7=>ak λm e9=>ak λI u=>ak λJ v=>ak λe w=>ak λL x=>ak λf y=>aw [ho 24 [.agg (aI g),aE cZ H.2] [] (AK gl e5) (lO b),wX 32 eJ e7,dg 35 eJ e9,wX 41 ac u,hf 43 (AI gl v),dg 45 ac w,wX 51 nH x,dg 54 nH y]<|gA 111111111101 11111111110122 (λc=>sp [] [(4,.ref 0 0),(8,.rsl 1 0 b.length),(9,.ref 2 0)] [ob 0 31 (bF [0,1,2,3,4] (aI xm)),ob 1 4 (b.flatMap cO),ob 2 31 [aE bv g.Cards,aE aJ m,aE aj e,aE Jc f,.rsl 3 0 c.length],ob 3 134 (c.flatMap OT)] 4) (λa=>sp [] [(2,.ref 0 0),(4,.ref 1 0),(8,.rsl 2 0 b.length),(9,.ref 3 0),(10,iG a.2)] [ob 0 31 (aI g),ob 1 31 (bF [0,1,2,3,4] (aI xm)),ob 2 4 (b.flatMap cO),ob 3 31 [aE bv g.Cards,aE aJ m,aE aj e,aE Jc f,.rsl 4 0 a.1.length],ob 4 134 (a.1.flatMap OT)] 5) [hc (el b),hc (rO.imm b),hc (eJ.al m),hc (ac.al e),hc (nH.al f),hc (zV.imm [])] (vs:=[134]) (ρ:=[(0,0),(1,2),(2,3),(3,4),(4,14)]) (kd:=[(2,.row),(4,.row)]) (λc=>cN 111111111110 (sf [] []) [hc (el b),hc (rO.imm b),hc (el c),hc (zV.imm c)] (ρ:=rI 4) (kd:=[(1,.row),(3,.row)])<|cC 111111111110 (λi=>sx [8] [(9,.ref 1 0)] [ob 0 31 (bF [0,1,2,3,4] (aI xm)),ob 1 31 [aE bv g.Cards,aE aJ m,aE aj e,aE Jc f,.rsl 2 0 i.length],ob 2 134 (i.flatMap OT)] 3) (λi=>aP c0 K [hc (zV.al i)]) λi z=>ak λj A=>ak λn p=>aw [dg 82 rO A,Tv 84 zV p [.rsl 5 0 j.length] rfl]<|aA c0 z [hc (el n),ZV zV p [.rsl 5 0 j.length],hc (rO.al j)] (ρ:=[(0,0),(1,2),(2,7)]) (kd:=[(2,.app (c.flatMap OT) [.rsl 5 0 j.length] (OT j) (n.flatMap OT))])) λa B C=>aF 60 (ak λM q=>ak λl D=>aw [hv 67 (zV.ixZ q),hv 68 (zV.p1Z Vt q),wX 69 rO D]<|cN 1111111111012210211 (so [] [(11,.rsl 5 0 l.length)] [ob 5 4 (l.flatMap cO)] 6) [hc (el b),hc (el l),hc (rO.imm b),hc (el a.1),hc (zV.imm a.1),hc (rO.imm l)] (ρ:=rI 6) (kd:=[(2,.row),(5,.row),(4,.row)])<|cC 1111111111012210211 (λd=>sx [11] [] [ob 0 31 (aI g),ob 1 31 (bF [0,1,2,3,4] (aI xm)),ob 2 4 (b.flatMap cO),ob 3 31 [aE bv g.Cards,aE aJ m,aE aj e,aE Jc f,.rsl 4 0 d.length],ob 4 134 (d.flatMap OT)] 5) (λd=>cj B [hc (el b),hc (rO.imm b),hc (el d),hc (zV.imm d)] (ρ:=rI 5) (kd:=[(2,.row),(4,.row)])) λd E=>ak λk F=>ak λs t=>aw [dg 74 rO F,Tv 76 zV t [.rsl 7 0 k.length] rfl]<|aA c0 E [hc (el b),hc (rO.imm b),hc (el s),ZV zV t [.rsl 7 0 k.length],hc (rO.al k)] (ρ:=rI 4++[(4,9)]) (kd:=[(2,.row),(4,.app (a.1.flatMap OT) [.rsl 7 0 k.length] (OT k) (s.flatMap OT))]))<|aA c1 C [hc (el b),hc (rO.imm b),hc (el a.1),hc (zV.imm a.1)] (ρ:=[(0,1),(1,2),(2,3),(3,4)]) (kd:=[(1,.row),(3,.row)])
def r8:Option (List Int):=
 some ([1,2,3,1,2,3]:List Int)
theorem E9{r}(h:r8=some r):iV prog gl 45 [] 3 r.length (r.flatMap cZ):=
 gc func45 h λK=>mr c0 K (rZ.imm _)
theorem Fa{r}(h:r8=some r):ba prog gl 45 [] (aE cZ r):=(E9 gl h).fn rZ.sz (rZ.len _) (rZ.imm _)
def z7(n:Int):Option Int:=
 (aS ([6,4,3,2,5,7,8,3,6,9,11,11,13,12,10,4,3,2,6,13]:List Int) (Int.tmod n 20)).bind λa=>some a
theorem Js{n r}(h:z7 n=some r):ba prog gl 80 [iG n] (iG r):=
 cy iG func80 h λK=>ak λa e2=>aw [hv 6 (rZ.ixrZ 0 e2),hv 7 (rZ.p10Z tZ e2)]<|aP c0 K []
def vB(l:List DIdent)(s1:List DIdent×Int)(a:Int):Option ((Int)⊕(Int)):=
 bif decide (0<a) then((aS l s1.2).bind λb=>(aS s1.1 (wI (a-1))).bind λc=>(oU b c).bind λd=>bif(!d) then(some (.inr a)) else(some (.inl (wI (a-1))))) else(some (.inr a))
def oZ(l:List DIdent)(s1:List DIdent×Int):Option ((List DIdent×Int)⊕(List DIdent)):=
 bif decide (s1.2<ah l) then((loop (vB l s1) (ah s1.1)).bind λa=>(tq s1.1 a).bind λb=>(aT 24 ([]:List DIdent) b).bind λc=>(aS l s1.2).bind λd=>(aT 24 c [d]).bind λe=>(mc s1.1 a).bind λf=>(aT 24 e f).bind λg=>some (.inl (g,wI (s1.2+1)))) else(some (.inr s1.1))
def iu(l:List DIdent):Option (List DIdent):=
 (loop (oZ l) ([],0)).bind λa=>some a
theorem iO{l r}(h:iu l=some r):iV prog gl 147 [aE aj l] 50 r.length (r.flatMap aj):=
 gc func147 h λK=>gA 11101 1110122 (λi=>sp [] [(3,.rsl 0 0 i.length)] [ob 0 50 (i.flatMap aj)] 1) (λs1=>so [] [(3,.rsl 0 0 s1.1.length),(4,iG s1.2)] [ob 0 50 (s1.1.flatMap aj)] 1) [hc (ac.imm [])] (vs:=[50]) (ρ:=[(0,0)]) (kd:=[(0,.row)]) (λi=>mr c0 K (ac.imm _)) λs1 k5 s=>aF 10 (gA 111012210210 11101221021022 (λa=>sx [] [(3,aE aj s1.1),(5,iG a)] [] 0) (λb=>sx [] [(3,aE aj s1.1),(5,iG b)] [] 0) [hc (ac.al s1.1)] (λa=>ak λt j=>ak λu k=>ak λv c=>ak λw m=>ak λx n=>ak λd o=>aw [hv 33 (ac.preZI j),wX 34 ac k,hv 38 (ac.ixZ c),hv 39 (ac.ptZ aW c),dg 41 ac m,hv 45 (ac.sufZI n),eu 46 ac o]<|cj k5 [hc (el d),hc (ac.imm d)] (ρ:=[(0,3)]) (kd:=[(0,.row)])) λb p e=>aF 16 (ak λy f=>ak λz g=>ak λA q=>aw [hv 19 (ac.ixZ f),hv 20 (ac.ptZ aW f),hv 24 (ac.ixZ g),hv 25 (ac.ptZ aW g),hf 26 (oV gl q)]<|aF 27 (aA c1 e [])<|cj p [])<|aA c1 e [])<|aA c1 s [hc (el s1.1),hc (ac.imm s1.1)] (ρ:=[(0,0)]) (kd:=[(0,.row)])
def xt(g:D12G):Option (List DIdent):=
 (iu g.IDs).bind λa=>some a
theorem DK{g r}(h:xt g=some r):iV prog gl 82 [.agg (aI g)] 50 r.length (r.flatMap aj):=
 gc func82 h λK=>ak λa e2=>aw [ho 5 [aE aj g.IDs] [] (iO gl e2) (kF a)]<|mr c0 K (ac.imm _)
theorem DL{g r}(h:xt g=some r):ba prog gl 82 [.agg (aI g)] (aE aj r):=(DK gl h).fn ac.sz (ac.len _) (ac.imm _)
def qJ(l:List DIdent)(b:DIdent)(s1:Int):Option ((Int)⊕(Unit⊕Bool)):=
 bif decide (s1<ah l) then((aS l s1).bind λa=>bif decide (a=b) then(some (.inr (.inr true))) else(some (.inl (wI (s1+1))))) else(some (.inr (.inl ())))
def jL(l:List DIdent)(a:DIdent):Option Bool:=
 (loop (qJ l a) 0).bind λb=>ma b (λc=>some false) (λq=>some q)
theorem jM{l id_ r}(h:jL l id_=some r):ba prog gl 85 [aE aj l,.agg (aj id_)] (bG r):=
 cy bG func85 h λK=>qf 1101 110122 (λd=>sg [] []) (λs1=>so [1] [(3,.ref 0 0),(5,iG s1)] [ob 0 50 (aj id_)] 1) [] K (λd=>aP c0 K []) λs1 k5 e k6=>aF 9 (ak λb c=>aw [hv 14 (ac.ixZ c),hv 15 (ac.ptZ aW c)]<|kV (λa=>aw [hV 17 (cV (dU b id_ rfl) a)]<|aP c3 k6 []) λa=>aw [hV 17 (cV (dU b id_ rfl) a)]<|cj k5 [])<|aA c2 e []
def t7(g:D12G)(ids:List DIdent)(s1:List DIdent×Int)(a:Bool×Int):Option ((Bool×Int)⊕(Bool)):=
 bif decide (a.2<ah ids) then((aS ids a.2).bind λc=>(fC g c).bind λb=>(bif a.1 then(some true) else(bif decide (0<=b) then((aS g.In (gB b 0)).bind λd=>(aS d s1.2).bind λe=>some e) else(some false))).bind λf=>some (.inl (f,wI (a.2+1)))) else(some (.inr a.1))
def t8(g:D12G)(ids:List DIdent)(s1:List DIdent×Int):Option ((List DIdent×Int)⊕(List DIdent)):=
 bif decide (s1.2<ah g.L) then((loop (t7 g ids s1) (false,0)).bind λa=>bif a then((aS g.IDs s1.2).bind λb=>(aT 24 s1.1 [b]).bind λc=>some (.inl (c,wI (s1.2+1)))) else(some (.inl (s1.1,wI (s1.2+1))))) else(some (.inr s1.1))
def r9(g:D12G)(ids:List DIdent):Option (List DIdent):=
 (loop (t8 g ids) ([],0)).bind λb=>(iu b).bind λa=>some a
theorem AP{g ids r}(h:r9 g ids=some r):iV prog gl 150 [.agg (aI g),aE aj ids] 50 r.length (r.flatMap aj):=
 gc func150 h λK=>gA 11101 1110122 (λl=>sg [] [(5,aE aj l)]) (λs1=>so [0] [(2,.ref 0 0),(5,.rsl 1 0 s1.1.length),(6,iG s1.2)] [ob 0 31 (aI g),ob 1 50 (s1.1.flatMap aj)] 2) [hc (ac.imm [])] (vs:=[50]) (ρ:=[(0,0),(1,1)]) (kd:=[(1,.row)]) (λl=>ak λm n=>aw [ho 55 [aE aj l] [] (iO gl n) (kF m)]<|mr c0 K (ac.imm _)) λs1 k5 u=>aF 14 (gA 1110122102101 111012210210122 (λd=>sf [] [(7,bG d)]) (λa=>sf [] [(7,bG a.1),(8,iG a.2)]) [hc (el s1.1),hc (ac.imm s1.1)] (ρ:=[(0,0),(1,1)]) (kd:=[(1,.row)]) (λd=>aF 45 (ak λv e=>ak λf o=>aw [hv 50 (ac.ixZ e),hv 51 (ac.ptZ aW e),dg 53 ac o]<|cj k5 [hc (el f),hc (ac.imm f)] (ρ:=[(0,0),(1,3)]) (kd:=[(1,.row)]))<|cj k5 [hc (el s1.1),hc (ac.imm s1.1)] (ρ:=[(0,0),(1,1)]) (kd:=[(1,.row)])) λa p q=>aF 20 (ak λw i=>ak λs t=>aw [hv 26 (ac.ixZ i),hv 27 (ac.ptZ aW i),hf 28 (dX gl t)]<|cN 1110122102101221021 (sf [] [(9,iG s)]) [hc (el s1.1),hc (ac.imm s1.1)] (ρ:=[(0,0),(1,1)]) (kd:=[(1,.row)])<|cC 1110122102101221021 (λb=>sf [9] [(7,bG b)]) (λb=>cj p [hc (el s1.1),hc (ac.imm s1.1)] (ρ:=[(0,0),(1,1)]) (kd:=[(1,.row)])) λb c=>aF 29 (aA c0 c [hc (el s1.1),hc (ac.imm s1.1)] (ρ:=[(0,0),(1,1)]) (kd:=[(1,.row)]))<|aF 32 (ak λx j=>ak λy k=>aw [hv 38 (zV.ixZ j),hv 39 (zV.p1Z Vt j),hv 41 (rO.ixZ k),hv 42 (rO.p1Z tO k)]<|aA c0 c [hc (el s1.1),hc (ac.imm s1.1)] (ρ:=[(0,0),(1,1)]) (kd:=[(1,.row)]))<|aA c0 c [hc (el s1.1),hc (ac.imm s1.1)] (ρ:=[(0,0),(1,1)]) (kd:=[(1,.row)]))<|aA c1 q [hc (el s1.1),hc (ac.imm s1.1)] (ρ:=[(0,0),(1,1)]) (kd:=[(1,.row)]))<|aA c1 u [hc (ac.al s1.1)]
theorem Jt{g ids r}(h:r9 g ids=some r):ba prog gl 150 [.agg (aI g),aE aj ids] (aE aj r):=(AP gl h).fn ac.sz (ac.len _) (ac.imm _)
def t9(g:D12G)(ids:List DIdent)(s3:List DIdent×Int):Option ((List DIdent×Int)⊕(List DIdent)):=
 bif decide (s3.2<ah ids) then(((aS ids s3.2).bind λa=>(fC g a).bind λb=>bif decide (0<=b) then((aS ids s3.2).bind λc=>(jL s3.1 c).bind λd=>some (!d)) else(some false)).bind λe=>bif e then((aS ids s3.2).bind λf=>(aT 24 s3.1 [f]).bind λh=>some (.inl (h,wI (s3.2+1)))) else(some (.inl (s3.1,wI (s3.2+1))))) else(some (.inr s3.1))
def o3(g:D12G)(ids:List DIdent):Option (List DIdent):=
 (r9 g ids).bind λb=>(loop (t9 g ids) (b,0)).bind λc=>(iu c).bind λa=>some a
theorem ua{g ids r}(h:o3 g ids=some r):iV prog gl 146 [.agg (aI g),aE aj ids] 50 r.length (r.flatMap aj):=
 gc func146 h λK=>ak λi e2=>aw [ho 9 [.agg (aI g),aE aj ids] [] (AP gl e2) (kF i)]<|gA 11101 1110122 (λj=>sg [] [(5,aE aj j)]) (λs3=>so [0] [(2,.ref 0 0),(5,.rsl 1 0 s3.1.length),(6,iG s3.2)] [ob 0 31 (aI g),ob 1 50 (s3.1.flatMap aj)] 2) [hc (el i),hc (ac.imm i)] (ρ:=[(0,0),(1,1)]) (kd:=[(1,.row)]) (λj=>ak λk l=>aw [ho 40 [aE aj j] [] (iO gl l) (kF k)]<|mr c0 K (ac.imm _)) λs3 k7 k6=>aF 13 (cN 11101221020 (sf [] []) [hc (el s3.1),hc (ac.imm s3.1)] (ρ:=[(0,0),(1,1)]) (kd:=[(1,.row)])<|cC 11101221020 (λa=>sf [] [(31,bG a)]) (λa=>eH [31] (ak λq b=>ak λc m=>aw [hv 35 (ac.ixZ b),hv 36 (ac.ptZ aW b),dg 38 ac m]<|cj k7 [hc (el c),hc (ac.imm c)] (ρ:=[(0,0),(1,3)]) (kd:=[(1,.row)]))<|cj k7 [hc (el s3.1),hc (ac.imm s3.1)] (ρ:=[(0,0),(1,1)]) (kd:=[(1,.row)])) λa d=>ak λs e=>ak λt n=>aw [hv 19 (ac.ixZ e),hv 20 (ac.ptZ aW e),hf 21 (dX gl n)]<|aF 22 (ak λo f=>ak λu p=>aw [hv 27 (ac.ixZ f),hv 28 (ac.ptZ aW f),hq 29 [aE aj s3.1,.agg (aj o)] [hc (ac.al s3.1)] (jM gl p)]<|aA c0 d [hc (el s3.1),hc (ac.imm s3.1)] (ρ:=[(0,0),(1,1)]) (kd:=[(1,.row)]))<|aA c0 d [hc (el s3.1),hc (ac.imm s3.1)] (ρ:=[(0,0),(1,1)]) (kd:=[(1,.row)]))<|aA c1 k6 [hc (ac.al s3.1)]
theorem Ju{g ids r}(h:o3 g ids=some r):ba prog gl 146 [.agg (aI g),aE aj ids] (aE aj r):=(ua gl h).fn ac.sz (ac.len _) (ac.imm _)
def ub(g:D12G)(device:Int)(s3:Int×Int):Option ((Int×Int)⊕(Int)):=
 bif decide (s3.2<ah g.L) then((aS g.L s3.2).bind λa=>bif decide (a.By=device) then(some (.inl (s3.2,wI (s3.2+1)))) else(some (.inl (s3.1,wI (s3.2+1))))) else(some (.inr s3.1))
def sa(g:D12G)(device:Int)(n:Int):Option (List DIdent):=
 (xt g).bind λk=>(loop (ub g device) ((-1),0)).bind λa=>(bif decide (Int.tmod n 37=7) then(some (decide (0<a))) else(some false)).bind λb=>bif b then((aS g.L a).bind λc=>(o3 g c.Past).bind λd=>some d) else((bif decide (0<Int.tmod n 3) then(some true) else(some (decide (a<0)))).bind λe=>bif e then(some k) else((aS g.IDs a).bind λf=>(u9 (wI (Int.tdiv n 3)) (ah g.IDs)).bind λh=>(aS g.IDs h).bind λi=>(o3 g [f,i]).bind λj=>some j))
theorem Jv{g device n r}(h:sa g device n=some r):iV prog gl 81 [.agg (aI g),iG device,iG n] 50 r.length (r.flatMap aj):=
 gc func81 h λK=>ak λa e2=>aw [ho 11 [.agg (aI g)] [] (DK gl e2) (kF a)]<|gA 111101 11110122 (λu=>sp [2] [(3,.ref 0 0),(7,.rsl 1 0 a.length),(8,iG u)] [ob 0 31 (aI g),ob 1 50 (a.flatMap aj)] 2) (λs3=>so [0] [(3,.ref 0 0),(7,.rsl 1 0 a.length),(8,iG s3.1),(9,iG s3.2)] [ob 0 31 (aI g),ob 1 50 (a.flatMap aj)] 2) [hc (el a),hc (ac.imm a)] (ρ:=[(0,0),(1,1)]) (kd:=[(1,.row)]) (λu=>cN 1111100 (sf [] []) [hc (el a),hc (ac.imm a)] (ρ:=[(0,0),(1,1)]) (kd:=[(1,.row)])<|cC 1111100 (λb=>sf [] [(34,bG b)]) (λb=>eH [34] (ak λm e16=>ak λo p=>aw [hv 39 (eJ.ixZ e16),hv 41 (eJ.fdZ Pb 4 e16),ho 42 [.agg (aI g),aE aj m.Past] [] (ua gl p) (kF o)]<|mr c0 K (ac.imm _))<|cN 11111100 (sf [34] []) [hc (el a),hc (ac.imm a)] (ρ:=[(0,0),(1,1)]) (kd:=[(1,.row)])<|cC 11111100 (λc=>sf [] [(49,bG c)]) (λc=>eH [49] (mr c0 K (ac.imm _))<|ak λd e=>ak λv q=>ak λf i=>ak λs t=>aw [hv 55 (ac.ixZ e),hv 56 (ac.ptZ aW e),hb 64 (KO q),hv 65 (ac.ixZ i),hv 66 (ac.ptZ aW i),ho 68 [.agg (aI g),aE aj [d,f]] [hc (ac.al [d,f])] (ua gl t) (kF s)]<|mr c0 K (ac.imm _)) λc j=>aF 45 (aA c0 j [hc (el a),hc (ac.imm a)] (ρ:=[(0,0),(1,1)]) (kd:=[(1,.row)]))<|aA c0 j [hc (el a),hc (ac.imm a)] (ρ:=[(0,0),(1,1)]) (kd:=[(1,.row)])) λb k=>aF 30 (aA c0 k [hc (el a),hc (ac.imm a)] (ρ:=[(0,0),(1,1)]) (kd:=[(1,.row)]))<|aA c0 k [hc (el a),hc (ac.imm a)] (ρ:=[(0,0),(1,1)]) (kd:=[(1,.row)])) λs3 k7 k6=>aF 16 (ak λw l=>aw [hv 22 (eJ.ixZ l),hv 24 (eJ.fdZ tZ 0 l)]<|aF 26 (cj k7 [hc (el a),hc (ac.imm a)] (ρ:=[(0,0),(1,1)]) (kd:=[(1,.row)]))<|cj k7 [hc (el a),hc (ac.imm a)] (ρ:=[(0,0),(1,1)]) (kd:=[(1,.row)]))<|aA c1 k6 [hc (el a),hc (ac.imm a)] (ρ:=[(0,0),(1,1)]) (kd:=[(1,.row)])
theorem AQ{g device n r}(h:sa g device n=some r):ba prog gl 81 [.agg (aI g),iG device,iG n] (aE aj r):=(Jv gl h).fn ac.sz (ac.len _) (ac.imm _)
def vC(g:D12G)(ids:List DIdent)(kind:Int)(s1:DIdent×DOp×Int):Option ((DIdent×DOp×Int)⊕((Int×Int×Nat×DOp)⊕(DIdent×DOp))):=
 bif decide (0<=s1.2.2) then(((aS g.L s1.2.2).bind λa=>bif decide (a.Kind=kind) then((aS g.IDs s1.2.2).bind λb=>(jL ids b).bind λc=>some c) else(some false)).bind λd=>bif d then((aS g.IDs s1.2.2).bind λe=>(aS g.L s1.2.2).bind λf=>some (.inr (.inr (e,f)))) else(some (.inl (s1.1,s1.2.1,wI (s1.2.2-1))))) else(some (.inr (.inl (s1.1.By,s1.1.Seq,s1.1.Sum,s1.2.1))))
def nS(g:D12G)(ids:List DIdent)(kind:Int):Option (DIdent×DOp):=
 (loop (vC g ids kind) (⟨0,0,0⟩,⟨0,0,0,0,[],0,0,0,0,[],⟨0,0,0⟩,0,[],[],⟨0,0,0⟩,[],0,0,[],0,[],⟨0,0⟩⟩,wI ((ah g.L)-1))).bind λa=>ma a (λb=>some (⟨0,0,0⟩,⟨0,0,0,0,[],0,0,0,0,[],⟨0,0,0⟩,0,[],[],⟨0,0,0⟩,[],0,0,[],0,[],⟨0,0⟩⟩)) (λq=>some q)
theorem vD{g ids kind r}(h:nS g ids kind=some r):ba prog gl 83 [.agg (aI g),aE aj ids,iG kind] (.tup [.agg (aj r.1),.agg (aJ r.2)]):=
 cy (λr=> .tup [.agg (aj r.1),.agg (aJ r.2)]) func83 h λK=>qf 1101 110122 (λa=>sp [] [(6,.ref 0 0),(7,.ref 1 0)] [ob 0 50 (aj (⟨a.1,a.2.1,a.2.2.1⟩:DIdent)),ob 1 99 (aJ a.2.2.2)] 2) (λs1=>so [0] [(3,.ref 0 0),(6,.ref 1 0),(7,.ref 2 0),(8,iG s1.2.2)] [ob 0 31 (aI g),ob 1 50 (aj s1.1),ob 2 99 (aJ s1.2.1)] 3) [] K (λa=>aP c0 K []) λs1 k5 k k6=>aF 14 (cN 1101221020 (sf [] []) []<|cC 1101221020 (λb=>sf [] [(33,bG b)]) (λb=>eH [33] (ak λl c=>ak λm d=>aw [hv 37 (ac.ixZ c),hv 38 (ac.ptZ aW c),hv 42 (eJ.ixZ d),hv 43 (eJ.ptZ GN d)]<|aP c3 k6 [])<|cj k5 []) λb e=>ak λn f=>aw [hv 20 (eJ.ixZ f),hv 22 (eJ.fdZ tZ 2 f)]<|aF 24 (ak λo i=>ak λp j=>aw [hv 30 (ac.ixZ i),hv 31 (ac.ptZ aW i),hf 32 (jM gl j)]<|aA c0 e [])<|aA c0 e [])<|aA c2 k [] (ρ:=[(0,1),(1,2)])
end
section
set_option maxHeartbeats 2000000
attribute [local irreducible] Tr dz Gp
def uc(n:Int)(s1:List DBox×Int):Option ((List DBox×Int)⊕(List DBox)):=
 bif decide (s1.2<n) then((aT 32 s1.1 [(⟨1,1,wU s1.2,1⟩:DBox)]).bind λa=>some (.inl (a,wI (s1.2+1)))) else(some (.inr s1.1))
def o4(n:Int):Option (List DBox):=
 (loop (uc n) ([],0)).bind λa=>some a
theorem Jw{n r}(h:o4 n=some r):iV prog gl 148 [iG n] 249 r.length (r.flatMap cz):=
 gc func148 h λK=>gA 11101 1110122 (λb=>sp [] [(3,.rsl 0 0 b.length)] [ob 0 249 (b.flatMap cz)] 1) (λs1=>so [] [(3,.rsl 0 0 s1.1.length),(4,iG s1.2)] [ob 0 249 (s1.1.flatMap cz)] 1) [hc (dl.imm [])] (vs:=[249]) (ρ:=[(0,0)]) (kd:=[(0,.row)]) (λb=>mr c0 K (dl.imm _)) λs1 k5 d=>aF 7 (ak λa c=>aw [hv 12 (C8 s1.2),dg 15 dl c]<|cj k5 [hc (el a),hc (dl.imm a)] (ρ:=[(0,2)]) (kd:=[(0,.row)]))<|aA c1 d [hc (el s1.1),hc (dl.imm s1.1)] (ρ:=[(0,0)]) (kd:=[(0,.row)])
theorem ud{n r}(h:o4 n=some r):ba prog gl 148 [iG n] (aE cz r):=(Jw gl h).fn dl.sz (dl.len _) (dl.imm _)
def nT(g:D12G)(device:Int):Option Int:=
 (vz g device).bind λa=>bif(!a.2) then(some 0) else(some a.1.Member)
theorem vE{g device r}(h:nT g device=some r):ba prog gl 149 [.agg (aI g),iG device] (iG r):=
 cy iG func149 h λK=>ak λa e2=>aw [hf 10 (AN gl e2)]<|aF 14 (aP c0 K [])<|aP c0 K []
def vF(n:Int)(s8:List Int×Int):Option ((List Int×Int)⊕(List Int)):=
 bif decide (s8.2<=4) then((Gg n s8.2).bind λa=>bif decide (Int.tmod a 2=0) then((aT 8 s8.1 ([s8.2]:List Int)).bind λb=>some (.inl (b,wI (s8.2+1)))) else(some (.inl (s8.1,wI (s8.2+1))))) else(some (.inr s8.1))
def sc(g:D12G)(ids:List DIdent)(o:DOp)(n:Int):Option DOp:=
 (nS g ids 9).bind λb=>(bif decide (o.Kind≠9) then(some (decide (b.1=(⟨0,0,0⟩:DIdent)))) else(some false):Option Bool).bind λt=>(bif t then(some 9) else(some o.Kind)).bind λa=>bif decide (a=9) then((loop (vF n) ([],1)).bind λs=>(bif decide (ah s=0) then(some ([1,2]:List Int)) else(some s)).bind λc=>(u9 (wI (Int.tdiv n 16)) (iI 2 (ah c))).bind λj=>(o4 (ah c)).bind λk=>some ({o with Kind:=a,Path:=[],Guards:=c,Need:=wI (1+j),Wait:=Int.tmod (wI (Int.tdiv n 32)) 3,Boxes:=k,Pub:=5})) else((nT g b.1.By).bind λd=>(bif decide (a=10) then((o4 (ah b.2.Guards)).bind λl=>some (b.1.By,l)) else(some (o.By,o.Boxes))).bind λf=>(bif decide (a=11) then(some true) else(some (decide (a=13)))).bind λm=>(bif m then((u9 n (ah b.2.Guards)).bind λp=>(aS b.2.Guards p).bind λq=>some (q,wI (d+3))) else(some (f.1,o.Device))).bind λe=>(bif decide (a=11) then((o4 1).bind λr=>some r) else(some f.2)).bind λh=>(bif decide (a=13) then(some d) else(some o.Old)).bind λi=>bif decide (a=12) then(some ({o with By:=d,Kind:=a,Device:=e.2,Old:=i,Path:=[],Of:=b.1,Guards:=[],Boxes:=h})) else(some ({o with By:=e.1,Kind:=a,Device:=e.2,Old:=i,Path:=[],Of:=b.1,Guards:=[],Boxes:=h})))
theorem Fb{g ids o n r}(h:sc g ids o n=some r):ba prog gl 84 [.agg (aI g),aE aj ids,.agg (bF [9,19] (aJ ({o with Path:=[],Guards:=[]}))),iG n] (.agg (bF [9] (aJ ({r with Path:=[]})))):=
 cy (λr=> .agg (bF [9] (aJ ({r with Path:=[]})))) func84 h λK=>ak λc e2=>aw [hf 16 (vD gl e2)]<|cN 11100 (sp [3] [(4,.ref 0 0),(6,.ref 1 0),(8,.ref 2 0),(9,.ref 3 0),(10,.ref 4 0)] [ob 0 31 (aI g),ob 1 99 (bF [9,19] (aJ ({o with Path:=[],Guards:=[]}))),ob 2 99 (bF [4,9,14,15,19,22,24] (aJ ip)),ob 3 50 (aj c.1),ob 4 99 (aJ c.2)] 5) []<|cC 11100 (λy=>sf [] [(26,bG y)]) (λy=>cC 11101 (λb=>so [26] [] [ob 1 99 (bF [9,19] (aJ ({o with Kind:=b,Path:=[],Guards:=[]})))] 5) (λb=>aF 30 (gA 111101301 11110130122 (λz=>sk [3] [(6,.ref 0 0),(8,.ref 1 0)] [ob 0 99 (bF [9] (aJ ({o with Kind:=b,Path:=[],Guards:=z}))),ob 1 99 (bF [4,9,14,15,19,22,24] (aJ ip))] 2) (λs8=>sk [3,8] [(6,.ref 0 0),(11,iG s8.2)] [ob 0 99 [iG o.By,iG o.Seq,iG b,iG o.At,aE aj o.Past,iG o.Device,iG o.Old,iG o.Member,iG o.Role,Iy,iG o.Epoch.By,iG o.Epoch.Seq,uG o.Epoch.Sum,iG o.N,aE cY o.Body,aE cW o.Refs,iG o.Of.By,iG o.Of.Seq,uG o.Of.Sum,.rsl 1 0 s8.1.length,iG o.Need,iG o.Wait,aE cz o.Boxes,uG o.Pub,aE bp o.Hist,uG o.Sig.R,uG o.Sig.S],ob 1 3 (s8.1.flatMap cZ),ob 2 99 (bF [4,9,14,15,19,22,24] (aJ ip))] 3) [hc (rZ.imm [])] (vs:=[3]) (ρ:=[(0,1),(1,5),(2,2)]) (kd:=[(1,.row)]) (λz=>cN 1111013101 (sf [] [(49,bG (decide (ah z=0)))]) []<|cC 1111013101 (λf=>so [49] [] [ob 0 99 (bF [9] (aJ ({o with Kind:=b,Path:=[],Guards:=f})))] 2) (λf=>ak λL A=>ak λM B=>aw [hb 58 (KO A),hf 69 (ud gl B)]<|aP c0 K []) λf k=>eH [49] (aA c0 k [hc (rZ.al ([1,2]:List Int))])<|aA c0 k []) λs8 l k11=>aF 32 (ak λO C=>aw [hb 37 (Tt C)]<|aF 39 (ak λm D=>aw [dg 44 rZ D]<|cj l [hc (el m),hc (rZ.imm m)] (ρ:=[(0,0),(1,4),(2,2)]) (kd:=[(1,.row)]))<|cj l [hc (el s8.1),hc (rZ.imm s8.1)] (ρ:=rI 3) (kd:=[(1,.row)]))<|aA c1 k11 [hc (rZ.al s8.1)] (ρ:=[(0,0),(1,2)]))<|ak λE F=>aw [hf 77 (vE gl F)]<|cN 111111101 (sx [4] [(6,.ref 0 0),(8,.ref 1 0),(9,.ref 2 0),(10,.ref 3 0),(12,iG E),(80,bG (decide (b=10)))] [ob 0 99 (bF [9,19] (aJ ({o with Kind:=b,Path:=[],Of:=c.1,Guards:=[]}))),ob 1 99 (bF [4,9,14,15,19,22,24] (aJ ip)),ob 2 50 (aj c.1),ob 3 99 (aJ c.2)] 4) [] (ρ:=[(0,1),(1,2),(2,3),(3,4)])<|cC 111111101 (λd=>sx [9,80] [(10,.ref 2 0)] [ob 0 99 (bF [9,19] (aJ ({o with By:=d.1,Kind:=b,Path:=[],Of:=c.1,Guards:=[],Boxes:=d.2}))),ob 1 99 (bF [4,9,14,15,19,22,24] (aJ ip)),ob 2 99 (aJ c.2)] 3) (λd=>cN 1111111100 (sf [] []) []<|cC 1111111100 (λi=>sf [] [(96,bG i)]) (λi=>cC 1111111101 (λa=>sx [3,10,96] [] [ob 0 99 (bF [9,19] (aJ ({o with By:=a.1,Kind:=b,Device:=a.2,Path:=[],Of:=c.1,Guards:=[],Boxes:=d.2}))),ob 1 99 (bF [4,9,14,15,19,22,24] (aJ ip))] 2) (λa=>cN 11111111101 (sf [] [(112,bG (decide (b=11)))]) []<|cC 11111111101 (λe=>so [112] [] [ob 0 99 (bF [9,19] (aJ ({o with By:=a.1,Kind:=b,Device:=a.2,Path:=[],Of:=c.1,Guards:=[],Boxes:=e})))] 2) (λe=>cN 111111111101 (sf [] [(117,bG (decide (b=13)))]) []<|cC 111111111101 (λj=>so [117] [] [ob 0 99 (bF [9,19] (aJ ({o with By:=a.1,Kind:=b,Device:=a.2,Old:=j,Path:=[],Of:=c.1,Guards:=[],Boxes:=e})))] 2) (λj=>aF 122 (aP c0 K [])<|aP c0 K []) λj p=>eH [117] (aA c0 p [])<|aA c0 p []) λe q=>eH [112] (ak λP H=>aw [hf 113 (ud gl H)]<|aA c0 q [])<|aA c0 q []) λa s=>eH [96] (ak λQ I=>ak λU t=>aw [hb 103 (KO I),hv 104 (rZ.ixZ t),hv 105 (rZ.p1Z tZ t)]<|aA c0 s [])<|aA c0 s []) λi u=>aF 91 (aA c0 u [])<|aA c0 u []) λd v=>eH [80] (ak λV J=>aw [hf 87 (ud gl J)]<|aA c0 v [] (ρ:=[(0,0),(1,1),(2,3)]))<|aA c0 v [] (ρ:=[(0,0),(1,1),(2,3)])) λb w=>eH [26] (aA c0 w [])<|aA c0 w []) λy x=>aF 21 (aw [hV 25 (dU c.1 (⟨0,0,0⟩:DIdent) rfl)]<|aA c0 x [])<|aA c0 x []
def qK(g:D12G)(ids:List DIdent)(k:List DIdent)(s3:List DIdent×Int):Option ((List DIdent×Int)⊕(List DIdent)):=
 bif decide (s3.2<ah ids) then(((aS ids s3.2).bind λa=>(fC g a).bind λb=>bif decide (0<=b) then((aS ids s3.2).bind λc=>(jL k c).bind λd=>bif(!d) then((aS ids s3.2).bind λe=>(jL s3.1 e).bind λf=>some (!f)) else(some false)) else(some false)).bind λh=>bif h then((aS ids s3.2).bind λi=>(aT 24 s3.1 [i]).bind λj=>some (.inl (j,wI (s3.2+1)))) else(some (.inl (s3.1,wI (s3.2+1))))) else(some (.inr s3.1))
def qL(g:D12G)(ids:List DIdent):Option (List DIdent):=
 (r9 g ids).bind λb=>(loop (qK g ids b) ([],0)).bind λc=>(iu c).bind λa=>some a
theorem G3{g ids r}(h:qL g ids=some r):iV prog gl 86 [.agg (aI g),aE aj ids] 50 r.length (r.flatMap aj):=
 gc func86 h λK=>ak λs e2=>aw [hf 10 (Jt gl e2)]<|gA 111101 11110122 (λj=>sg [] [(6,aE aj j)]) (λs3=>so [0] [(2,.ref 0 0),(5,aE aj s),(6,.rsl 1 0 s3.1.length),(7,iG s3.2)] [ob 0 31 (aI g),ob 1 50 (s3.1.flatMap aj)] 2) [hc (ac.imm [])] (vs:=[50]) (ρ:=[(0,0),(1,1)]) (kd:=[(1,.row)]) (λj=>ak λk l=>aw [ho 50 [aE aj j] [] (iO gl l) (kF k)]<|mr c0 K (ac.imm _)) λs3 k7 k6=>aF 14 (cN 111101221020 (sf [] []) [hc (el s3.1),hc (ac.imm s3.1)] (ρ:=[(0,0),(1,1)]) (kd:=[(1,.row)])<|cC 111101221020 (λa=>sf [] [(41,bG a)]) (λa=>eH [41] (ak λt c=>ak λd m=>aw [hv 45 (ac.ixZ c),hv 46 (ac.ptZ aW c),dg 48 ac m]<|cj k7 [hc (el d),hc (ac.imm d)] (ρ:=[(0,0),(1,3)]) (kd:=[(1,.row)]))<|cj k7 [hc (el s3.1),hc (ac.imm s3.1)] (ρ:=[(0,0),(1,1)]) (kd:=[(1,.row)])) λa b=>ak λu e=>ak λv n=>aw [hv 20 (ac.ixZ e),hv 21 (ac.ptZ aW e),hf 22 (dX gl n)]<|aF 23 (ak λw f=>ak λx o=>aw [hv 28 (ac.ixZ f),hv 29 (ac.ptZ aW f),hf 30 (jM gl o)]<|aF 32 (ak λp i=>ak λy q=>aw [hv 37 (ac.ixZ i),hv 38 (ac.ptZ aW i),hq 39 [aE aj s3.1,.agg (aj p)] [hc (ac.al s3.1)] (jM gl q)]<|aA c0 b [hc (el s3.1),hc (ac.imm s3.1)] (ρ:=[(0,0),(1,1)]) (kd:=[(1,.row)]))<|aA c0 b [hc (el s3.1),hc (ac.imm s3.1)] (ρ:=[(0,0),(1,1)]) (kd:=[(1,.row)]))<|aA c0 b [hc (el s3.1),hc (ac.imm s3.1)] (ρ:=[(0,0),(1,1)]) (kd:=[(1,.row)]))<|aA c1 k6 [hc (ac.al s3.1)]
theorem G4{g ids r}(h:qL g ids=some r):ba prog gl 86 [.agg (aI g),aE aj ids] (aE aj r):=(G3 gl h).fn ac.sz (ac.len _) (ac.imm _)
def xu(ids:List DIdent)(device:Int)(s1:Int×Int):Option ((Int×Int)⊕(Int)):=
 bif decide (s1.2<ah ids) then((aS ids s1.2).bind λa=>bif decide (a.By=device) then((aS ids s1.2).bind λb=>some (.inl (gB s1.1 b.Seq,wI (s1.2+1)))) else(some (.inl (s1.1,wI (s1.2+1))))) else(some (.inr s1.1))
def Fc(g:D12G)(ids:List DIdent)(device:Int):Option Int:=
 (loop (xu ids device) (0,0)).bind λa=>some (wI (a+1))
theorem Na{g ids device r}(h:Fc g ids device=some r):ba prog gl 87 [.agg (aI g),aE aj ids,iG device] (iG r):=
 cy iG func87 h λK=>gA 11101 1110122 (λc=>sg [] [(7,iG c)]) (λs1=>sf [0] [(7,iG s1.1),(8,iG s1.2)]) [] (λc=>aP c0 K []) λs1 k5 d=>aF 12 (ak λe a=>aw [hv 17 (ac.ixZ a),hv 19 (ac.fdZ tZ 0 a)]<|aF 21 (ak λf b=>aw [hv 25 (ac.ixZ b),hv 27 (ac.fdZ tZ 1 b)]<|cj k5 [])<|cj k5 [])<|aA c1 d []
def ue(g:D12G)(ids:List DIdent)(s1:Int×Int):Option ((Int×Int)⊕(Int)):=
 bif decide (s1.2<ah ids) then((aS ids s1.2).bind λb=>(fC g b).bind λa=>bif decide (0<=a) then((aS g.L a).bind λc=>some (.inl (gB s1.1 c.At,wI (s1.2+1)))) else(some (.inl (s1.1,wI (s1.2+1))))) else(some (.inr s1.1))
def z8(g:D12G)(ids:List DIdent):Option Int:=
 (loop (ue g ids) (0,0)).bind λa=>some a
theorem Jx{g ids r}(h:z8 g ids=some r):ba prog gl 88 [.agg (aI g),aE aj ids] (iG r):=
 cy iG func88 h λK=>gA 11101 1110122 (λd=>sg [] [(5,iG d)]) (λs1=>so [0] [(2,.ref 0 0),(5,iG s1.1),(6,iG s1.2)] [ob 0 31 (aI g)] 1) [] (λd=>aP c0 K []) λs1 k5 e=>aF 11 (ak λf a=>ak λi c=>aw [hv 17 (ac.ixZ a),hv 18 (ac.ptZ aW a),hf 19 (dX gl c)]<|aF 21 (ak λj b=>aw [hv 26 (eJ.ixZ b),hv 28 (eJ.fdZ tZ 3 b)]<|cj k5 [])<|cj k5 [])<|aA c1 e []
end
section
set_option maxHeartbeats 2000000
attribute [local irreducible] Tr dz Gp
def sd(g:D12G)(n:Int)(m:Int):Option DOp:=
 (iq n 1000000).bind λk=>(iq m 1000000).bind λc=>(z7 c).bind λP=>bif decide (ah g.L=0) then(some ⟨1,1,1,0,[],0,0,0,0,[],⟨0,0,0⟩,0,[],[],⟨0,0,0⟩,[],Int.tmod k 4,0,[],0,[],⟨0,0⟩⟩) else((bif decide (ah g.L<4) then(some ⟨1,0,2,0,[],wI ((ah g.L)+1),0,0,wI (3-(wI (Int.tdiv (Int.tmod k 5) 4))),[],⟨0,0,0⟩,0,[],[],⟨0,0,0⟩,[],0,0,[],0,[],⟨0,0⟩⟩) else(some ⟨wI (1+(Int.tmod k 5)),0,P,0,[],0,0,0,0,[],⟨0,0,0⟩,0,[],[],⟨0,0,0⟩,[],0,0,[],0,[],⟨0,0⟩⟩):Option DOp).bind λa=>(sa g a.By (wI (Int.tdiv k 5))).bind λA=>(bif decide (ah g.L<4) then((xt g).bind λl=>some l) else(some A)).bind λb=>(nS g b 6).bind λh=>(bif decide (h.1=(⟨0,0,0⟩:DIdent)) then((aS g.IDs 0).bind λf=>some (f.By,f.Seq,f.Sum)) else(some (h.1.By,h.1.Seq,h.1.Sum)):Option (Int×Int×Nat)).bind λd=>(bif decide (a.Kind=2) then((bif decide (4<=ah g.L) then(some (wI (4+(Int.tmod (wI (Int.tdiv c 20)) 3)),wI (1+(Int.tmod (wI (Int.tdiv (wI (Int.tdiv c 20)) 3)) 3)))) else(some (a.Device,a.Role))).bind λo=>some ({a with Past:=[],Device:=o.1,Role:=o.2,Path:=[],Body:=[],Refs:=[],Guards:=[],Boxes:=[],Hist:=[]},b)) else((bif decide (a.Kind=3) then((bif decide (Int.tmod (wI (Int.tdiv c 20)) 5=1) then(some (0,wI (1+(Int.tmod (wI (Int.tdiv (wI (Int.tdiv c 20)) 5)) 3)))) else(some (wI (1+(Int.tmod (wI (Int.tdiv c 20)) 6)),a.Member))).bind λp=>some ({a with Past:=[],Device:=p.1,Member:=p.2,Path:=[],Body:=[],Refs:=[],Guards:=[],Boxes:=[],Hist:=[]},b)) else((bif decide (a.Kind=5) then(some ({a with Past:=[],Member:=wI (1+(Int.tmod (wI (Int.tdiv c 20)) 3)),Role:=wI (1+(Int.tmod (wI (Int.tdiv (wI (Int.tdiv c 20)) 3)) 3)),Path:=[],Body:=[],Refs:=[],Guards:=[],Boxes:=[],Hist:=[]},b)) else((bif decide (a.Kind=6) then((u9 (wI (Int.tdiv c 20)) (iI (ah g.IDs) 4)).bind λB=>(aS g.IDs B).bind λC=>(bif decide (Int.tmod (wI (Int.tdiv c 20)) 3=1) then(some ([wU (Int.tmod (wI (Int.tdiv (wI (Int.tdiv c 20)) 3)) 5),wU (Int.tmod (wI (Int.tdiv (wI (Int.tdiv c 20)) 15)) 5)]:List Nat)) else(some [])).bind λD=>some ({a with Past:=[],Path:=[],Epoch:=C,N:=Int.tmod (wI (Int.tdiv (wI (Int.tdiv c 20)) 4)) 2,Body:=([wY (wI (Int.tdiv c 20)),1,2,3,4,5,6,7,8]:List UInt8),Refs:=D,Guards:=[],Boxes:=[],Hist:=[]},b)) else((bif decide (a.Kind=7) then(some ({a with Past:=[],Path:=[],Body:=([wY (wI (97+(Int.tmod (wI (Int.tdiv c 20)) 3)))]:List UInt8),Refs:=[],Of:=⟨d.1,d.2.1,d.2.2⟩,Guards:=[],Boxes:=[],Hist:=[]},b)) else((bif decide (a.Kind=8) then(some ({a with Past:=[],Path:=[],Body:=[],Refs:=[],Of:=⟨d.1,d.2.1,d.2.2⟩,Guards:=[],Boxes:=[],Hist:=[]},b)) else((bif decide (a.Kind=9) then(some true) else((bif decide (a.Kind=11) then(some true) else((bif decide (a.Kind=13) then(some true) else((bif decide (a.Kind=12) then(some true) else(some (decide (a.Kind=10)))).bind λq=>some q)).bind λr=>some r)).bind λs=>some s)).bind λE=>(bif E then((sc g b ({a with Past:=[],Path:=[],Body:=[],Refs:=[],Guards:=[],Boxes:=[],Hist:=[]}) (wI (Int.tdiv c 20))).bind λi=>(bif decide (i.By≠a.By) then((sa g i.By (wI (Int.tdiv k 5))).bind λt=>some t) else(some b)).bind λF=>some ({i with Path:=[]},F)) else(some ({a with Past:=[],Path:=[],Body:=[],Refs:=[],Guards:=[],Boxes:=[],Hist:=[]},b)):Option (DOp×List DIdent)).bind λu=>some ({u.1 with Path:=[]},u.2)):Option (DOp×List DIdent)).bind λv=>some ({v.1 with Path:=[]},v.2)):Option (DOp×List DIdent)).bind λw=>some ({w.1 with Path:=[]},w.2)):Option (DOp×List DIdent)).bind λx=>some ({x.1 with Path:=[]},x.2)):Option (DOp×List DIdent)).bind λy=>some ({y.1 with Path:=[]},y.2)):Option (DOp×List DIdent)).bind λz=>some ({z.1 with Path:=[]},z.2)):Option (DOp×List DIdent)).bind λe=>(bif(!decide (e.1.Of=(⟨0,0,0⟩:DIdent))) then((jL e.2 e.1.Of).bind λH=>some (!H)) else(some false):Option Bool).bind λI=>(bif I then((xt g).bind λJ=>some J) else(some e.2)).bind λj=>(qL g j).bind λK=>(Fc g j e.1.By).bind λM=>(z8 g j).bind λO=>some ({e.1 with Seq:=M,At:=wI (O+(Int.tmod (wI (Int.tdiv k 5)) 2)),Past:=K,Path:=[]}))
theorem Jy{g n m r}(h:sd g n m=some r):ba prog gl 46 [.agg (aI g),iG n,iG m] (.agg (bF [9] (aJ ({r with Path:=[]})))):=
 cy (λr=> .agg (bF [9] (aJ ({r with Path:=[]})))) func46 h λK=>ak λv1 e2=>ak λa e4=>ak λv5 e6=>aw [hf 15 (iL gl e2),hf 17 (iL gl e4),hf 22 (Js gl e6)]<|aF 28 (aP c0 K [])<|cN 111111101 (sp [] [(1,iG v1),(2,iG a),(3,.ref 0 0),(6,.ref 1 0),(7,.ref 2 0),(8,iG (ah g.L)),(33,bG (decide (ah g.L<4)))] [ob 0 31 (aI g),ob 1 99 (bF [4,9,14,15,19,22,24] (aJ ip)),ob 2 99 (bF [4,9,14,15,19,22,24] (aJ (⟨wI (1+(Int.tmod v1 5)),0,v5,0,[],0,0,0,0,[],⟨0,0,0⟩,0,[],[],⟨0,0,0⟩,[],0,0,[],0,[],⟨0,0⟩⟩:DOp)))] 3) []<|cC 111111101 (λc=>so [33] [] [ob 2 99 (bF [4,9,14,15,19,22,24] (aJ ({c with Past:=[],Path:=[],Body:=[],Refs:=[],Guards:=[],Boxes:=[],Hist:=[]})))] 3) (λc=>ak λv10 e11=>aw [hf 46 (AQ gl e11)]<|cN 11111111101 (sf [] [(9,aE aj v10),(48,bG (decide (ah g.L<4)))]) []<|cC 11111111101 (λj=>sf [48] [(9,aE aj j)]) (λj=>ak λD e15=>aw [hf 54 (vD gl e15),hV 59 (dU D.1 (⟨0,0,0⟩:DIdent) rfl)]<|cN 1111111111101 (so [] [(10,.ref 3 0),(59,bG (decide (D.1=(⟨0,0,0⟩:DIdent))))] [ob 3 50 (aj D.1)] 4) []<|cC 1111111111101 (λd=>so [59] [] [ob 3 50 (aj (⟨d.1,d.2.1,d.2.2⟩:DIdent))] 4) (λd=>cN 11111111111110121 (sf [2] [(12,iG (wI (Int.tdiv a 20))),(67,iG c.Kind),(68,bG (decide (c.Kind=2)))]) []<|cC 11111111111110121 (λb=>sk [1,3,6,7] [(9,aE aj b.2)] [ob 0 31 (aI g),ob 1 99 (bF [4,9,14,15,19,22,24] (aJ ip)),ob 2 99 (bF [9] (aJ ({b.1 with Path:=[]})))] 3) (λb=>cN 1111111111111100 (sf [] []) []<|cC 1111111111111100 (λE=>sf [] [(188,bG E)]) (λE=>cC 1111111111111101 (λF=>sf [188] [(9,aE aj F)]) (λF=>ak λv24 e25=>ak λv26 e27=>ak λv28 e29=>aw [hf 193 (G4 gl e25),hf 199 (Na gl e27),hf 203 (Jx gl e29)]<|aP c0 K []) λF O=>eH [188] (ak λv33 e34=>aw [hf 190 (DL gl e34)]<|aA c0 O [])<|aA c0 O []) λE P=>kV (λH=>ak λv38 e39=>aw [hV 181 (cV (dy b.1.Of (⟨0,0,0⟩:DIdent) rfl) H),hf 186 (jM gl e39)]<|aA c0 P []) λH=>aw [hV 181 (cV (dy b.1.Of (⟨0,0,0⟩:DIdent) rfl) H)]<|aA c0 P []) λb Q=>eH [68] (cC 1111111111111012131 (λk=>sx [8,10,12,67,68] [] [ob 0 31 (aI g),ob 1 99 (bF [4,9,14,15,19,22,24] (aJ ip)),ob 2 99 (bF [4,9,14,15,19,22,24] (aJ ({c with Past:=[],Device:=k.1,Role:=k.2,Path:=[],Body:=[],Refs:=[],Guards:=[],Boxes:=[],Hist:=[]})))] 3) (λk=>aA c0 Q []) λk R=>aF 71 (aA c0 R [])<|aA c0 R [])<|cC 1111111111111012141 (λl=>sk [1,3,6,7] [(9,aE aj l.2)] [ob 0 31 (aI g),ob 1 99 (bF [4,9,14,15,19,22,24] (aJ ip)),ob 2 99 (bF [9] (aJ ({l.1 with Path:=[]})))] 3) (λl=>aA c0 Q []) λl S=>aF 82 (cC 1111111111111012141311 (λo=>sx [8,10,12,67,68] [] [ob 0 31 (aI g),ob 1 99 (bF [4,9,14,15,19,22,24] (aJ ip)),ob 2 99 (bF [4,9,14,15,19,22,24] (aJ ({c with Past:=[],Device:=o.1,Member:=o.2,Path:=[],Body:=[],Refs:=[],Guards:=[],Boxes:=[],Hist:=[]})))] 3) (λo=>aA c0 S []) λo U=>aF 89 (aA c0 U [])<|aA c0 U [])<|cC 111111111111101214141 (λp=>sk [1,3,6,7] [(9,aE aj p.2)] [ob 0 31 (aI g),ob 1 99 (bF [4,9,14,15,19,22,24] (aJ ip)),ob 2 99 (bF [9] (aJ ({p.1 with Path:=[]})))] 3) (λp=>aA c0 S []) λp V=>aF 97 (aA c0 V [])<|cC 11111111111110121414141 (λq=>sk [1,3,6,7] [(9,aE aj q.2)] [ob 0 31 (aI g),ob 1 99 (bF [4,9,14,15,19,22,24] (aJ ip)),ob 2 99 (bF [9] (aJ ({q.1 with Path:=[]})))] 3) (λq=>aA c0 V []) λq W=>aF 108 (ak λq68 e69=>ak λy70 X=>cC 1111111111111012141414131111 (λI=>sx [8,10,12,67,68] [] [ob 0 31 (aI g),ob 1 99 (bF [4,9,14,15,19,22,24] (aJ ip)),ob 2 99 (bF [4,9,19,22,24] (aJ ({c with Past:=[],Path:=[],Epoch:=y70,N:=Int.tmod (wI (Int.tdiv (wI (Int.tdiv a 20)) 4)) 2,Body:=([wY (wI (Int.tdiv a 20)),1,2,3,4,5,6,7,8]:List UInt8),Refs:=I,Guards:=[],Boxes:=[],Hist:=[]})))] 3) (λI=>aA c0 W []) λI Y=>aw [hb 116 (KO e69),hv 117 (ac.ixZ X),hv 118 (ac.ptZ aW X),hv 125 (Iz (wI (Int.tdiv a 20)))]<|aF 130 (aw [hv 134 (C8 (Int.tmod (wI (Int.tdiv (wI (Int.tdiv a 20)) 3)) 5)),hv 138 (C8 (Int.tmod (wI (Int.tdiv (wI (Int.tdiv a 20)) 15)) 5))]<|aA c0 Y [hc (rY.al ([wY (wI (Int.tdiv a 20)),1,2,3,4,5,6,7,8]:List UInt8)),hc (rW.al ([wU (Int.tmod (wI (Int.tdiv (wI (Int.tdiv a 20)) 3)) 5),wU (Int.tmod (wI (Int.tdiv (wI (Int.tdiv a 20)) 15)) 5)]:List Nat))])<|aA c0 Y [hc (rY.al ([wY (wI (Int.tdiv a 20)),1,2,3,4,5,6,7,8]:List UInt8))])<|cC 1111111111111012141414141 (λs=>sk [1,3,6,7] [(9,aE aj s.2)] [ob 0 31 (aI g),ob 1 99 (bF [4,9,14,15,19,22,24] (aJ ip)),ob 2 99 (bF [9] (aJ ({s.1 with Path:=[]})))] 3) (λs=>aA c0 W []) λs Z=>aF 142 (aw [hv 148 (Iz (wI (97+(Int.tmod (wI (Int.tdiv a 20)) 3))))]<|aA c0 Z [hc (rY.al ([wY (wI (97+(Int.tmod (wI (Int.tdiv a 20)) 3)))]:List UInt8))])<|cC 111111111111101214141414141 (λt=>sk [1,3,6,7] [(9,aE aj t.2)] [ob 0 31 (aI g),ob 1 99 (bF [4,9,14,15,19,22,24] (aJ ip)),ob 2 99 (bF [9] (aJ ({t.1 with Path:=[]})))] 3) (λt=>aA c0 Z []) λt k84=>aF 152 (aA c0 k84 [])<|cN 111111111111101214141414141401 (sx [8,10,68] [(155,bG (decide (c.Kind=9)))] [ob 0 31 (aI g),ob 1 99 (bF [4,9,14,15,19,22,24] (aJ ip)),ob 2 99 (bF [4,9,14,15,19,22,24] (aJ ({c with Past:=[],Path:=[],Body:=[],Refs:=[],Guards:=[],Boxes:=[],Hist:=[]})))] 3) []<|cC 111111111111101214141414141401 (λJ=>sf [67] [(155,bG J)]) (λJ=>cC 11111111111110121414141414141 (λu=>so [12,155] [(9,aE aj u.2)] [ob 2 99 (bF [9] (aJ ({u.1 with Path:=[]})))] 3) (λu=>aA c0 k84 []) λu k91=>eH [155] (ak λv94 e95=>cC 111111111111101214141414141413111 (λM=>so [12,155] [(9,aE aj M)] [ob 2 99 (bF [9] (aJ ({v94 with Path:=[]})))] 3) (λM=>aA c0 k91 []) λM k98=>aw [hf 167 (UY [.agg (aI g),aE aj j,.agg (bF [4,9,14,15,19,22,24] (aJ ({c with Past:=[],Path:=[],Body:=[],Refs:=[],Guards:=[],Boxes:=[],Hist:=[]}))),iG (wI (Int.tdiv a 20))] (Fb gl e95))]<|aF 171 (ak λv101 e102=>aw [hf 177 (AQ gl e102)]<|aA c0 k98 [])<|aA c0 k98 [])<|aA c0 k91 []) λJ v=>eH [155] (aA c0 v [])<|cC 11111111111110121414141414140141 (λe=>sf [67] [(155,bG e)]) (λe=>aA c0 v []) λe w=>aF 157 (aA c0 w [])<|cC 1111111111111012141414141414014141 (λf=>sf [67] [(155,bG f)]) (λf=>aA c0 w []) λf x=>aF 158 (aA c0 x [])<|cC 111111111111101214141414141401414141 (λi=>sf [67] [(155,bG i)]) (λi=>aA c0 x []) λi y=>aF 159 (aA c0 y [])<|aA c0 y []) λd z=>eH [59] (ak λy124 A=>aw [hv 62 (ac.ixZ A),hv 63 (ac.ptZ aW A)]<|aA c0 z [])<|aA c0 z []) λj B=>eH [48] (ak λv129 e130=>aw [hf 50 (DL gl e130)]<|aA c0 B [])<|aA c0 B []) λc C=>eH [33] (aA c0 C [])<|aA c0 C []
def uf(ids:List DIdent)(device:Int)(seq:Int)(s1:Int×Int):Option ((Int×Int)⊕(Int)):=
 bif decide (s1.2<ah ids) then(((aS ids s1.2).bind λa=>bif decide (a.By=device) then((aS ids s1.2).bind λb=>some (decide (b.Seq=seq))) else(some false)).bind λc=>bif c then(some (.inl (wI (s1.1+1),wI (s1.2+1)))) else(some (.inl (s1.1,wI (s1.2+1))))) else(some (.inr s1.1))
def z9(ids:List DIdent)(device:Int)(seq:Int):Option Int:=
 (loop (uf ids device seq) (0,0)).bind λa=>some a
theorem Jz{ids device seq r}(h:z9 ids device seq=some r):ba prog gl 205 [aE aj ids,iG device,iG seq] (iG r):=
 cy iG func205 h λK=>gA 11101 1110122 (λe=>sg [] [(7,iG e)]) (λs1=>sf [] [(7,iG s1.1),(8,iG s1.2)]) [] (λe=>aP c0 K []) λs1 k5 f=>aF 12 (cN 11101221020 (sf [] []) []<|cC 11101221020 (λa=>sf [] [(30,bG a)]) (λa=>eH [30] (cj k5 [])<|cj k5 []) λa b=>ak λg c=>aw [hv 17 (ac.ixZ c),hv 19 (ac.fdZ tZ 0 c)]<|aF 21 (ak λi d=>aw [hv 25 (ac.ixZ d),hv 27 (ac.fdZ tZ 1 d)]<|aA c0 b [])<|aA c0 b [])<|aA c1 f []
def qM(ids:List DIdent)(device:Int)(s1:Int×Int):Option ((Int×Int)⊕(Int)):=
 bif decide (s1.2<ah ids) then((aS ids s1.2).bind λa=>(z9 ids device a.Seq).bind λb=>((aS ids s1.2).bind λc=>bif decide (c.By=device) then(bif decide (1<b) then(bif decide (s1.1=0) then(some true) else((aS ids s1.2).bind λd=>some (decide (d.Seq<s1.1)))) else(some false)) else(some false)).bind λe=>bif e then((aS ids s1.2).bind λf=>some (.inl (f.Seq,wI (s1.2+1)))) else(some (.inl (s1.1,wI (s1.2+1))))) else(some (.inr s1.1))
def qN(ids:List DIdent)(device:Int):Option Int:=
 (loop (qM ids device) (0,0)).bind λa=>some a
theorem yF{ids device r}(h:qN ids device=some r):ba prog gl 151 [aE aj ids,iG device] (iG r):=
 cy iG func151 h λK=>gA 11101 1110122 (λj=>sg [] [(5,iG j)]) (λs1=>sf [] [(5,iG s1.1),(6,iG s1.2)]) [] (λj=>aP c0 K []) λs1 k5 k=>aF 11 (ak λl c=>ak λg i=>aw [hv 18 (ac.ixZ c),hv 20 (ac.fdZ tZ 1 c),hf 21 (Jz gl i)]<|cN 111012210210 (sf [] [(7,iG g)]) []<|cC 111012210210 (λb=>sf [7] [(45,bG b)]) (λb=>eH [45] (ak λm d=>aw [hv 48 (ac.ixZ d),hv 50 (ac.fdZ tZ 1 d)]<|cj k5 [])<|cj k5 []) λb a=>ak λn e=>aw [hv 24 (ac.ixZ e),hv 26 (ac.fdZ tZ 0 e)]<|aF 28 (aF 32 (aF 35 (aA c0 a [])<|ak λo f=>aw [hv 39 (ac.ixZ f),hv 41 (ac.fdZ tZ 1 f)]<|aA c0 a [])<|aA c0 a [])<|aA c0 a [])<|aA c1 k []
def AR(c:D15R)(device:Int)(s1:Int):Option ((Int)⊕(Unit⊕Int)):=
 bif decide (s1<ah c.Cards) then((aS c.Cards s1).bind λa=>bif decide (a.Device=device) then((aS c.Cards s1).bind λb=>some (.inr (.inr b.Member))) else(some (.inl (wI (s1+1))))) else(some (.inr (.inl ())))
def gE(c:D15R)(device:Int):Option Int:=
 (loop (AR c device) 0).bind λa=>ma a (λb=>some 0) (λq=>some q)
theorem c9{r_ device r}(h:gE r_ device=some r):ba prog gl 209 [.agg (aU r_),iG device] (iG r):=
 cy iG func209 h λK=>qf 1101 110122 (λc=>sg [] []) (λs1=>so [0] [(2,.ref 0 0),(5,iG s1)] [ob 0 231 (aU r_)] 1) [] K (λc=>aP c0 K []) λs1 k5 d k6=>aF 10 (ak λe a=>aw [hv 16 (bT.ixZ a),hv 18 (bT.fdZ tZ 0 a)]<|aF 20 (ak λf b=>aw [hv 24 (bT.ixZ b),hv 26 (bT.fdZ tZ 1 b)]<|aP c3 k6 [])<|cj k5 [])<|aA c2 d []
def o5(b:D15R)(n:Int)(s1:Int):Option ((Int)⊕(Unit⊕Int)):=
 bif decide (s1<ah b.L) then((aS b.L s1).bind λa=>bif decide (a.N=n) then(some (.inr (.inr s1))) else(some (.inl (wI (s1+1))))) else(some (.inr (.inl ())))
def dS(c:D15R)(n:Int):Option Int:=
 (loop (o5 c n) 0).bind λa=>ma a (λb=>some (-1)) (λq=>some q)
theorem dA{r_ n r}(h:dS r_ n=some r):ba prog gl 213 [.agg (aU r_),iG n] (iG r):=
 cy iG func213 h λK=>qf 1101 110122 (λb=>sg [] []) (λs1=>so [0] [(2,.ref 0 0),(5,iG s1)] [ob 0 231 (aU r_)] 1) [] K (λb=>aP c0 K []) λs1 k5 c k6=>aF 10 (ak λd a=>aw [hv 16 (bI.ixZ a),hv 18 (bI.fdZ tZ 0 a)]<|aF 20 (aP c3 k6 [])<|cj k5 [])<|aA c2 c []
def se(b:D15R)(n:Int):Option Int:=
 (dS b n).bind λa=>bif decide (a<0) then(some 0) else((aS b.L a).bind λc=>some c.Role)
theorem ug{r_ n r}(h:se r_ n=some r):ba prog gl 210 [.agg (aU r_),iG n] (iG r):=
 cy iG func210 h λK=>ak λa e2=>aw [hf 8 (dA gl e2)]<|aF 10 (aP c0 K [])<|ak λb e5=>aw [hv 14 (bI.ixZ e5),hv 16 (bI.fdZ tZ 1 e5)]<|aP c0 K []
def Fd(b:D15R)(device:Int):Option Bool:=
 ((fb b.In device).bind λc=>bif c then(some true) else((fb b.Gone device).bind λa=>some a)).bind λd=>some d
theorem Nb{r_ device r}(h:Fd r_ device=some r):ba prog gl 313 [.agg (aU r_),iG device] (bG r):=
 cy bG func313 h λK=>cN [1,0] (so [0] [(2,.ref 0 0)] [ob 0 231 (aU r_)] 1) []<|cC [1,0] (λa=>sk [] [(4,bG a)] [] 0) (λa=>aP c0 K []) λa k5=>ak λe e8=>kV (λb=>aw [hf 8 (cF (ci gl e8) b)]<|aA c0 k5 []) λb=>ak λd c=>aw [hf 8 (cF (ci gl e8) b),hf 13 (ci gl c)]<|aA c0 k5 []
def nW(a:D15R)(device:Int):Option Bool:=
 (Fd a device).bind λb=>((gE a device).bind λc=>bif decide (0<c) then(some (!b)) else(some false)).bind λd=>some d
theorem qO{r_ device r}(h:nW r_ device=some r):ba prog gl 211 [.agg (aU r_),iG device] (bG r):=
 cy bG func211 h λK=>ak λb e2=>aw [hf 8 (Nb gl e2)]<|cN 1110 (so [0] [(2,.ref 0 0),(5,bG b)] [ob 0 231 (aU r_)] 1) []<|cC 1110 (λa=>sk [] [(4,bG a)] [] 0) (λa=>aP c0 K []) λa k7=>ak λc e10=>aw [hf 11 (c9 gl e10)]<|aF 12 (aA c0 k7 [])<|aA c0 k7 []
def nX(a:D15R)(device:Int)(role:Int):Option D15R:=
 (nW a device).bind λh=>bif(!h) then(some a) else((aT 8 ([]:List Int) a.In).bind λi=>(aT 8 i ([device]:List Int)).bind λb=>(gE ({a with In:=b}) device).bind λg=>(dS ({a with In:=b}) g).bind λc=>bif decide (c<0) then(((aT 104 ([]:List D15M) a.L).bind λd=>(aT 104 d [(⟨g,role,false,⟨0,0,0⟩,[],0,0,false,0⟩:D15M)]).bind λe=>some e:Option (List D15M)).bind λf=>some ({a with In:=b,L:=f})) else(some ({a with In:=b})))
theorem qP{r_ device role r}(h:nX r_ device role=some r):ba prog gl 216 [.agg (aU r_),iG device,iG role] (.agg (aU r)):=
 cy (λr=> .agg (aU r)) func216 h λK=>ak λl e2=>aw [hf 11 (qO gl e2)]<|aF 13 (aP c0 K [])<|ak λm e5=>ak λb e7=>ak λc e9=>ak λk f=>aw [eu 18 rZ e5,dg 21 rZ e7,hq 25 [.agg (aU ({r_ with In:=b})),iG device] [hc (rZ.al b)] (c9 gl e9),hq 28 [.agg (aU ({r_ with In:=b})),iG c] [hc (rZ.al b)] (dA gl f)]<|aF 29 (cN 111111013 (sp [2] [(3,.ref 0 0),(6,.ref 1 0),(8,iG c)] [ob 0 231 (aU ({r_ with In:=b})),ob 1 231 (bF [0,1,2,3,5] (aU eY))] 2) [hc (rZ.al b)]<|cC 111111013 (λa=>sp [3] [(6,.ref 2 0)] [ob 0 231 [aE bv r_.Cards,aE cZ b,aE cZ r_.Gone,.rsl 1 0 a.length,iG r_.Back,aE nJ r_.V],ob 1 289 (a.flatMap jG),ob 2 231 (bF [0,1,2,3,5] (aU eY))] 3) (λa=>aP c0 K [hc (bI.al a)]) λa g=>ak λi j=>ak λd e=>aw [eu 33 bI j,Tv 38 bI e [iG c,iG role,bG false,iG 0,iG 0,uG 0,Iy,iG 0,iG 0,bG false,iG 0] rfl]<|aA c0 g [hc (el d),ZV bI e [iG c,iG role,bG false,iG 0,iG 0,uG 0,Iy,iG 0,iG 0,bG false,iG 0]] (ρ:=[(0,0),(1,5),(2,1)]) (kd:=[(1,.app (i.flatMap jG) [iG c,iG role,bG false,iG 0,iG 0,uG 0,Iy,iG 0,iG 0,bG false,iG 0] (jG (⟨c,role,false,⟨0,0,0⟩,[],0,0,false,0⟩:D15M)) (d.flatMap jG))]))<|aP c0 K [hc (rZ.al b)]
def qQ(d:D15R)(e:DIdent)(s1:Int):Option ((Int)⊕(Unit⊕Int)):=
 bif decide (s1<ah d.L) then(((aS d.L s1).bind λa=>bif a.Is then((aS d.L s1).bind λb=>some (decide (b.ID=e))) else(some false)).bind λc=>bif c then(some (.inr (.inr s1))) else(some (.inl (wI (s1+1))))) else(some (.inr (.inl ())))
def jN(d:D15R)(a:DIdent):Option Int:=
 (loop (qQ d a) 0).bind λb=>ma b (λc=>some (-1)) (λq=>some q)
theorem mA{r_ id_ r}(h:jN r_ id_=some r):ba prog gl 221 [.agg (aU r_),.agg (aj id_)] (iG r):=
 cy iG func221 h λK=>qf 1101 110122 (λf=>sg [] []) (λs1=>sp [] [(2,.ref 0 0),(3,.ref 1 0),(5,iG s1)] [ob 0 231 (aU r_),ob 1 50 (aj id_)] 2) [] K (λf=>aP c0 K []) λs1 k5 i k6=>aF 10 (cN 1101221020 (sf [] []) []<|cC 1101221020 (λa=>sf [] [(28,bG a)]) (λa=>eH [28] (aP c3 k6 [])<|cj k5 []) λa d=>ak λj b=>aw [hv 16 (bI.ixZ b)]<|kV (λc=>ak λg e=>aw [hv 18 (cB (bI.fdZ tO 2 b) c),hv 23 (bI.ixZ e),hv 25 (bI.fsZ aW jz 3 a9 e),hV 27 (dU g.ID id_ rfl)]<|aA c0 d []) λc=>aw [hv 18 (cB (bI.fdZ tO 2 b) c)]<|aA c0 d [])<|aA c2 i []
end
section
set_option maxHeartbeats 2000000
attribute [local irreducible] Tr dz Gp
def uh(b:D15R)(i:List Int×Bool)(c:List Int)(d:List D15M×List D15V)(a:List D15V×Int):Option ((List D15V×Int)⊕(List D15V)):=
 bif decide (a.2<ah b.V) then((aS b.V a.2).bind λe=>(jN ({b with In:=i.1,Gone:=c,L:=d.1}) e.Of).bind λf=>bif decide (0<=f) then((aS b.V a.2).bind λg=>(aT 48 a.1 [g]).bind λh=>some (.inl (h,wI (a.2+1)))) else(some (.inl (a.1,wI (a.2+1))))) else(some (.inr a.1))
def ui(e:D15R)(f:Int)(a:List D15M×List D15V×Int):Option ((List D15M×List D15V×Int)⊕(List D15M×List D15V)):=
 bif decide (a.2.2<ah e.L) then((aS e.L a.2.2).bind λb=>bif decide (b.N≠f) then((aS e.L a.2.2).bind λc=>(aT 104 a.1 [c]).bind λd=>some (.inl (d,a.2.1,wI (a.2.2+1)))) else(some (.inl (a.1,a.2.1,wI (a.2.2+1))))) else(some (.inr (a.1,a.2.1)))
def uj(b:D15R)(device:Int)(i:Int)(a:List Int×Bool×Int):Option ((List Int×Bool×Int)⊕(List Int×Bool)):=
 bif decide (a.2.2<ah b.In) then((aS b.In a.2.2).bind λc=>bif decide (c≠device) then((aS b.In a.2.2).bind λd=>(aT 8 a.1 ([d]:List Int)).bind λe=>(bif a.2.1 then(some true) else((aS b.In a.2.2).bind λf=>(gE b f).bind λg=>some (decide (g=i)))).bind λh=>some (.inl (e,h,wI (a.2.2+1)))) else(some (.inl (a.1,a.2.1,wI (a.2.2+1))))) else(some (.inr (a.1,a.2.1)))
def sh(a:D15R)(device:Int):Option D15R:=
 (fb a.In device).bind λh=>bif(!h) then(some a) else((gE a device).bind λg=>(loop (uj a device g) ([],false,0)).bind λd=>(aT 8 ([]:List Int) a.Gone).bind λe=>(aT 8 e ([device]:List Int)).bind λb=>bif d.2 then(some ({a with In:=d.1,Gone:=b})) else((loop (ui a g) ([],[],0)).bind λc=>(loop (uh a d b c) (c.2,0)).bind λf=>some ⟨a.Cards,d.1,b,c.1,a.Back,f⟩))
theorem AS{r_ device r}(h:sh r_ device=some r):ba prog gl 217 [.agg (aU r_),iG device] (.agg (aU r)):=
 cy (λr=> .agg (aU r)) func217 h λK=>ak λU e2=>aw [hf 16 (ci gl e2)]<|aF 17 (aP c0 K [])<|ak λF e5=>aw [hf 21 (c9 gl e5)]<|gA 11111101 1111110122 (λg=>so [0] [(2,.ref 0 0),(4,.ref 1 0),(5,iG F),(6,aE cZ g.1),(7,bG g.2)] [ob 0 231 (aU r_),ob 1 231 (bF [0,1,2,3,5] (aU eY))] 2) (λf=>so [0] [(2,.ref 0 0),(4,.ref 1 0),(5,iG F),(6,.rsl 2 0 f.1.length),(7,bG f.2.1),(8,iG f.2.2)] [ob 0 231 (aU r_),ob 1 231 (bF [0,1,2,3,5] (aU eY)),ob 2 3 (f.1.flatMap cZ)] 3) [hc (rZ.imm [])] (vs:=[3]) (ρ:=rI 3) (kd:=[(2,.row)]) (λg=>ak λH e16=>ak λe x=>aw [eu 61 rZ e16,dg 64 rZ x]<|aF 66 (aP c0 K [hc (rZ.al e)])<|gA 11111111111101 1111111111110122 (λc=>sp [2,4] [(9,aE jG c.1),(10,.rsl 2 0 c.2.length)] [ob 0 231 (aU ({r_ with In:=g.1,Gone:=e})),ob 2 371 (c.2.flatMap nJ)] 3) (λa=>so [1,6,7] [(9,.rsl 2 0 a.1.length),(10,.rsl 3 0 a.2.1.length),(11,iG a.2.2)] [ob 0 231 (aU ({r_ with In:=g.1,Gone:=e})),ob 2 289 (a.1.flatMap jG),ob 3 371 (a.2.1.flatMap nJ)] 4) [hc (rZ.al e),hc (bI.imm []),hc (bV.imm [])] (vs:=[289,371]) (ρ:=[(0,0),(1,1),(2,6),(3,7)]) (kd:=[(2,.row),(3,.row)]) (λc=>gA 1111111111111101 111111111111110122 (λj=>sx [9] [(10,aE nJ j)] [ob 0 231 (aU ({r_ with In:=g.1,Gone:=e,L:=c.1})),ob 1 231 (bF [0,1,2,3,5] (aU eY))] 2) (λd=>so [9] [(10,.rsl 2 0 d.1.length),(12,iG d.2)] [ob 0 231 (aU ({r_ with In:=g.1,Gone:=e,L:=c.1})),ob 2 371 (d.1.flatMap nJ)] 3) [hc (el c.2),hc (bV.imm c.2)] (ρ:=rI 3) (kd:=[(2,.row)]) (λj=>aP c0 K []) λd k y=>aF 97 (ak λI l=>ak λJ z=>aw [hv 104 (bV.ixZ l),hv 106 (bV.fsZ aW jz 0 a9 l),hf 107 (mA gl z)]<|aF 108 (ak λM m=>ak λn A=>aw [hv 113 (bV.ixZ m),hv 114 (bV.ptZ Pd m),dg 116 bV A]<|cj k [hc (el n),hc (bV.imm n)] (ρ:=[(0,0),(1,1),(2,4)]) (kd:=[(2,.row)]))<|cj k [hc (el d.1),hc (bV.imm d.1)] (ρ:=rI 3) (kd:=[(2,.row)]))<|aA c1 y [hc (bV.al d.1)]) λa o B=>aF 72 (ak λN p=>aw [hv 78 (bI.ixZ p),hv 80 (bI.fdZ tZ 0 p)]<|aF 82 (ak λO q=>ak λs C=>aw [hv 87 (bI.ixZ q),hv 88 (bI.ptZ LG q),dg 90 bI C]<|cj o [hc (el s),hc (el a.2.1),hc (bI.imm s),hc (bV.imm a.2.1)] (ρ:=[(0,0),(1,1),(2,5),(3,3)]) (kd:=[(2,.row),(3,.row)]))<|cj o [hc (el a.1),hc (el a.2.1),hc (bI.imm a.1),hc (bV.imm a.2.1)] (ρ:=rI 4) (kd:=[(2,.row),(3,.row)]))<|aA c1 B [hc (bI.al a.1),hc (el a.2.1),hc (bV.imm a.2.1)] (ρ:=[(0,0),(1,1),(2,3)]) (kd:=[(2,.row)])) λf k10 k9=>aF 26 (ak λP t=>aw [hv 32 (rZ.ixZ t),hv 33 (rZ.p1Z tZ t)]<|aF 35 (ak λQ u=>ak λb D=>aw [hv 40 (rZ.ixZ u),hv 41 (rZ.p1Z tZ u),dg 43 rZ D]<|cN 1111110122102131 (so [] [(6,.rsl 2 0 b.length)] [ob 2 3 (b.flatMap cZ)] 3) [hc (el b),hc (rZ.imm b)] (ρ:=[(0,0),(1,1),(2,4)]) (kd:=[(2,.row)])<|cC 1111110122102131 (λi=>sf [] [(7,bG i)]) (λi=>cj k10 [hc (el b),hc (rZ.imm b)] (ρ:=rI 3) (kd:=[(2,.row)])) λi v=>aF 44 (aA c0 v [hc (el b),hc (rZ.imm b)] (ρ:=rI 3) (kd:=[(2,.row)]))<|ak λR w=>ak λS E=>aw [hv 50 (rZ.ixZ w),hv 51 (rZ.p1Z tZ w),hf 52 (c9 gl E)]<|aA c0 v [hc (el b),hc (rZ.imm b)] (ρ:=rI 3) (kd:=[(2,.row)]))<|cj k10 [hc (el f.1),hc (rZ.imm f.1)] (ρ:=rI 3) (kd:=[(2,.row)]))<|aA c1 k9 [hc (rZ.al f.1)]
def o6(l:List D15M)(at_:Int)(m:D15M):Option (List D15M):=
 (aT 104 ([]:List D15M) l).bind λa=>(ji a at_ m).bind λb=>some b
theorem JA{l at_ m r}(h:o6 l at_ m=some r):iV prog gl 218 [aE jG l,iG at_,.agg (jG m)] 289 r.length (r.flatMap jG):=
 gc func218 h λK=>ak λb e2=>ak λa e4=>aw [wX 10 bI e2,hv 14 (bI.ixsZ 1 e4),hw 14 (a.flatMap jG) (bI.putZ e4)]<|mr c0 K (bI.imm _) _ (hZ e4)
theorem uk{l at_ m r}(h:o6 l at_ m=some r):ba prog gl 218 [aE jG l,iG at_,.agg (jG m)] (aE jG r):=(JA gl h).fn bI.sz (bI.len _) (bI.imm _)
def ni(b:D15R)(c:List D15M)(a:List D15V×Int):Option ((List D15V×Int)⊕(List D15V)):=
 bif decide (a.2<ah b.V) then((aS b.V a.2).bind λd=>(jN ({b with L:=c}) d.Of).bind λe=>bif decide (0<=e) then((aS b.V a.2).bind λf=>(aT 48 a.1 [f]).bind λg=>some (.inl (g,wI (a.2+1)))) else(some (.inl (a.1,wI (a.2+1))))) else(some (.inr a.1))
def o7(a:D15R)(o:DOp)(e:DIdent):Option D15R:=
 (gE a o.By).bind λf=>(dS a f).bind λc=>bif decide (c<0) then(some a) else((aS a.L c).bind λg=>(aS a.L c).bind λh=>(o6 a.L c (⟨g.N,h.Role,true,e,o.Guards,o.Need,o.Wait,false,0⟩:D15M)).bind λb=>(loop (ni a b) ([],0)).bind λd=>some ({a with L:=b,V:=d}))
theorem Df{r_ o id_ r}(h:o7 r_ o id_=some r):ba prog gl 219 [.agg (aU r_),.agg (aJ o),.agg (aj id_)] (.agg (aU r)):=
 cy (λr=> .agg (aU r)) func219 h λK=>ak λq e2=>ak λs e4=>aw [hf 14 (c9 gl e2),hf 15 (dA gl e4)]<|aF 17 (aP c0 K [])<|ak λt e7=>ak λu e9=>ak λb i=>aw [hv 25 (bI.ixZ e7),hv 27 (bI.fdZ tZ 0 e7),hv 31 (bI.ixZ e9),hv 33 (bI.fdZ tZ 1 e9),hf 42 (uk gl i)]<|gA 11111101 1111110122 (λc=>sp [] [(3,.ref 0 0),(6,.ref 1 0),(8,aE nJ c)] [ob 0 231 (aU ({r_ with L:=b})),ob 1 231 (bF [0,1,2,3,5] (aU eY))] 2) (λa=>sp [] [(3,.ref 0 0),(6,.ref 1 0),(8,.rsl 2 0 a.1.length),(9,iG a.2)] [ob 0 231 (aU ({r_ with L:=b})),ob 1 231 (bF [0,1,2,3,5] (aU eY)),ob 2 371 (a.1.flatMap nJ)] 3) [hc (bV.imm [])] (vs:=[371]) (ρ:=[(0,0),(1,3),(2,4)]) (kd:=[(2,.row)]) (λc=>aP c0 K []) λa d j=>aF 48 (ak λm e=>ak λn k=>aw [hv 55 (bV.ixZ e),hv 57 (bV.fsZ aW jz 0 a9 e),hf 58 (mA gl k)]<|aF 59 (ak λp f=>ak λg l=>aw [hv 64 (bV.ixZ f),hv 65 (bV.ptZ Pd f),dg 67 bV l]<|cj d [hc (el g),hc (bV.imm g)] (ρ:=[(0,0),(1,1),(2,4)]) (kd:=[(2,.row)]))<|cj d [hc (el a.1),hc (bV.imm a.1)] (ρ:=rI 3) (kd:=[(2,.row)]))<|aA c1 j [hc (bV.al a.1)]
def nY(b:D15R)(o:DOp):Option (Int×Int):=
 (jN b o.Of).bind λa=>bif decide (a<0) then(some ((-1),25)) else((aS b.L a).bind λc=>(fb c.Guards o.By).bind λd=>bif(!d) then(some ((-1),14)) else(some (a,0)))
theorem vG{r_ o r}(h:nY r_ o=some r):ba prog gl 314 [.agg (aU r_),.agg (aJ o)] (.tup [iG r.1,iG r.2]):=
 cy (λr=> .tup [iG r.1,iG r.2]) func314 h λK=>ak λa e2=>aw [hf 10 (mA gl e2)]<|aF 12 (aP c0 K [])<|ak λb e5=>ak λc e7=>aw [hv 16 (bI.ixZ e5),hv 18 (bI.fdZ Vs 6 e5),hf 21 (ci gl e7)]<|aF 22 (aP c0 K [])<|aP c0 K []
def nj(b:D15R)(o:DOp)(a:Int×List D15V×Int):Option ((Int×List D15V×Int)⊕(Int×List D15V)):=
 bif decide (a.2.2<ah b.V) then(((aS b.V a.2.2).bind λc=>bif decide (c.Of=o.Of) then((aS b.V a.2.2).bind λd=>bif decide (d.By=o.By) then((aS b.V a.2.2).bind λe=>some (decide (e.Device=o.Device))) else(some false)) else(some false)).bind λf=>bif f then((aS b.V a.2.2).bind λg=>some (.inl (iI a.1 g.At,a.2.1,wI (a.2.2+1)))) else((aS b.V a.2.2).bind λh=>(aT 48 a.2.1 [h]).bind λi=>some (.inl (a.1,i,wI (a.2.2+1))))) else(some (.inr (a.1,a.2.1)))
def o8(a:D15R)(o:DOp):Option D15R:=
 (nY a o).bind λd=>bif decide (d.2≠0) then(some a) else((loop (nj a o) (o.At,[],0)).bind λc=>(aT 48 c.2 [{o with At:=c.1}]).bind λb=>some ({a with V:=b}))
theorem Dg{r_ o r}(h:o8 r_ o=some r):ba prog gl 220 [.agg (aU r_),.agg (aJ o)] (.agg (aU r)):=
 cy (λr=> .agg (aU r)) func220 h λK=>ak λx e2=>aw [hf 13 (vG gl e2)]<|aF 17 (aP c0 K [])<|gA 11111101 1111110122 (λm=>sp [] [(2,.ref 0 0),(4,.ref 1 0),(7,.ref 2 0),(8,.rsl 3 0 m.2.length)] [ob 0 231 (aU r_),ob 1 231 (bF [0,1,2,3,5] (aU eY)),ob 2 371 (nJ ({o with At:=m.1})),ob 3 371 (m.2.flatMap nJ)] 4) (λa=>sp [] [(2,.ref 0 0),(4,.ref 1 0),(7,.ref 2 0),(8,.rsl 3 0 a.2.1.length),(9,iG a.2.2)] [ob 0 231 (aU r_),ob 1 231 (bF [0,1,2,3,5] (aU eY)),ob 2 371 (nJ ({o with At:=a.1})),ob 3 371 (a.2.1.flatMap nJ)] 4) [hc (bV.imm [])] (vs:=[371]) (ρ:=[(0,0),(1,2),(2,3),(3,4)]) (kd:=[(3,.row)]) (λm=>ak λn p=>aw [dg 87 bV p]<|aP c0 K [hc (bV.al n)]) λa s k7=>aF 32 (cN 11111101221020 (sf [] []) [hc (el a.2.1),hc (bV.imm a.2.1)] (ρ:=rI 4) (kd:=[(3,.row)])<|cC 11111101221020 (λb=>sf [] [(65,bG b)]) (λb=>eH [65] (ak λt e=>aw [hv 71 (bV.ixZ e),hv 73 (bV.fdZ tZ 5 e)]<|cj s [hc (el a.2.1),hc (bV.imm a.2.1)] (ρ:=rI 4) (kd:=[(3,.row)]))<|ak λu f=>ak λg q=>aw [hv 80 (bV.ixZ f),hv 81 (bV.ptZ Pd f),dg 83 bV q]<|cj s [hc (el g),hc (bV.imm g)] (ρ:=rI 3++[(3,5)]) (kd:=[(3,.row)])) λb c=>ak λi j=>aw [hv 38 (bV.ixZ j),hv 40 (bV.fsZ aW jz 0 a9 j)]<|kV (λd=>ak λv k=>aw [hV 43 (cV (dU i.Of o.Of rfl) d),hv 48 (bV.ixZ k),hv 50 (bV.fdZ tZ 3 k)]<|aF 54 (ak λw l=>aw [hv 59 (bV.ixZ l),hv 61 (bV.fdZ tZ 4 l)]<|aA c0 c [hc (el a.2.1),hc (bV.imm a.2.1)] (ρ:=rI 4) (kd:=[(3,.row)]))<|aA c0 c [hc (el a.2.1),hc (bV.imm a.2.1)] (ρ:=rI 4) (kd:=[(3,.row)])) λd=>aw [hV 43 (cV (dU i.Of o.Of rfl) d)]<|aA c0 c [hc (el a.2.1),hc (bV.imm a.2.1)] (ρ:=rI 4) (kd:=[(3,.row)]))<|aA c1 k7 [hc (el a.2.1),hc (bV.imm a.2.1)] (ρ:=rI 4) (kd:=[(3,.row)])
def AT(b:List Int)(a:D15R×Int):Option ((D15R×Int)⊕(D15R)):=
 bif decide (a.2<ah b) then((aS b a.2).bind λc=>(sh a.1 c).bind λd=>some (.inl (d,wI (a.2+1)))) else(some (.inr a.1))
def Pj(b:D15R)(o:DOp)(a:List Int×Int):Option ((List Int×Int)⊕(List Int)):=
 bif decide (a.2<ah b.In) then((aS b.In a.2).bind λc=>(gE b c).bind λd=>bif decide (d=o.Member) then((aS b.In a.2).bind λe=>(aT 8 a.1 ([e]:List Int)).bind λf=>some (.inl (f,wI (a.2+1)))) else(some (.inl (a.1,wI (a.2+1))))) else(some (.inr a.1))
def DM(a:D15R)(o:DOp)(E:DIdent):Option D15R:=
 (gE a o.By).bind λF=>(dS a F).bind λd=>bif decide (o.Kind=1) then((bif decide (0<ah a.In) then(some true) else(bif decide (0<ah a.Gone) then(some true) else((gE a o.By).bind λm=>some (decide (m=0))))).bind λH=>bif H then(some a) else((nX a o.By 3).bind λI=>some ({I with Back:=o.Need}))) else(bif decide (o.Kind=2) then((nX a o.Device o.Role).bind λn=>some n) else(bif decide (o.Kind=3) then((bif decide (o.Device=0) then((loop (Pj a o) ([],0)).bind λp=>some (.inl p)) else(some (.inl ([o.Device]:List Int))):Option ((List Int)⊕D15R)).bind λq=>ma q (λe=>(loop (AT e) (a,0)).bind λr=>some r) some) else(bif decide (o.Kind=5) then((dS a o.Member).bind λb=>bif decide (0<=b) then((aS a.L b).bind λs=>(o6 a.L b ({s with Role:=o.Role})).bind λt=>some ({a with L:=t})) else(some a)) else(bif decide (o.Kind=9) then((o7 a o E).bind λu=>some u) else(bif decide (o.Kind=11) then((o8 a o).bind λv=>some v) else(bif decide (o.Kind=12) then((bif decide (0<=d) then((aS a.L (gB d 0)).bind λw=>bif w.Is then((aS a.L (gB d 0)).bind λx=>some (decide (x.ID=o.Of))) else(some false)) else(some false)).bind λy=>bif y then((aS a.L d).bind λf=>(o6 a.L d ({f with Objected:=true,Last:=gB f.Last o.At})).bind λz=>some ({a with L:=z})) else(some a)) else(bif decide (o.Kind=13) then((jN a o.Of).bind λc=>(bif decide (0<=c) then((fb a.In o.Old).bind λg=>bif g then((gE a o.Old).bind λh=>(aS a.L (gB c 0)).bind λi=>bif decide (h=i.N) then((gE a o.Device).bind λj=>(aS a.L (gB c 0)).bind λk=>some (decide (j=k.N))) else(some false)) else(some false)) else(some false)).bind λA=>bif A then((gE a o.Device).bind λB=>(se a B).bind λC=>(nX a o.Device C).bind λD=>(sh D o.Old).bind λl=>some l) else(some a)) else(some a))))))))
theorem AU{r_ o id_ r}(h:DM r_ o id_=some r):ba prog gl 155 [.agg (aU r_),.agg (aJ o),.agg (aj id_)] (.agg (aU r)):=
 cy (λr=> .agg (aU r)) func155 h λK=>ak λv1 e2=>ak λv3 e4=>aw [hf 19 (c9 gl e2),hf 20 (dA gl e4)]<|aF 24 (cN 1110121300 (sp [] [(3,.ref 0 0),(4,.ref 1 0),(6,.ref 2 0)] [ob 0 231 (aU r_),ob 1 99 (aJ o),ob 2 231 (bF [0,1,2,3,5] (aU eY))] 3) [] (ρ:=[(0,0),(1,1),(2,3)])<|cC 1110121300 (λD=>sf [] [(41,bG D)]) (λD=>eH [41] (aP c0 K [])<|ak λv9 e10=>aw [hf 46 (qP gl e10)]<|aP c0 K []) λD k11=>aF 28 (aA c0 k11 [])<|aF 34 (aA c0 k11 [])<|ak λv15 e16=>aw [hf 39 (c9 gl e16)]<|aA c0 k11 [])<|aF 51 (ak λv18 E=>aw [hf 57 (qP gl E)]<|aP c0 K [])<|aF 59 (cN 111012141413101 (sp [] [(3,.ref 0 0),(4,.ref 1 0),(6,.ref 2 0),(8,aE cZ ([o.Device]:List Int)),(65,bG (decide (o.Device=0)))] [ob 0 231 (aU r_),ob 1 99 (aJ o),ob 2 231 (bF [0,1,2,3,5] (aU eY))] 3) [hc (rZ.al ([o.Device]:List Int))] (ρ:=[(0,0),(1,1),(2,3)])<|rdM 111012141413101 (λc=>sk [3] [(6,.ref 1 0),(8,aE cZ c)] [ob 0 231 (aU r_),ob 1 231 (bF [0,1,2,3,5] (aU eY))] 2) (λc=>gA 111012141413111 11101214141311122 (λk=>so [8] [] [ob 0 231 (aU k)] 2) (λf=>so [] [(10,iG f.2)] [ob 0 231 (aU f.1)] 2) [] (λk=>aP c0 K []) λf F H=>aF 94 (ak λy33 l=>ak λv35 I=>aw [hv 100 (rZ.ixZ l),hv 101 (rZ.p1Z tZ l),hf 102 (AS gl I)]<|cj F [])<|aA c1 H []) λj21 m k38=>eH [65] (gA 111012141413101311 11101214141310131122 (λn=>sk [3] [(6,.ref 1 0),(8,aE cZ n)] [ob 0 231 (aU r_),ob 1 231 (bF [0,1,2,3,5] (aU eY))] 2) (λa=>so [65] [(8,.rsl 3 0 a.1.length),(9,iG a.2)] [ob 3 3 (a.1.flatMap cZ)] 4) [hc (rZ.imm [])] (vs:=[3]) (ρ:=rI 4) (kd:=[(3,.row)]) (λn=>aA c4 m []) λa p J=>aF 70 (ak λy50 q=>ak λv52 L=>aw [hv 77 (rZ.ixZ q),hv 78 (rZ.p1Z tZ q),hf 79 (c9 gl L)]<|aF 82 (ak λy55 s=>ak λt M=>aw [hv 87 (rZ.ixZ s),hv 88 (rZ.p1Z tZ s),dg 90 rZ M]<|cj p [hc (el t),hc (rZ.imm t)] (ρ:=rI 3++[(3,5)]) (kd:=[(3,.row)]))<|cj p [hc (el a.1),hc (rZ.imm a.1)] (ρ:=rI 4) (kd:=[(3,.row)]))<|aA c1 J [hc (rZ.al a.1)] (ρ:=[(0,0),(1,2)]))<|aA c4 m [] (ρ:=[(0,0),(1,2)]))<|aF 104 (ak λv60 N=>aw [hf 108 (dA gl N)]<|aF 110 (ak λy63 u=>ak λv65 O=>aw [hv 114 (bI.ixZ u),hv 115 (bI.ptZ LG u),hf 123 (uk gl O)]<|aP c0 K [])<|aP c0 K [])<|aF 126 (ak λv68 P=>aw [hf 130 (Df gl P)]<|aP c0 K [])<|aF 132 (ak λv71 Q=>aw [hf 135 (Dg gl Q)]<|aP c0 K [])<|aF 137 (cN 111012141414141414130 (sp [] [(3,.ref 0 0),(4,.ref 1 0),(6,.ref 2 0),(7,iG v3)] [ob 0 231 (aU r_),ob 1 99 (aJ o),ob 2 231 (bF [0,1,2,3,5] (aU eY))] 3) [] (ρ:=[(0,0),(1,1),(2,3)])<|cC 111012141414141414130 (λg=>sf [] [(160,bG g)]) (λg=>eH [160] (ak λy77 v=>ak λv79 R=>aw [hv 164 (bI.ixZ v),hv 165 (bI.ptZ LG v),hf 177 (uk gl R)]<|aP c0 K [])<|aP c0 K []) λg i=>aF 139 (ak λy84 w=>aw [hv 145 (bI.ixZ w),hv 147 (bI.fdZ tO 2 w)]<|aF 148 (ak λS x=>aw [hv 154 (bI.ixZ x),hv 156 (bI.fsZ aW jz 3 a9 x),hV 159 (dU S.ID o.Of rfl)]<|aA c0 i [])<|aA c0 i [])<|aA c0 i [])<|aF 180 (ak λU V=>aw [hf 184 (mA gl V)]<|cN 111012141414141414141310 (sp [] [(3,.ref 0 0),(4,.ref 1 0),(6,.ref 2 0),(14,iG U)] [ob 0 231 (aU r_),ob 1 99 (aJ o),ob 2 231 (bF [0,1,2,3,5] (aU eY))] 3) [] (ρ:=[(0,0),(1,1),(2,3)])<|cC 111012141414141414141310 (λj=>sf [14] [(221,bG j)]) (λj=>eH [221] (ak λv95 W=>ak λv97 X=>ak λv99 y=>ak λY z=>aw [hf 229 (c9 gl W),hf 230 (ug gl X),hf 231 (qP gl y),hf 235 (AS gl z)]<|aP c0 K [])<|aP c0 K []) λj b=>aF 186 (ak λZ A=>aw [hf 192 (ci gl A)]<|aF 193 (ak λv109 B=>ak λy111 d=>aw [hf 198 (c9 gl B),hv 203 (bI.ixZ d),hv 205 (bI.fdZ tZ 0 d)]<|aF 207 (ak λv114 C=>ak λy116 e=>aw [hf 212 (c9 gl C),hv 217 (bI.ixZ e),hv 219 (bI.fdZ tZ 0 e)]<|aA c0 b [])<|aA c0 b [])<|aA c0 b [])<|aA c0 b [])<|aP c0 K []
def AV(cards:List DCard):Option D15R:=
 some ⟨cards,[],[],[],0,[]⟩
theorem DN{cards r}(h:AV cards=some r):ba prog gl 206 [aE bv cards] (.agg (aU r)):=
 cy (λr=> .agg (aU r)) func206 h λK=>aP c0 K []
def o9(e:D15R)(o:DOp)(m:Int)(a:Bool):Option Int:=
 bif decide (o.Device≠0) then((fb e.In o.Device).bind λf=>bif(!f) then(some 17) else((bif(!a) then((gE e o.Device).bind λb=>some (decide (b≠m))) else(some false)).bind λg=>bif g then(some 14) else(some 0))) else((dS e o.Member).bind λc=>bif decide (c<0) then(some 16) else((bif(!a) then(some (decide (o.Member≠m))) else(some false)).bind λd=>bif d then(some 14) else(some 0)))
theorem Dh{r_ o m rules r}(h:o9 r_ o m rules=some r):ba prog gl 212 [.agg (aU r_),.agg (aJ o),iG m,bG rules] (iG r):=
 cy iG func212 h λK=>aF 11 (ak λj e3=>aw [hf 16 (ci gl e3)]<|aF 17 (aP c0 K [])<|cN 11013100 (so [0,1] [(4,.ref 0 0),(5,.ref 1 0)] [ob 0 231 (aU r_),ob 1 99 (aJ o)] 2) []<|cC 11013100 (λc=>sk [] [(27,bG c)] [] 0) (λc=>eH [27] (aP c0 K [])<|aP c0 K []) λc f=>aF 19 (ak λg d=>aw [hf 24 (c9 gl d)]<|aA c0 f [])<|aA c0 f [])<|ak λi e=>aw [hf 31 (dA gl e)]<|aF 32 (aP c0 K [])<|cN 111100 (so [0,1] [(5,.ref 0 0)] [ob 0 99 (aJ o)] 1) [] (ρ:=[(0,1)])<|cC 111100 (λa=>sk [] [(40,bG a)] [] 0) (λa=>eH [40] (aP c0 K [])<|aP c0 K []) λa b=>aF 34 (aA c0 b [])<|aA c0 b []
def pa(l:List Int)(s1:List Int×Int)(a:Int):Option ((Int)⊕(Int)):=
 (bif decide (a<ah s1.1) then((aS s1.1 a).bind λb=>(aS l s1.2).bind λc=>some (decide (b<=c))) else(some false)).bind λd=>bif d then(some (.inl (wI (a+1)))) else(some (.inr a))
def pb(l:List Int)(s1:List Int×Int):Option ((List Int×Int)⊕(List Int)):=
 bif decide (s1.2<ah l) then((loop (pa l s1) 0).bind λa=>(tq s1.1 a).bind λb=>(aT 8 ([]:List Int) b).bind λc=>(aS l s1.2).bind λd=>(aT 8 c ([d]:List Int)).bind λe=>(mc s1.1 a).bind λf=>(aT 8 e f).bind λg=>some (.inl (g,wI (s1.2+1)))) else(some (.inr s1.1))
def lg(l:List Int):Option (List Int):=
 (loop (pb l) ([],0)).bind λa=>some a
theorem vH{l r}(h:lg l=some r):iV prog gl 215 [aE cZ l] 3 r.length (r.flatMap cZ):=
 gc func215 h λK=>gA 11101 1110122 (λj=>sp [] [(3,.rsl 0 0 j.length)] [ob 0 3 (j.flatMap cZ)] 1) (λs1=>so [] [(3,.rsl 0 0 s1.1.length),(4,iG s1.2)] [ob 0 3 (s1.1.flatMap cZ)] 1) [hc (rZ.imm [])] (vs:=[3]) (ρ:=[(0,0)]) (kd:=[(0,.row)]) (λj=>mr c0 K (rZ.imm _)) λs1 k5 t=>aF 10 (gA 111012210210 11101221021022 (λb=>sx [] [(3,aE cZ s1.1),(5,iG b)] [] 0) (λc=>sx [] [(3,aE cZ s1.1),(5,iG c)] [] 0) [hc (rZ.al s1.1)] (λb=>ak λu k=>ak λv m=>ak λw d=>ak λx n=>ak λy o=>ak λe p=>aw [hv 33 (rZ.preZI k),wX 34 rZ m,hv 38 (rZ.ixZ d),hv 39 (rZ.p1Z tZ d),dg 41 rZ n,hv 45 (rZ.sufZI o),eu 46 rZ p]<|cj k5 [hc (el e),hc (rZ.imm e)] (ρ:=[(0,3)]) (kd:=[(0,.row)])) λc q s=>cN 1110122102102200 (sf [] []) []<|cC 1110122102102200 (λa=>sf [] [(27,bG a)]) (λa=>eH [27] (cj q [])<|aA c1 s []) λa f=>aF 16 (ak λz g=>ak λA i=>aw [hv 20 (rZ.ixZ g),hv 21 (rZ.p1Z tZ g),hv 24 (rZ.ixZ i),hv 25 (rZ.p1Z tZ i)]<|aA c0 f [])<|aA c0 f [])<|aA c1 t [hc (el s1.1),hc (rZ.imm s1.1)] (ρ:=[(0,0)]) (kd:=[(0,.row)])
theorem Fe{l r}(h:lg l=some r):ba prog gl 215 [aE cZ l] (aE cZ r):=(vH gl h).fn rZ.sz (rZ.len _) (rZ.imm _)
end
end Go.Proofs.YtnpdibmpndhkjaaGreatDoor
