/- Texts. -/
import Derived.Lib.Mul64
import Derived.Lib.SliceRun
import Derived.Test.YtdpdicldkohflaaGreatDoorProg
import Derived.Test.YtdpdicldkohflaaGreatDoorNE
namespace Go.Proofs.YtdpdicldkohflaaGreatDoor
set_option linter.unusedSectionVars false
set_option linter.unusedVariables false
set_option linter.unusedSimpArgs false
open Go.RowKit Tryz
variable (gl:CB)
variable {α:Type}{b t:Bool}{J S s st:St}{ρ:DF}{gs gs0 l l0:Bn}{C:JK}{vs:List Bk}{f:FuncId}{fn:Func}{c n:Nat}{a i r:Int}{k k':IntKind}{P:Bu}{ts:Bk}{x y:DC}{q:Br}
theorem bS{β:Type}{o:Option α}{f:α->Option β}{r:β}(h:o.bind f=some r):∃y,o=some y/\f y=some r:=Gd.1 h
theorem bC{c:Bool}{a b:Option α}{r:α}(h:(bif c then a else b)=some r):(c=true/\a=some r)\/(c=false/\b=some r):=by grind
def KN{σ ρ:Type}(step:σ->Option (σ⊕ρ)):Nat->σ->Option ρ
 |0,_=>none
 |n+1,s=>match step s with
  |none=>none
  |some (.inl s')=>KN step n s'
  |some (.inr r)=>some r
def FU:Nat:=4611686018427387904
def AQ{σ ρ:Type}(step:σ->Option (σ⊕ρ))(s:σ):Option ρ:=KN step FU s
def ma{α β γ:Type}(x:α⊕β)(k:α->Option γ)(q:β->Option γ):Option γ:=match x with
 | .inl a=>k a
 | .inr b=>q b
def wI(z:Int):Int:=IntKind.i64.wrap z
def wU(z:Int):Nat:=(IntKind.u64.wrap z).toNat
def ah{α:Type}(l:List α):Int:=(l.length:Int)
def aS{α:Type}(l:List α)(i:Int):Option α:=if 0<=i then l[i.toNat]? else none
def ji{α:Type}(l:List α)(i:Int)(x:α):Option (List α):=if 0<=i/\i.toNat<l.length then some (l.set i.toNat x)else none
def tq{α:Type}(l:List α)(i:Int):Option (List α):=if 0<=i/\i.toNat<=l.length then some (l.take i.toNat)else none
def mc{α:Type}(l:List α)(i:Int):Option (List α):=if 0<=i/\i.toNat<=l.length then some (l.drop i.toNat)else none
def aT{α:Type}(b:Nat)(l r:List α):Option (List α):=if(l.length+r.length)*b<=140737488355328 then some (l++r)else none
def Gg(a b:Int):JJ:=if b=0 then none else some (IntKind.i64.wrap (a.tdiv b))
def u9(a b:Int):JJ:=if b=0 then none else some (a.tmod b)
def rP{α:Type}(b:Nat)(z:α)(n:Int):Option (List α):=if 0<=n/\b*n.toNat<=281474976710656/\n<=9223372036854775807 then some (List.replicate n.toNat z)else none
theorem cB{X:Option G}(h:X=some (bG t))(e:t=b):X=some (bG b):=e▸h
def bq:Br->Code->Code
 |[],c=>c
 |0::r,.seq a _=>bq r a
 |1::r,.seq _ b=>bq r b
 |2::r,.block _ c=>bq r c
 |2::r,.loop c=>bq r c
 |3::r,.cond _ a _=>bq r a
 |4::r,.cond _ _ b=>bq r b
 |_,_=> .skip
def bE:Br->Code->List (St->Prop)->List Kf->List Kf
 |0::r,.seq a b,Bs,K=>bE r a Bs (.thn b::K)
 |1::r,.seq _ b,Bs,K=>bE r b Bs K
 |2::r,.block id c,Bs,K=>bE r c Bs (.blk id::K)
 |2::r,.loop c,B::Bs,K=>bE r c Bs (.lp B::K)
 |3::r,.cond _ a _,Bs,K=>bE r a Bs K
 |4::r,.cond _ _ b,Bs,K=>bE r b Bs K
 |_,_,_,K=>K
def LE(m:Bool)(p:Br)(c:Code):Code⊕Exit:=bif m then .inr .normal else .inl (bq p c)
section
variable {P:Bu}
def Gp(P:Bu)(fn:Func)(Q:Exit->St->Prop)(Bs:List (St->Prop))(m:Bool)(p:Br)(st:St):Prop:=CQ P Q (bE p (ai fn) Bs []) st (LE m p (ai fn))
theorem m8{Q:Exit->St->Prop}{K:List Kf}:∀(a:List Kf) (e:Exit) (s:St),dz P a (dz P K Q) e s->dz P (a++K) Q e s
 |[],e,s,h=>by obtain⟨s',l,h⟩:=h;grind [pQ]
 | .thn b::a,e,s,h=>by
  show dz P (.thn b::(a++K)) Q e s;unfold dz at h⊢;cases e with
  |normal=>unfold uE at h⊢;exact h.mono λe s h=>m8 a e s h
  |_=>unfold uE at h⊢;exact m8 a _ s h
 | .blk id::a,e,s,h=>by
  show dz P (.blk id::(a++K)) Q e s;unfold dz at h⊢;cases e with
  |exit i=>
   unfold pu at h⊢;by_cases hi:i=id
   .simp only[hi,if_true] at h⊢;exact m8 a _ s h
   .simp only[hi,if_false] at h⊢;exact m8 a _ s h
  |_=>unfold pu at h⊢;exact m8 a _ s h
 | .lp B::a,e,s,h=>by
  show dz P (.lp B::(a++K)) Q e s;unfold dz at h⊢;cases e with
  |normal=>grind [uE]
  |_=>unfold uE at h⊢;exact m8 a _ s h
theorem QQ{Q:Exit->St->Prop}{K a:List Kf}{m:Code⊕Exit}(h:CQ P (dz P K Q) a st m):CQ P Q (a++K) st m:=by
 cases m with
 |inl c=>exact Tr.mono h (by grind [m8])
 |inr e=>exact m8 a e st h
theorem Oi:Wk P st ρ (.lit (.slice none 0 0)) (.sl [] 0):=λcx a w β r v hv=>by rw[hv.lit_eq];exact .imm _ _ (.sl [] 0 none 0 (λ_=>undef) (Dl _) (Nat.zero_le _) aC aC aC)
theorem CE{i j:Nat}{ob:Ob}(h:dq ρ i=some j)(ho:ag st.σ j=some ob):Wk P st ρ (.lit (.slice none 0 0)) (.rsl i 0 0):=λcx a w β r v hv=>by grind [RV.lit_eq,RV,RO.at]
def QR(P:Bu)(σ:aQ)(ρ:DF)(cl:Bool):Nat->G->G->Option (JK×G)
 |0,_,_=>none
 |n+1,g,t=>match t with
  | .junk=>some ([],.junk)
  | .sl _ m'=>match g with
   | .sl l m=>some ([],.sl l m)
   | .lit (.slice none 0 0)=>some ([],.sl [] 0)
   | .rsl j o m=>match ag σ j with
    |some ob=>match bw P ob.t with
     |some s=>bif ρ.all λq=> !(Nat.beq q.2 j)then(bif Nat.beq o 0 then some ([ob.l.length=m'*s/\(∀x∈ob.l,bB x)/\m=m'],.sl ob.l m')else some ([o+m*s<=ob.l.length/\∀x∈ob.l,bB x],.sl ((ob.l.drop o).take (m*s)) m))else none
     |none=>none
    |none=>none
   |_=>none
  | .rsl i _ m'=>match g with
   | .rsl j o m=>match dq ρ i with
    |some k=>bif Nat.beq k j then some ([m=m'],.rsl i o m')else none
    |none=>none
   | .rsr j m=>match dq ρ i with
    |some k=>bif Nat.beq k j then some ([m=m'],.rsl i 0 m')else none
    |none=>none
   | .lit (.slice none 0 0)=>match dq ρ i with
    |some k=>match ag σ k with
     |some _=>some ([],.rsl i 0 0)
     |none=>none
    |none=>none
   |_=>none
  | .ref i _=>match g with
   | .ref j o=>match dq ρ i with
    |some k=>bif Nat.beq k j then some ([],.ref i o)else none
    |none=>none
   |_=>none
  | .mref i=>match g with
   | .mref j=>match dq ρ i with
    |some k=>bif Nat.beq k j then some ([],.mref i)else none
    |none=>none
   |_=>none
  | .ptr l' _=>match g with
   | .ptr l o=>some ([],.ptr l o)
   | .ref j o=>match ag σ j with
    |some ob=>bif ρ.all λq=> !(Nat.beq q.2 j)then(match Da (QR P σ ρ cl n) ob.l l' with
     |some (C,r)=>some (C++[∀x∈r,bB x],.ptr r o)
     |none=>none)else none
    |none=>none
   |_=>none
  | .mp _ _ _ _=>match g with
   | .mp ks vs ns c=>some ([],.mp ks vs ns c)
   | .mref j=>match ag σ j with
    |some ⟨_,_,some (.map es clock)⟩=>bif ρ.all λq=> !(Nat.beq q.2 j)then some ([∀e∈es,bB e.2.1],.mp (es.map (·.1)) (es.map (·.2.1)) (es.map (·.2.2)) clock)else none
    |_=>none
   |_=>none
  | .yld i=>match g with
   | .yld j=>match dq ρ i with
    |some k=>bif Nat.beq k j then some ([],.yld i)else none
    |none=>none
   |_=>none
  | .clo _ a' b'=>match g with
   | .clo f a b=>bif cl then(match Da (QR P σ ρ cl n) a a' with
    |some (C,r)=>match Da (QR P σ ρ cl n) b b' with
     |some (D,r')=>some (C++D,.clo f r r')
     |none=>none
    |none=>none)else some ([bB (.clo f a b)],.clo f a b)
   |_=>none
  | .agg l'=>match g with
   | .agg l=>match Da (QR P σ ρ cl n) l l' with
    |some (C,r)=>some (C,.agg r)
    |none=>none
   |_=>none
  | .tup l'=>match g with
   | .tup l=>match Da (QR P σ ρ cl n) l l' with
    |some (C,r)=>some (C,.tup r)
    |none=>none
   |_=>none
  |_=>bif nF 20 g then some ([],g)else none
theorem nE{st:St}{ρ:DF}{cl:Bool}:∀(n:Nat) (g t:G) (C:JK) (a:G),QR P st.σ ρ cl n g t=some (C,a)->(∀p∈C,p)->Wk P st ρ g a
 |0,_,_,_,_,h,_=>by cases h
 |n+1,g,t,C,a,h,b=>by
  unfold QR at h;split at h
  .grind [FE]
  .split at h
   .grind [ry,FC]
   .grind [Oi]
   .rename_i j o m;split at h
    .rename_i ob ho;split at h
     .rename_i s hs;cases hk:(ρ.all λq=> !(Nat.beq q.2 j)) with
      |false=>grind
      |true=>
       rw[hk] at h;have hk':∀p∈ρ,p.2≠j:=by grind [Nat.beq_refl]
       simp only[ax] at h;cases hz:Nat.beq o 0 with
       |true=>rw[hz] at h;obtain rfl:=bc hz;cases h;obtain⟨h1,h2,rfl⟩:=b _ (List.mem_singleton.2 rfl);have:=BS (P:=P) (st:=st) (ρ:=ρ) (o:=0) (n:=m) hk' ho hs (by rw[h1];omega) h2;grind
       |false=>rw[hz] at h;cases h;have h1:=b _ (List.mem_singleton.2 rfl);grind [BS]
     .cases h
    .cases h
   .cases h
  .split at h
   .split at h
    .rename_i k hr;cases hb:Nat.beq k _ with
     |false=>rw[hb] at h;cases h
     |true=>rw[hb] at h;obtain rfl:=bc hb;cases h;obtain rfl:=b _ (List.mem_singleton.2 rfl);exact P4 hr
    .cases h
   .split at h
    .rename_i k hr;cases hb:Nat.beq k _ with
     |false=>rw[hb] at h;cases h
     |true=>rw[hb] at h;obtain rfl:=bc hb;cases h;obtain rfl:=b _ (List.mem_singleton.2 rfl);exact AiU hr
    .cases h
   all_goals grind [CE]
  .grind [bc,VH]
  .grind [bc,SU]
  .split at h
   .grind [ry,Ah]
   .rename_i j o;split at h
    .rename_i ob ho;cases hk:(ρ.all λq=> !(Nat.beq q.2 j)) with
     |false=>grind
     |true=>
      rw[hk] at h;have hk':∀p∈ρ,p.2≠j:=by grind [Nat.beq_refl]
      simp only[ax] at h;split at h
      .rename_i C' r hl;cases h;obtain⟨k1,k2⟩:=io (Q:=Wk P st ρ) (λg t C a=>nE n g t C a) _ _ _ _ hl (λp hp=>b p (by grind));exact J7 hk' ho k1 k2 (b _ (by grind))
      .cases h
    .cases h
   .cases h
  .split at h
   .grind [ry,J5]
   .rename_i j;split at h
    .rename_i t l es clock ho;cases hk:(ρ.all λq=> !(Nat.beq q.2 j)) with
     |false=>grind
     |true=>
      rw[hk] at h;have hk':∀p∈ρ,p.2≠j:=by grind [Nat.beq_refl]
      cases h;exact HO hk' ho (b _ (by grind))
    .cases h
   .cases h
  .grind [bc,VI]
  .split at h
   .cases cl with
    |false=>cases h;exact ry (b _ (by grind))
    |true=>
     simp only[ax] at h;split at h
     .rename_i C' r hl;split at h
      .rename_i D r' c;cases h;obtain⟨k1,k2⟩:=io (Q:=Wk P st ρ) (λg t C a=>nE n g t C a) _ _ _ _ hl λp hp=>b p (by grind);obtain⟨m1,m2⟩:=io (Q:=Wk P st ρ) (λg t C a=>nE n g t C a) _ _ _ _ c λp hp=>b p (by grind);grind [VL]
      .cases h
     .cases h
   .cases h
  .split at h
   .split at h
    .rename_i C' r hl;cases h;obtain⟨k1,k2⟩:=io (Q:=Wk P st ρ) (λg t C a=>nE n g t C a) _ _ _ _ hl b;exact VJ k1 k2
    .cases h
   .cases h
  .split at h
   .split at h
    .rename_i C' r hl;cases h;obtain⟨k1,k2⟩:=io (Q:=Wk P st ρ) (λg t C a=>nE n g t C a) _ _ _ _ hl b;exact VK k1 k2
    .cases h
   .cases h
  grind [ry,aG]
inductive Rk where
 |row
 |clo
 |app (A B B' L:Bn)
 |any
def Wh(P:Bu)(σ:aQ)(ρ:DF)(cl:Bool)(fr:Fr):Fr->Option (JK×Fr)
 |[]=>some ([],[])
 |(k,t)::r=>match QR P σ ρ cl 20 (aD fr k) t with
  |some (C,g)=>match Wh P σ ρ cl fr r with
   |some (D,f)=>some (C++D,(k,g)::f)
   |none=>none
  |none=>none
theorem QS{st:St}{ρ:DF}{cl:Bool}:∀(r:Fr) (C:JK) (f:Fr),Wh P st.σ ρ cl st.fr r=some (C,f)->(∀p∈C,p)->J6 P st ρ f
 |[],C,f,h,_=>by cases h;exact HQ
 |(k,t)::r,C,f,h,a=>by
  unfold Wh at h;split at h
  .rename_i b g h1;split at h
   .rename_i D f1 h2;cases h;exact NF (nE 20 _ _ _ _ h1 λp hp=>a p (by grind)) (QS r _ _ h2 λp hp=>a p (by grind))
   .cases h
  .cases h
def Yz(kd:List (Nat×Rk)):Bool:=kd.any λq=>match q.2 with| .clo=>true|_=>false
def wkC(P:Bu)(σ:aQ)(ρ:DF)(kd:List (Nat×Rk))(i:Nat)(l a:Bn):Option (JK×Bn):=match kd.find? (λq=>Nat.beq q.1 i) with
 |some (_,.row)=>some ([∀g∈l,bB g],l)
 |some (_,.clo)=>none
 |some (_,.any)=>none
 |some (_,.app A B B' L)=>match Da (QR P σ ρ (Yz kd) 20) B B' with
  |some (C,B'')=>some ((l=A++B/\(∀g∈A,bB g)/\A++B''=L)::C,L)
  |none=>none
 |none=>Da (QR P σ ρ (Yz kd) 20) l a
theorem Wi{kd:List (Nat×Rk)}{i:Nat}{l':Bn}{r:Bn}(h:wkC P st.σ ρ kd i l l'=some (C,r))(a:∀p∈C,p):r.length=l.length/\∀(k:Nat) (g g':G),l[k]?=some g->r[k]?=some g'->Wk P st ρ g g':=by
 unfold wkC at h;split at h
 .cases h;exact⟨rfl,P8 (a _ (by grind))⟩
 .cases h
 .cases h
 .rename_i A B B' L _;split at h
  .rename_i b B'' hB;cases h;obtain⟨rfl,h2,rfl⟩:=a _ (List.mem_cons_self ..);obtain⟨k1,k2⟩:=io (Q:=Wk P st ρ) (by grind [nE]) _ _ _ _ hB (by grind);grind [ry]
  .cases h
 .exact io (Q:=Wk P st ρ) (by grind [nE]) _ _ _ _ h a
theorem My{st:St}{ρ:DF}{cl:Bool}{fr:Fr}:∀(r:Fr) (C:JK) (f:Fr),Wh P st.σ ρ cl fr r=some (C,f)->(∀p∈C,p)->∀d,Wk P st ρ (aD fr d) (aD f d)
 |[],C,f,h,_,d=>by cases h;exact FE
 |(k,t)::r,C,f,h,a,d=>by
  unfold Wh at h;split at h
  .rename_i b g h1;split at h
   .rename_i D f1 h2;cases h;rw[aO];split
    .rename_i e;subst e;exact nE 20 _ _ _ _ h1 λp hp=>a p (by grind)
    .exact My r _ _ h2 (λp hp=>a p (by grind)) d
   .cases h
  .cases h
def Wj(P:Bu)(σ:aQ)(ρ:DF)(cl:Bool):Qt->Option Qt->Option (JK×Qt)
 | .loop ls pe n fr ps a b,some (.loop _ _ _ fr' _ _ _)=>match Wh P σ ρ cl fr fr' with
  |some (C,f)=>some (C,.loop ls pe n f ps a b)
  |none=>none
 | .map es cl,some (.map _ _)=>some ([∀q∈es,bB q.2.1],.map es cl)
 | .iter (some j) since seen last,some (.iter (some i) _ _ _)=>match dq ρ i with
  |some k=>bif Nat.beq k j then some ([],.iter (some i) since seen last)else none
  |none=>none
 |_,_=>none
theorem Tp{cl:Bool}{x:Qt}{t:Option Qt}{x':Qt}(h:Wj P st.σ ρ cl x t=some (C,x'))(c:∀p∈C,p):Xk P st ρ x x'/\x≠ .resv:=by
 unfold Wj at h;split at h
 .grind [P7,My]
 .cases h;refine⟨SV rfl λk a a' b b' m d e1 e2=>?_,aC⟩;rw[e1] at e2;cases e2;exact⟨rfl,rfl,ry (c _ (List.mem_singleton.2 rfl) _ (bO e1))⟩
 all_goals grind [bc,P6]
def kdA(kd:List (Nat×Rk))(i:Nat):Bool:=kd.any λq=>Nat.beq q.1 i&&(match q.2 with| .any=>true|_=>false)
def Wl(P:Bu)(σ:aQ)(ρ:DF)(kd:List (Nat×Rk)):aQ->Option (JK×aQ)
 |[]=>some ([],[])
 |(i,o')::r=>bif kdA kd i then(match dq ρ i with
  |some j=>match Wl P σ ρ kd r with
   |some (D,τ)=>some (Y3 (HC ρ) (ag σ j) o'::D,(i,o')::τ)
   |none=>none
  |none=>none)else match o' with
  |none=>Wl P σ ρ kd r
  |some ob'=>match dq ρ i with
  |some j=>match ag σ j with
   |some ⟨t,l,none⟩=>match wkC P σ ρ kd i l ob'.l with
    |some (C,l')=>match Wl P σ ρ kd r with
     |some (D,τ)=>some (C++D,(i,some ⟨t,l',none⟩)::τ)
     |none=>none
    |none=>none
   |some ⟨t,_,some x⟩=>match Wj P σ ρ (Yz kd) x ob'.x with
    |some (C,x')=>match Wl P σ ρ kd r with
     |some (D,τ)=>some (C++D,(i,some ⟨t,[],some x'⟩)::τ)
     |none=>none
    |none=>none
   |_=>none
  |none=>none
theorem CF{st:St}{ρ:DF}{kd:List (Nat×Rk)}:∀(r:aQ) (C:JK) (τ:aQ),Wl P st.σ ρ kd r=some (C,τ)->(∀p∈C,p)->Dp P st ρ τ
 |[],C,τ,h,_=>by cases h;exact BT
 |(i,o')::r,C,τ,h,a=>by
  unfold Wl at h;cases hk:kdA kd i with
  |true=>
   rw[hk] at h;simp only[ax] at h;split at h
   .rename_i j hr;split at h
    .rename_i D b h2;cases h;exact Aa8 hr (by simp_all) (CF r _ _ h2 (by grind))
    .cases h
   .cases h
  |false=>
  rw[hk] at h;simp only[Be] at h;cases o' with
  |none=>exact CF r C τ h a
  |some ob'=>
  simp only at h;split at h
  .rename_i j hr;split at h
   .rename_i t l ho;split at h
    .rename_i c d h1;split at h
     .rename_i D b h2;cases h;obtain⟨k1,k2⟩:=Wi h1 λp hp=>a p (by grind);exact xP hr ho rfl rfl (by grind) k2 (CF r _ _ h2 λp hp=>a p (by grind))
     .cases h
    .cases h
   .rename_i t l0 x ho;split at h
    .rename_i c e h1;split at h
     .rename_i D b h2;cases h;obtain⟨k1,k2⟩:=Tp h1 λp hp=>a p (by grind);exact J8 hr ho rfl rfl k1 k2 (CF r _ _ h2 λp hp=>a p (by grind))
     .cases h
    .cases h
   .cases h
  .cases h
def zj:List Bk->St->St
 |[],st=>st
 |t::r,st=>zj r {st with σ:=(st.c,some ⟨t,[],none⟩)::st.σ,c:=st.c+1}
theorem CG:∀(l:List Bk) (st:St),Le P st (zj l st)
 |[],st=>Le.refl _
 |t::r,st=>Le.trans (by rintro cx a w ⟨β,h⟩;exact⟨_,h.virt t (k:=st.c) (Dl _)⟩) (CG r _)
def Ac6(P:Bu)(vs:List Bk)(ρ:DF)(kd:List (Nat×Rk))(J:St)(s:St):Option (JK×St):=(λs=>bif ER ρ s.p then(match Wh P s.σ ρ (Yz kd) s.fr J.fr with
 |some (C,f)=>match Wl P s.σ ρ kd J.σ with
  |some (D,τ)=>some (C++D,⟨s.n,s.gl,f,τ,cR ρ,s.p,s.r⟩)
  |none=>none
 |none=>none)else none) (zj vs s)
theorem AeT{kd:List (Nat×Rk)}(h:Ac6 P vs ρ kd J s=some (C,S))(a:∀p∈C,p):Le P s S:=by
 refine(CG vs s).trans ?_;unfold Ac6 at h;generalize zj vs s=st at h⊢;dsimp only at h;cases hk:ER ρ st.p with
 |false=>grind
 |true=>
  rw[hk] at h;simp only[ax] at h;split at h
  .rename_i b f h1;split at h
   .rename_i D τ h2;cases h;simp only[ER,bA] at hk;obtain⟨⟨k1,k2⟩,k3⟩:=hk;refine NG ρ rfl rfl rfl (λi hi=>?_) (λi c j h1 h2=>?_) (λq hq=>Va hq) (QS _ _ _ h1 λp hp=>a p (by grind)) (CF _ _ _ h2 λp hp=>a p (by grind)) rfl
    .grind [bc]
    .have:=GK.1 (GK.1 k2 _ (Gt h1)) _ (Gt h2);grind [Nat.beq_refl,bc]
   .cases h
  .cases h
def gob:G->Fo
 | .ref i _=>some i
 | .rsl i _ _=>some i
 | .rsr i _=>some i
 | .mref i=>some i
 |_=>none
def prw(t g:G):DF:=match gob t with
 |some i=>match gob g with
  |some j=>[(i,j)]
  |none=>[]
 |none=>[]
def Aly(σ:aQ):Nat->Bn->Br
 |0,_=>[]
 |n+1,l=>l.flatMap λg=>match g with
  | .rsl i _ _=>[i]
  | .ref i _=>match ag σ i with
   |some ⟨_,l',none⟩=>Aly σ n l'
   |_=>[]
  |_=>[]
def AnD(l:Br):Br:=l.foldr (λi r=>bif r.any (Nat.beq i)then r else i::r) []
def aM(J s:St)(R:Br):Nat->DF->DF
 |0,M=>M
 |n+1,M=>aM J s R n (M++M.flatMap λq=>bif R.any (Nat.beq q.1) then[]else match ag J.σ q.1,ag s.σ q.2 with
  |some ⟨_,l',none⟩,some ⟨_,l,none⟩=>(List.zipWith prw l' l).flatten
  |_,_=>[])
def aRw(J:St):Br:=AnD (Aly J.σ 4 (J.fr.map (·.2)))
def aMr(J s:St):DF:=aM J s (aRw J) 2 (J.fr.flatMap λq=>prw q.2 (aD s.fr q.1))
def aUn(J s:St):Br:=(aRw J).filter λi=>(aMr J s).all λq=> !(Nat.beq q.1 i)
def aVs(J s:St):List Bk:=(aUn J s).map λi=>match ag J.σ i with
 |some ob=>ob.t
 |none=>0
def ixN(i:Nat):Br->Fo
 |[]=>none
 |j::r=>bif Nat.beq i j then some 0 else(ixN i r).map (·+1)
def aRo(J s:St):DF:=J.σ.map λq=>(q.1,match dq (aMr J s) q.1 with
 |some j=>j
 |none=>match ixN q.1 (aUn J s) with
  |some k=>s.c+k
  |none=>q.1)
def aKd(kd:List (Nat×Rk))(J:St):List (Nat×Rk):=match kd with
 |[]=>(aRw J).map λi=>(i,.row)
 |_=>kd
def Iw(P:Bu)(vs:List Bk)(ρ:DF)(kd:List (Nat×Rk))(J:St)(s:St):Option (JK×St):=match ρ with
 |[]=>Ac6 P (aVs J s) (aRo J s) (aKd kd J) J s
 |_=>Ac6 P vs ρ (aKd kd J) J s
theorem sR{kd:List (Nat×Rk)}(h:Iw P vs ρ kd J s=some (C,S))(a:∀p∈C,p):Le P s S:=by unfold Iw at h;grind [AeT]
def pR(A:List HP):JK:=A.map (·.p)
theorem wR(A:List HP):∀p∈pR A,p:=λp hp=>by obtain⟨x,_,rfl⟩:=EH.1 hp;exact x.t
def Xm(P:Bu)(hs:List Hn)(m:Code⊕Exit)(K:List Kf)(vs:List Bk)(ρ:DF)(kd:List (Nat×Rk))(J st:St):Option (Prop×Br×JK×St):=match sy P hs 1000000 1000 m K st with
 |some (C,u,.fin .normal s)=>match Iw P vs ρ kd J s with
  |some (L,s')=>some (C,u,L,s')
  |none=>none
 |_=>none
def Xn(P:Bu)(hs:List Hn)(m:Code⊕Exit)(K:List Kf)(vs:List Bk)(ρ:DF)(kd:List (Nat×Rk))(J st:St):Option (Prop×Br×JK×St×(St->Prop)):=match sy P hs 1000000 1000 m K st with
 |some (C,u,.bk B s)=>match Iw P vs ρ kd J s with
  |some (L,s')=>some (C,u,L,s',B)
  |none=>none
 |_=>none
def Xo(P:Bu)(hs:List Hn)(m:Code⊕Exit)(K:List Kf)(fn:Func)(r:G)(st:St):Option (Prop×Br×JK×G):=match sy P hs 1000000 1000 m K st with
 |some (C,u,.fin e s)=>match tc e,vR P s fn.results.toList with
  |true,some gs=>match KW P s.σ 20 (iU gs) r with
   |some (L,g)=>some (C,u,L,g)
   |none=>none
  |_,_=>none
 |_=>none
def ky{β:Type}(x:Option (Prop×Br×β)):Br:=match x with|some (_,u,_)=>u|none=>[0]
def TF{β:Type}(A:List HP)(x:Option (Prop×Br×β))(j:β):Prop:=qe A (ky x)=true/\x=some (psU A (ky x),ky x,j)
theorem TF.out{β:Type}{A:List HP}{x:Option (Prop×Br×β)}{j:β}(h:TF A x j):∃C u,C/\x=some (C,u,j):=⟨_,_,kA h.1,h.2⟩
variable [M:Mix P] {fn:Func} {Q:Exit->St->Prop} {r:G} {Bs Bs':List (St->Prop)} {m:Bool} {p q:Br} {st:St}
theorem Gh{gl:CB}{gs:Bn}(hf:P.funcs[f]?=some fn)(h:Gp P fn (tH P fn r) [] false [] ⟨fn.ntmps,gl,bQ 0 gs,[],0,0,false⟩)(hb:fn.body.isSome=true:=by kernel_rfl)(hn:Nat.ble gs.length fn.ntmps=true:=by kernel_rfl):ba P gl f gs r:=Y7 fn hf hb hn h
def Wm(fn:Func)(Bs Bs':List (St->Prop))(p q:Br):List Kf:=(bE p (ai fn) Bs []).take ((bE p (ai fn) Bs []).length-(bE q (ai fn) Bs' []).length)
theorem yl(q:Br){J:St}(A O:List HP)(kk:Gp P fn Q Bs' true q J)(vs:List Bk:=[])(ρ:DF:=[])(kd:List (Nat×Rk):=[])(hk:TF A (Xm P (bK A) (LE m p (ai fn)) (Wm fn Bs Bs' p q) vs ρ kd J st) (pR O,J):=by exact⟨aH,aH⟩)(eK:Wm fn Bs Bs' p q++bE q (ai fn) Bs' []=bE p (ai fn) Bs []:=by kernel_rfl):Gp P fn Q Bs m p st:=by
 obtain⟨C,u,a,e⟩:=hk.out;unfold Gp;rw[<-eK];refine QQ ?_;unfold Xm at e;split at e
 .rename_i b c s h1;split at e
  .rename_i L s' h2;cases e;exact oK M.mx (out:= .fin .normal s) (Q:=dz P (bE q (ai fn) Bs' []) Q) ⟨_,sR h2 (wR O),kk⟩ 1000 _ _ _ _ _ h1 a
  .cases e
 .cases e
theorem jw{J:St}{B:St->Prop}(A O:List HP)(hB:B J)(vs:List Bk:=[])(ρ:DF:=[])(kd:List (Nat×Rk):=[])(hk:TF A (Xn P (bK A) (LE m p (ai fn)) (bE p (ai fn) Bs []) vs ρ kd J st) (pR O,J,B):=by exact⟨aH,aH⟩):Gp P fn Q Bs m p st:=by
 obtain⟨C,u,a,e⟩:=hk.out;unfold Gp;unfold Xn at e;split at e
 .rename_i b c B' s h1;split at e
  .rename_i L s' h2;cases e;exact oK M.mx (out:= .bk B s) ⟨_,sR h2 (wR O),hB⟩ 1000 _ _ _ _ _ h1 a
  .cases e
 .cases e
theorem Ar(A O:List HP)(hk:TF A (Xo P (bK A) (LE m p (ai fn)) (bE p (ai fn) Bs []) fn r st) (pR O,r):=by exact⟨aH,aH⟩):Gp P fn (tH P fn r) Bs m p st:=by
 obtain⟨C,u,a,e⟩:=hk.out;unfold Gp;unfold Xo at e;split at e
 .rename_i b c x s h1;split at e
  .rename_i gs hx hg;split at e
   .rename_i L g hq;cases e;refine oK M.mx (out:= .fin x s) ⟨s,Le.refl _,?_⟩ 1000 _ _ _ _ _ h1 a;grind [tH,eO,gh,rR,wR]
   .cases e
  .cases e
 .cases e
def Xp(P:Bu)(hs:List Hn)(m:Code⊕Exit)(K:List Kf)(fn:Func)(t:Bk)(st:St):Option (Prop×Br×Prop×Nat×Bn):=match sy P hs 1000000 1000 m K st with
 |some (C,u,.fin e s)=>match tc e,fn.results with
  |true,⟨[.tmp x]⟩=>match aD s.fr x with
   | .rsl i 0 n=>match ag s.σ i with
    |some ⟨t',l,none⟩=>bif Nat.beq t t'&&Nat.beq s.p 0 then some (C,u,∀g∈l,bB g,n,l)else none
    |_=>none
   | .lit (.slice none 0 0)=>bif Nat.beq s.p 0 then some (C,u,∀g∈([]:Bn),bB g,0,[])else none
   |_=>none
  |_,_=>none
 |_=>none
theorem YE{fn:Func}{t:Bk}{st:St}{x:Tmp}(hp:st.p=0)(h:fn.results= #[.tmp x])(hv:aD st.fr x= .lit (.slice none 0 0)){e:Exit}(he:e= .normal\/e= .ret):Z1 P (zE P fn (.rsl 0 0 0) [(0,some ⟨t,[],none⟩)]) e st:=by
 refine⟨zj [t] st,CG _ _,he,[.lit (.slice none 0 0)],[(0,st.c)],?_,?_,?_,?_,?_⟩
 .grind [jV,zj]
 .grind [zj]
 .intro a b j h1 h2;have a1:=fj h1;have a2:=fj h2;grind
 .show Wk P _ _ (.lit (.slice none 0 0)) _;exact CE (j:=st.c) (by simp[dq]) (by show ag ((st.c,some ⟨t,[],none⟩)::st.σ) st.c=_;rw[Bf,BB rfl])
 .exact xP (j:=st.c) (by simp[dq]) (by show ag ((st.c,some ⟨t,[],none⟩)::st.σ) st.c=_;rw[Bf,BB rfl]) rfl rfl (Dl _) (by grind) BT
theorem EI{t:Bk}{l:Bn}(A:List HP)(hi:∀g∈l,bB g)(a:Nat:=n)(hn:a=n:=by rfl)(hk:TF A (Xp P (bK A) (LE m p (ai fn)) (bE p (ai fn) Bs []) fn t st) (∀g∈l,bB g,a,l):=by exact⟨aH,aH⟩):Gp P fn (zE P fn (.rsl 0 0 n) [(0,some ⟨t,l,none⟩)]) Bs m p st:=by
 subst hn;obtain⟨C,u,b,e⟩:=hk.out;unfold Gp;unfold Xp at e;split at e
 .rename_i d f x s h1;split at e
  .rename_i c hx hres;have hr:fn.results= #[.tmp c]:=hres;split at e
   .rename_i i h hv;split at e
    .rename_i t' j ho;cases hb:(Nat.beq t t'&&Nat.beq s.p 0) with
     |false=>grind
     |true=>rw[hb] at e;simp only[bA] at hb;obtain rfl:=bc hb.1;have hp:=bc hb.2;simp only[ax,Fa,Fq] at e;obtain⟨rfl,rfl,_,rfl,rfl⟩:=e;exact oK M.mx (out:= .fin x s) ⟨s,Le.refl _,(by grind [aan,eO])⟩ 1000 _ _ _ _ _ h1 b
    .cases e
   .rename_i hv;cases hb:Nat.beq s.p 0 with
    |false=>grind
    |true=>rw[hb] at e;have hp:=bc hb;simp only[ax,Fa,Fq] at e;obtain⟨rfl,rfl,_,rfl,rfl⟩:=e;exact oK M.mx (out:= .fin x s) (YE hp hr hv (eO hx)) 1000 _ _ _ _ _ h1 b
   .cases e
  .cases e
 .cases e
def Xq(P:Bu)(hs:List Hn)(m:Code⊕Exit)(K:List Kf)(fn:Func)(ρ:DF)(kd:List (Nat×Rk))(r:G)(σ1:aQ)(st:St):Option (Prop×Br×JK×G×aQ):=match sy P hs 1000000 1000 m K st with
 |some (C,u,.fin e s)=>match tc e,vR P s fn.results.toList with
  |true,some gs=>match QR P s.σ ρ (Yz kd) 20 (iU gs) r,Wl P s.σ ρ kd σ1 with
   |some (L,g),some (D,τ)=>bif ER ρ s.p then some (C,u,L++D,g,τ)else none
   |_,_=>none
  |_,_=>none
 |_=>none
theorem ZT{r:G}{σ1:aQ}(A O:List HP)(ρ:DF)(kd:List (Nat×Rk))(hk:TF A (Xq P (bK A) (LE m p (ai fn)) (bE p (ai fn) Bs []) fn ρ kd r σ1 st) (pR O,r,σ1):=by exact⟨aH,aH⟩):Gp P fn (zE P fn r σ1) Bs m p st:=by
 obtain⟨C,u,a,e⟩:=hk.out;unfold Gp;unfold Xq at e;split at e
 .rename_i b c x s h1;split at e
  .rename_i gs hx hg;split at e
   .rename_i L g D τ h2 h3;cases hb:ER ρ s.p with
    |false=>grind
    |true=>
     rw[hb] at e;simp only[ax,Fa,Fq] at e;obtain⟨rfl,rfl,hL,rfl,rfl⟩:=e;have hp:∀p∈L++D,p:=by grind [wR]
     simp only[ER,bA] at hb;obtain⟨⟨k1,k2⟩,k3⟩:=hb;refine oK M.mx (out:= .fin x s) ⟨s,Le.refl _,eO hx,gs,ρ,gh hg,λi hi=>?_,λi d j h1 h2=>?_,nE 20 _ _ _ _ h2 λp hq=>hp p (by grind),CF _ _ _ h3 λp hq=>hp p (by grind)⟩ 1000 _ _ _ _ _ h1 a
     .grind [bc]
     .have:=GK.1 (GK.1 k2 _ (Gt h1)) _ (Gt h2);grind [Nat.beq_refl,bc]
   .cases e
  .cases e
 .cases e
theorem ZU{gl:CB}{σ0 σ1:aQ}{a:Nat}(hf:P.funcs[f]?=some fn)(h:Gp P fn (zE P fn r σ1) [] false [] ⟨fn.ntmps,gl,bQ 0 gs,σ0,a,a,false⟩)(hp:∀i,i<a->∃ob,ag σ0 i=some ob)(hb:fn.body.isSome=true:=by kernel_rfl)(hn:Nat.ble gs.length fn.ntmps=true:=by kernel_rfl):OU P gl f gs σ0 a a r σ1:=
 Ee hf (c:=ai fn) (by unfold ai;cases hx:fn.body<;>grind) (D5 hn) hp (Tr.leQ (by exact h))
theorem wS{gl:CB}{t:Bk}{r:G}{i c:Nat}(hc:aK P f=true)(hF:OU P gl f gs0 [(0,some ⟨t,l,none⟩)] 1 1 r [(0,some ⟨t,l,none⟩)])(hr:bB r)(hl:∀g∈l,bB g)(h:i<c)(hln:gs0.length=gs.length)(hi:∀(j:Nat) (g d:G),gs[j]?=some g->gs0[j]?=some d->(∃o n,g= .rsl i o n/\d= .rsl 0 o n)\/(d=g/\bB g)):oJ P gl f gs [(i,some ⟨t,l,none⟩)] c r [] c:=by
 intro o st y xs ats fst cap ho hd hx hgs hgl u e;have hob:ag st.σ i=some ⟨t,l,none⟩:=by simp_all
 subst hgl;subst e;refine B1 (fst:=fst) (cap:=cap) (σ':=[]++st.σ) (c':=st.c) (r':=r) [(0,i)] [(i,0)] [] ho hd hx hc hF (by grind) (λj g d h1 h2=>?_) (λa b j h1 h2=>?_) aC (NH (j:=i) (by simp[dq]) aC hob rfl rfl (Dl _) (λk g d h1 h2=>?_) BY) (Dl _) (λk j hk hlt=>?_) (λk k' j h1 h2=>?_) (by grind) (λk s hk=>?_) (FH hr);all_goals grind [VY,dq,FG,FH]
theorem Tq{k j:Nat}(h:dq [(c,0),(c+1,1),(c+2,2),(c+3,3)] k=some j):k=c+j/\j<4:=by have a:=fj h;grind
theorem m9(c:Nat){j:Nat}(h:j<4):dq [(c,0),(c+1,1),(c+2,2),(c+3,3)] (c+j)=some j:=by
 have e1:(c+1==c)=false:=aC;have e2:(c+2==c)=false:=aC;have e3:(c+3==c)=false:=aC;have e4:(c+2==c+1)=false:=aC;have e5:(c+3==c+1)=false:=aC;have e6:(c+3==c+2)=false:=aC;match j,h with
 |0,_=>grind [dq]
 |1,_=>grind [dq]
 |2,_=>grind [dq]
 |3,_=>simp[dq,List.lookup,e3,e5,e6]
theorem Ts{gl:CB}{i n t2 s:Bk}{l1 l2 l3:Bn}{r r':G}{c:Nat}(hc:aK P f=true)(hF:OU P gl f gs [] 0 0 r [(0,some ⟨i,l0,none⟩),(1,some ⟨n,l1,none⟩),(2,some ⟨t2,l2,none⟩),(3,some ⟨s,l3,none⟩)])(hg:∀g∈gs,bB g)(hr:Rn [(c,0),(c+1,1),(c+2,2),(c+3,3)] r r')(h0:∀g∈l0,bB g)(h1:∀g∈l1,bB g)(h2:∀g∈l2,bB g)(h3:∀g∈l3,bB g):oJ P gl f gs [] c r' [(c,some ⟨i,l0,none⟩),(c+1,some ⟨n,l1,none⟩),(c+2,some ⟨t2,l2,none⟩),(c+3,some ⟨s,l3,none⟩)] (c+4):=by
 intro o st y xs ats fst cap ho hd hx hgs hgl u h;subst hgl;subst h;have key:∀(k:Nat) (l:Bn),(∀g∈l,bB g)->∀(x:Nat) (g d:G),l[x]?=some g->l[x]?=some d->Rn [(st.c,0),(st.c+1,1),(st.c+2,2),(st.c+3,3)] g d:=λk l hl x g d a b=>by rw[a] at b;cases b;exact FH (hl g (bO a))
 refine B1 (fst:=fst) (cap:=cap) (c':=st.c+4) (r':=r') [] [(st.c,0),(st.c+1,1),(st.c+2,2),(st.c+3,3)] [] ho hd hx hc hF (by rw[hgs]) (λj g d a b=>?_) (by simp[dq]) aC BY aa (λk j hk hlt=>?_) (λk k' j a b=>?_) (λq hq=>?_) (λk t hk=>?_) hr
 .grind [FG]
 .have:=Tq hk;omega
 .have a1:=Tq a;grind [Tq]
 .simp at hq;rcases hq with rfl|rfl|rfl|rfl<;>simp<;>omega
 .simp only[List.cons_append,OS,Bf] at hk;split at hk
  .cases hk;subst_vars;exact .inl ⟨0,_,m9 st.c (j:=0) Cd,by grind,rfl,Dl _,λe=>e,⟨rfl,rfl⟩,key 0 _ h0⟩
  .split at hk
   .cases hk;subst_vars;exact .inl ⟨1,_,m9 st.c (j:=1) Cd,by simp[Bf],rfl,Dl _,λe=>e,⟨rfl,rfl⟩,key 0 _ h1⟩
   .split at hk
    .cases hk;subst_vars;exact .inl ⟨2,_,m9 st.c (j:=2) Cd,by simp[Bf],rfl,Dl _,λe=>e,⟨rfl,rfl⟩,key 0 _ h2⟩
    .split at hk
     .cases hk;subst_vars;exact .inl ⟨3,_,m9 st.c (j:=3) Cd,by simp[Bf],rfl,Dl _,λe=>e,⟨rfl,rfl⟩,key 0 _ h3⟩
     grind [dq]
theorem Vo{gl:CB}{gs:Bn}{d:Bk}{n c:Nat}(hc:aK P f=true)(hF:iV P gl f gs d n l0)(hg:∀g∈gs,bB g)(h0:∀g∈l0,bB g):oJ P gl f gs [] c (.rsl c 0 n) [(c,some ⟨d,l0,none⟩)] (c+1):=by intro o st y xs ats fst cap ho hd hx hgs hgl i e;subst hgl;subst e;refine B1 (fst:=fst) (cap:=cap) (c':=st.c+1) (r':= .rsl st.c 0 n) (r:= .rsl 0 0 n) (σ1:=[(0,some ⟨d,l0,none⟩)]) [] [(st.c,0)] [] ho hd hx hc hF (by rw[hgs]) (λj g l a b=>?_) (by simp[dq]) aC BY aa (λk j hk hlt=>?_) (λk k' j a b=>?_) (by grind) (λk h hk=>?_) (BZ (by simp[dq]));all_goals grind [FG,dq,FH]
theorem OW{gl:CB}{gs:Bn}{t:Bk}{n:Nat}{l:Bn}(hf:P.funcs[f]?=some fn)(h:Gp P fn (zE P fn (.rsl 0 0 n) [(0,some ⟨t,l,none⟩)]) [] false [] ⟨fn.ntmps,gl,bQ 0 gs,[],0,0,false⟩)(hb:fn.body.isSome=true:=by kernel_rfl)(hn:Nat.ble gs.length fn.ntmps=true:=by kernel_rfl):iV P gl f gs t n l:=
 NJ hf (cd:=ai fn) (by unfold ai;cases hx:fn.body<;>grind) (D5 hn) (Tr.leQ (by exact h))
theorem dNx(b:Br)(h:Gp P fn Q Bs false b st)(e:bE q (ai fn) Bs []= .thn (bq b (ai fn))::bE b (ai fn) Bs []:=by kernel_rfl):Gp P fn Q Bs true q st:=by unfold Gp;rw[e];exact wm h
def Xr(P:Bu)(hs:List Hn)(m:Code⊕Exit)(K:List Kf)(vs:List Bk)(ρ:DF)(kd:List (Nat×Rk))(J st:St):Option (Prop×Br×JK×St×Code×List Kf):=match sy P hs 1000000 1000 m K st with
 |some (C,u,.lp c K' s)=>match Iw P vs ρ kd J s with
  |some (L,s')=>some (C,u,L,s',c,K')
  |none=>none
 |_=>none
def Oj(fn:Func)(Bs:List (St->Prop))(b:Br):List Kf:=(bE b (ai fn) (Bs++[λ_=>False]) []).tail
theorem pN{σ ρ':Type}{step:σ->Option (σ⊕ρ')}{s0:σ}{x:ρ'}(S:σ->St)(b:Br)(hl:AQ step s0=some x)(A O:List HP)(h:∀(B:St->Prop) (s:σ) (v:σ⊕ρ'),step s=some v->(∀s',v= .inl s'->B (S s'))->(∀y,v= .inr y->y=x)->Gp P fn Q (Bs++[B]) false b (S s))(vs:List Bk:=[])(ρ:DF:=[])(kd:List (Nat×Rk):=[])
  (hk:TF A (Xr P (bK A) (LE m p (ai fn)) (bE p (ai fn) Bs []) vs ρ kd (S s0) st) (pR O,S s0,bq b (ai fn),Oj fn Bs b):=by exact⟨aH,aH⟩)
  (e2:∀B,bE b (ai fn) (Bs++[B]) []= .lp B::Oj fn Bs b:=by intro B;kernel_rfl):Gp P fn Q Bs m p st:=by
 obtain⟨C,u,d,e⟩:=hk.out
 unfold Gp
 unfold Xr at e
 split at e
 rotate_left
 .cases e
 rename_i f g c K' s1 h1
 split at e
 rotate_left
 .cases e
 rename_i L s' h2
 simp only[Fa,Fq] at e
 obtain⟨rfl,rfl,rfl,rfl,rfl,rfl⟩:=e
 refine oK M.mx (out:= .lp (bq b (ai fn)) (Oj fn Bs b) s1) (Tr.le ?_ (sR h2 (wR O))) 1000 _ _ _ _ _ h1 d
 unfold AQ at hl
 have key:=TJ (P:=P) (Q:=Q) (c:=bq b (ai fn)) (K:=Oj fn Bs b) (ι:={q:Nat×σ//KN step q.1 q.2=some x}) ⟨λq=>S q.1.2,λq=>q.1.1⟩ ⟨(FU,s0),hl⟩ (by
  rintro⟨⟨n,s⟩,hn⟩;have hn:KN step n s=some x:=hn;cases n with
  |zero=>cases hn
  |succ n=>
   unfold KN at hn;split at hn
   .cases hn
   .rename_i s' hs;have:=h (λt=>t=S s'/\KN step n s'=some x) s (.inl s') hs (λa e=>by cases e;exact⟨rfl,hn⟩) (λy e=>by cases e);unfold Gp at this;rw[e2] at this;refine Tr.mono this λe t ht=>?_;unfold dz at ht⊢;cases e with
    |normal=>unfold uE at ht⊢;obtain⟨u,hu,rfl,hx⟩:=ht;exact⟨_,hu,⟨(n,s'),hx⟩,rfl,Nat.lt_succ_self _⟩
    |_=>grind [uE]
   .rename_i y hs;cases hn;have:=h (λt=>False) s (.inr x) hs (λa e=>by cases e) (λy e=>by cases e;rfl);unfold Gp at this;rw[e2] at this;refine Tr.mono this λe t ht=>?_;unfold dz at ht⊢;cases e with
    |normal=>unfold uE at ht⊢;obtain⟨u,hu,hx⟩:=ht;exact hx.elim
    |_=>grind [uE])
 exact key
def wT:Code->Nat
 | .cond (.tmp d) _ _=>d
 | .region id _ _=>2000000+id
 |_=>1000000
def Xs(P:Bu)(hs:List Hn)(cut:Nat)(m:Code⊕Exit)(K:List Kf)(vs:List Bk)(ρ:DF)(kd:List (Nat×Rk))(J st:St):Option (Prop×Br×JK×St×Code×List Kf):=match sy P hs cut 1000 m K st with
 |some (C,u,.ct c K' s)=>match Iw P vs ρ kd J s with
  |some (L,s')=>some (C,u,L,s',c,K')
  |none=>none
 |_=>none
theorem pO(q:Br)(J:St)(A O:List HP)(kk:Gp P fn Q Bs false q J)(vs:List Bk:=[])(ρ:DF:=[])(kd:List (Nat×Rk):=[])
  (hk:TF A (Xs P (bK A) (wT (bq q (ai fn))) (LE m p (ai fn)) (bE p (ai fn) Bs []) vs ρ kd J st) (pR O,J,bq q (ai fn),bE q (ai fn) Bs []):=by exact⟨aH,aH⟩):Gp P fn Q Bs m p st:=by
 obtain⟨C,u,a,e⟩:=hk.out
 unfold Gp
 unfold Xs at e
 split at e
 rotate_left
 .cases e
 rename_i b d c K' s1 h1
 split at e
 rotate_left
 .cases e
 rename_i L s' h2
 simp only[Fa,Fq] at e
 obtain⟨rfl,rfl,rfl,rfl,rfl,rfl⟩:=e
 exact oK M.mx (out:= .ct (bq q (ai fn)) (bE q (ai fn) Bs []) s1) (Tr.le kk (sR h2 (wR O))) 1000 _ _ _ _ _ h1 a
theorem Ix(q:Br)(J:St)(kk:Gp P fn Q Bs true q J)(h:Gp P fn Q Bs true q J->Gp P fn Q Bs m p st):Gp P fn Q Bs m p st:=h kk
end
def hr(d:Nat){c b:Bool}(t:c=b):HP:=⟨some (.r d b),c=b,t⟩
def hw(d:Nat)(L:Bn){p:Prop}(t:p):HP:=⟨some (.w d L),p,t⟩
def hk(d:Nat)(L:Bn)(M:Nat){p:Prop}(t:p):HP:=⟨some (.k d L M),p,t⟩
def hq(d:Nat)(ts:Bn)(O:List HP){P:Bu}{gl:CB}{f:FuncId}{gs:Bn}{g:G}(t:ba P gl f gs g):HP:=⟨some (.q d ts g),IJ (O.map (·.p))/\ba P gl f gs g,by
 refine⟨?_,t⟩;induction O with
 |nil=>trivial
 |cons x r ih=>exact⟨x.t,ih⟩⟩
def ho(d:Nat)(ts:Bn)(O:List HP){P:Bu}{gl:CB}{f:FuncId}{gs:Bn}{ty:Bk}{m:Nat}{l:Bn}(t:iV P gl f gs ty m l)(h:∀g∈l,∃v,g= .lit v):HP:=⟨some (.o d ts ty m l),IJ (O.map (·.p))/\iV P gl f gs ty m l/\∀g∈l,∃v,g= .lit v,by
 refine⟨?_,t,h⟩;induction O with
 |nil=>trivial
 |cons x r ih=>exact⟨x.t,ih⟩⟩
def hm(d:Nat){P:Bu}{t:Bk}{ok:Bool}{gm gk g:G}(h:∀σ,bL P σ t ok gm gk=some g):HP:=⟨some (.m d g),∀σ,bL P σ t ok gm gk=some g,h⟩
theorem bf:∀g∈([]:Bn),bB g:=by grind
theorem aY{x:G}{l:Bn}(hx:bB x)(h:∀g∈l,bB g):∀g∈x::l,bB g:=by grind
theorem jf{gl:CB}{g:G}{c:Nat}(hc:aK P f=true)(hF:ba P gl f gs g)(hg:∀x∈gs,bB x):oJ P gl f gs [] c g [] c:=λo st y xs ats fst cap ho hd hx hgs hgl b a=>by subst hgs;subst hgl;subst a;exact wt ho hd hx hc hg hF
structure Ud (P:Bu) (gl:CB) (fid:FuncId) (fst cap:Bn) {α β:Type} (ca:α->Bn) (cb:β->G) (p:α->Option β):Prop where
 ok:aK P fid=true
 im1:∀g∈fst,bB g
 im2:∀g∈cap,bB g
 fn:∀x r,p x=some r->ba P gl fid (fst++ca x++cap) (cb r)
theorem Ud.im{P:Bu}{gl:CB}{fid:FuncId}{fst cap:Bn}{α β:Type}{ca:α->Bn}{cb:β->G}{p:α->Option β}(h:Ud P gl fid fst cap ca cb p):bB (.clo (.func fid) fst cap):=L8 h.im1 h.im2
theorem Ud.cs{P:Bu}{gl:CB}{fid:FuncId}{fst cap:Bn}{α β:Type}{ca:α->Bn}{cb:β->G}{p:α->Option β}(h:Ud P gl fid fst cap ca cb p){x:α}{r:β}(e:p x=some r)(hx:∀g∈ca x,bB g){c:Nat}:oJ P gl fid (fst++ca x++cap) [] c (cb r) [] c:=by grind [Ud,jf]
def hz(d:Nat)(R:Br){P:Bu}{gl:CB}{f:FuncId}{gs:Bn}{σR:aQ}{c:Nat}{g:G}{U:aQ}{c':Nat}(t:oJ P gl f gs σR c g U c'):HP:=⟨some (.z d R g U c'),oJ P gl f gs σR c g U c',t⟩
theorem cF{gl:CB}(h:ba P gl f gs (bG t))(e:t=b):ba P gl f gs (bG b):=e▸h
theorem cS{gl:CB}{σR U:aQ}{c c':Nat}(h:oJ P gl f gs σR c (bG t) U c')(e:t=b):oJ P gl f gs σR c (bG b) U c':=e▸h
theorem cV{X:DC->DC->Option G}(h:∀p q,X p q=some (bG t))(e:t=b):∀p q,X p q=some (bG b):=e▸h
def OX(f:G->G->G):Bn->Bn->Bn
 |g::r,t::r'=>f g t::OX f r r'
 |_,_=>[]
def nz:Nat->G->G->G
 |0,g,_=>g
 |n+1,g,t=>match t with
  | .sl _ _=>match g with
   | .lit (.slice none 0 0)=> .sl [] 0
   |g=>g
  | .agg l'=>match g with
   | .agg l=> .agg (bif Nat.beq l.length l'.length then OX (nz n) l l' else l)
   |g=>g
  |_=>g
theorem SG{f:G->G->G}:∀(l t:Bn),l.length=t.length->(OX f l t).length=l.length
 |[],[],_=>rfl
 |g::r,t::r',h=>by simp only[OX,List.length_cons,SG r r' (by grind)]
theorem sS{f:G->G->G}:∀(l t:Bn),l.length=t.length->∀(i:Nat) (g':G),(OX f l t)[i]?=some g'->∃g a,l[i]?=some g/\g'=f g a
 |[],[],_,i,g',h=>by simp[OX] at h
 |g::r,t::r',h,i,g',hg=>by
  cases i with
  |zero=>grind [OX]
  |succ i=>simp only[OX,List.getElem?_cons_succ] at hg;simpa using sS r r' (by grind) i g' hg
theorem UX{S:Fs}{w:World}:∀(n:Nat) (g t:G) (v:Value),IV S w g v->IV S w (nz n g t) v
 |0,g,t,v,h=>h
 |n+1,g,t,v,h=>by
  unfold nz;split
  .split
   .cases h;exact .sl [] 0 none 0 (λ_=>undef) (Dl _) (Nat.zero_le _) aC aC aC
   .exact h
  .split
   .rename_i c _ l;cases hb:Nat.beq l.length c.length with
    |false=>exact h
    |true=>
     have hl:=bc hb;cases h with
     |agg _ us h2 h1 hr=>refine .agg _ us (by grind [SG]) h1 λi d u hg hu=>?_;obtain⟨g,a,b,rfl⟩:=sS _ _ hl i d hg;exact UX n g a u (by grind)
   .exact h
  .exact h
theorem UY{gl:CB}{r:G}{ts:Bn}(gs:Bn)(h:ba P gl f ts r)(hl:gs.length=ts.length:=by rfl)(e:OX (nz 20) gs ts=ts:=by kernel_rfl):ba P gl f gs r:=λw S vs hS hG hsz a=>by refine h w S vs hS hG aa λi g u hg hu=>?_;grind [sS,UX]
theorem Gj{f:α->Bn}(hf:∀x,∀g∈f x,∃v,g= .lit v)(l:List α):∀g∈l.flatMap f,∃v,g= .lit v:=by grind
def wY(z:Int):UInt8:=UInt8.ofNat (IntKind.u8.wrap z).toNat
theorem YG(z:Int):0<=IntKind.u64.wrap z:=by show 0<=z%18446744073709551616;grind
theorem zk(z:Int):((wU z:Nat):Int)=IntKind.u64.wrap z:=Int.toNat_of_nonneg (YG z)
theorem C8(z:Int):some (G.lit (.int .u64 (IntKind.u64.wrap z)))=some (uG (wU z)):=by rw[zk]
theorem gV(a b:Int):lD .add (uG a) (uG b)=some (uG (wU (a+b))):=by rw[zk];rfl
theorem YH(a b:Int):lD .sub (uG a) (uG b)=some (uG (wU (a-b))):=by rw[zk];rfl
theorem na(a b:Int):lD .mul (uG a) (uG b)=some (uG (wU (a*b))):=by rw[zk];rfl
theorem iD(a b:Nat)(h:b≠0):lD .rem (uG a) (uG b)=some (uG ((a%b:Nat):Int)):=by show(if(b:Int)=0 then none else some (uG (Int.tmod a b)))=_;grind
theorem zm(a b:Nat)(h:b≠0):lD .quo (uG a) (uG b)=some (uG (wU (a/b:Nat))):=by show(if(b:Int)=0 then none else some (uG (IntKind.u64.wrap (Int.tdiv a b))))=_;grind [zk]
theorem Tt{b:Int}(h:Gg a b=some r):lD .quo (iG a) (iG b)=some (iG r):=by unfold Gg at h;show(if b=0 then none else some (iG (IntKind.i64.wrap (a.tdiv b))))=_;grind
theorem KO{b:Int}(h:u9 a b=some r):lD .rem (iG a) (iG b)=some (iG r):=by unfold u9 at h;show(if b=0 then none else some (iG (a.tmod b)))=_;grind
def CH(a b:Nat):Fo:=if b=0 then none else some (a%b)
theorem YI{a b r:Nat}(h:CH a b=some r):lD .rem (uG a) (uG b)=some (uG r):=by grind [CH,iD]
def Ft(a b:Int):Int:=if b>a then b else a
def iI(a b:Int):Int:=if b<a then b else a
abbrev sG(s:CY):G:= .lit (.string ⟨s.toArray⟩)
abbrev Iy:G:= .lit (.slice none 0 0)
theorem YJ(z:Int):((wY z).toNat:Int)=IntKind.u8.wrap z:=by
 have h1:0<=IntKind.u8.wrap z/\IntKind.u8.wrap z<256:=by show 0<=z%256/\z%256<256;grind
 grind [wY,UInt8.toNat_ofNat']
theorem YK(a b:UInt8):lD .add (gY a) (gY b)=some (gY (wY ((a.toNat:Int)+(b.toNat:Int)))):=by show some (G.lit (.int .u8 (IntKind.u8.wrap _)))=some (G.lit (.int .u8 ((wY _).toNat:Int)));rw[YJ]
def Gk(s:CY):Option CY:=if s.length<=9223372036854775807 then some s else none
theorem Iz(z:Int):some (G.lit (.int .u8 (IntKind.u8.wrap z)))=some (gY (wY z)):=by
 have h1:0<=IntKind.u8.wrap z/\IntKind.u8.wrap z<256:=by show 0<=z%256/\z%256<256;grind
 grind [wY,UInt8.toNat_ofNat']
theorem G9{l:List α}{x:α}(h:aS l i=some x):0<=i/\l[i.toNat]?=some x:=by grind [aS]
section
variable {P:Bu} {ts te:Bk} {k:Nat} {α:Type} {f:α->Bn}
theorem A3.ixZ(R:A3 P ts te k f){l:List α}{i:Int}{x:α}(h:aS l i=some x):fh P ts (aE f l) i=some (.ptr (l.flatMap f) (i.toNat*k)):=by obtain⟨h1,h2⟩:=G9 h;grind [ix]
theorem A3.ptZ(R:A3 P ts te k f)(ha:fg P te=some true){l:List α}{i:Int}{x:α}(h:aS l i=some x):dN P te (l.flatMap f) (i.toNat*k)=some (.agg (f x)):=R.pt ha (G9 h).2
theorem A3.p1Z(R:A3 P ts te 1 f)(ha:fg P te=some false){l:List α}{i:Int}{x:α}(h:aS l i=some x){g:G}(hg:f x=[g]:=by rfl):dN P te (l.flatMap f) (i.toNat*1)=some g:=R.pt1 ha (G9 h).2 hg
theorem A3.fdZ(R:A3 P ts te k f){t:Bk}(ha:fg P t=some false){l:List α}{i:Int}{x:α}{g:G}(j:Nat)(h:aS l i=some x)(hg:(f x)[j]?=some g:=by rfl):dN P t (l.flatMap f) (i.toNat*k+j)=some g:=R.fd ha (G9 h).2 hg
theorem A3.fs(R:A3 P ts te k f){t:Bk}{n:Nat}(ha:fg P t=some true)(hs:bw P t=some n){l:List α}{i j:Nat}{x:α}(h:l[i]?=some x)(hj:j+n<=k):dN P t (l.flatMap f) (i*k+j)=some (.agg (((f x).drop j).take n)):=by have hb:=l9 (k:=k) h;have e:=wQ (f:=f) (k:=k) R.ln h;grind [dN,len,List.drop_drop,List.drop_take]
theorem A3.fsZ(R:A3 P ts te k f){t:Bk}{n:Nat}(ha:fg P t=some true)(hs:bw P t=some n)(j:Nat)(hj:j+n<=k){l:List α}{i:Int}{x:α}(h:aS l i=some x):dN P t (l.flatMap f) (i.toNat*k+j)=some (.agg (((f x).drop j).take n)):=R.fs ha hs (G9 h).2 hj
theorem A3.ixrZ(R:A3 P ts te k f)(j:Nat){l:List α}{i:Int}{x:α}(h:aS l i=some x):fh P ts (.rsl j 0 l.length) i=some (.ref j (0+i.toNat*k)):=by obtain⟨h1,h2⟩:=G9 h;have:=R.ixr j (o:=0) h2;grind
theorem A3.pt0Z(R:A3 P ts te k f)(ha:fg P te=some true){l:List α}{i:Int}{x:α}(h:aS l i=some x):dN P te (l.flatMap f) (0+i.toNat*k)=some (.agg (f x)):=by grind [ptZ]
theorem A3.p10Z(R:A3 P ts te 1 f)(ha:fg P te=some false){l:List α}{i:Int}{x:α}(h:aS l i=some x){g:G}(hg:f x=[g]:=by rfl):dN P te (l.flatMap f) (0+i.toNat*1)=some g:=by grind [p1Z]
theorem A3.fd0Z(R:A3 P ts te k f){t:Bk}(ha:fg P t=some false){l:List α}{i:Int}{x:α}{g:G}(j:Nat)(h:aS l i=some x)(hg:(f x)[j]?=some g:=by rfl):dN P t (l.flatMap f) (0+i.toNat*k+j)=some g:=by grind [fdZ]
theorem A3.fs0Z(R:A3 P ts te k f){t:Bk}{n:Nat}(ha:fg P t=some true)(hs:bw P t=some n)(j:Nat)(hj:j+n<=k){l:List α}{i:Int}{x:α}(h:aS l i=some x):dN P t (l.flatMap f) (0+i.toNat*k+j)=some (.agg (((f x).drop j).take n)):=by grind [fsZ]
theorem sT{l l':List α}{x:α}(h:ji l i x=some l'):0<=i/\i.toNat<l.length/\l'=l.set i.toNat x:=by grind [ji]
theorem Tu{l l':List α}{x:α}(h:ji l i x=some l'):∃y,aS l i=some y:=by obtain⟨h1,h2,_⟩:=sT h;exact⟨l[i.toNat],by grind [aS]⟩
theorem A3.ixsZ(R:A3 P ts te k f)(j:Nat){l l':List α}{i:Int}{x:α}(h:ji l i x=some l'):fh P ts (.rsl j 0 l.length) i=some (.ref j (0+i.toNat*k)):=by grind [A3,Tu,ixrZ]
theorem wW(hk:∀x,(f x).length=k)(x:α):∀(l:List α) (i:Nat),i<l.length->(l.flatMap f).take (i*k)++f x++(l.flatMap f).drop (i*k+k)=(l.set i x).flatMap f
 |[],i,h=>by cases h
 |y::r,0,h=>by grind
 |y::r,i+1,h=>by
  have ih:=wW hk x r i (by grind);rw[List.set_cons_succ,List.flatMap_cons,List.flatMap_cons,<-ih];have e1:(f y++r.flatMap f).take ((i+1)*k)=f y++(r.flatMap f).take (i*k):=by grind [Nat.succ_mul]
  have e2:(f y++r.flatMap f).drop ((i+1)*k+k)=(r.flatMap f).drop (i*k+k):=by rw[List.drop_append,hk,List.drop_of_length_le (by grind),OS];grind
  grind
theorem A3.putZ(R:A3 P ts te k f){l l':List α}{i:Int}{x:α}(h:ji l i x=some l'):(f x).length=k/\0+i.toNat*k+k<=(l.flatMap f).length/\(l.flatMap f).take (0+i.toNat*k)++f x++(l.flatMap f).drop (0+i.toNat*k+k)=l'.flatMap f:=by obtain⟨h1,h2,rfl⟩:=sT h;grind [A3,len,wW]
theorem A3.putF(R:A3 P ts te k f){l l':List α}{i:Int}{x x':α}(h:ji l i x'=some l')(hx:aS l i=some x)(a n:Nat){gs:Bn}(hg:gs.length=n)(d:a+n<=k)(hf:f x'=(f x).take a++gs++(f x).drop (a+n)):gs.length=n/\0+i.toNat*k+a+n<=(l.flatMap f).length/\(l.flatMap f).take (0+i.toNat*k+a)++gs++(l.flatMap f).drop (0+i.toNat*k+a+n)=l'.flatMap f:=by
 obtain⟨h1,h2,rfl⟩:=sT h;obtain⟨_,hx⟩:=G9 hx;have e0:l.set i.toNat x=l:=by apply List.ext_getElem?;grind
 have b:=l9 (k:=k) (EA h2);have c:=wW R.ln x l i.toNat h2;rw[e0] at c;have e:=wW R.ln x' l i.toNat h2;refine⟨hg,?_,?_⟩
 .rw[R.len];omega
 .rw[Nat.zero_add,<-e,hf];have la:((l.flatMap f).take (i.toNat*k)).length=i.toNat*k:=by grind [len]
  have lx:=R.ln x;generalize hA:(l.flatMap f).take (i.toNat*k)=A at*;generalize hB:(l.flatMap f).drop (i.toNat*k+k)=B at*;rw[<-c];have e1:(A++f x++B).take (i.toNat*k+a)=A++(f x).take a:=by rw[List.append_assoc,List.take_append,la,List.take_of_length_le aa,Nat.add_sub_cancel_left,List.take_append_of_le_length aa]
  have e2:(A++f x++B).drop (i.toNat*k+a+n)=(f x).drop (a+n)++B:=by rw[List.append_assoc,List.drop_append,la,List.drop_of_length_le aa,OS,show i.toNat*k+a+n-i.toNat*k=a+n by omega,List.drop_append_of_le_length aa]
  grind
theorem jx{b:Nat}{l r y:List α}(h:aT b l r=some y):(l.length+r.length)*b<=140737488355328/\y=l++r:=by grind [aT]
def bF:Br->Bn->Bn
 |[],l=>l
 |k::r,l=>bF r (l.set k Iy)
theorem el{α:Type}(l:List α):l.length=l.length:=rfl
theorem A3.al(R:A3 P ts te k f)(l:List α){m:Nat}(e:m=l.length:=by rfl):(l.flatMap f).length=l.length*k/\(∀x∈l.flatMap f,bB x)/\m=l.length:=⟨R.len l,R.imm l,e⟩
theorem hZ{l l':List α}{x:α}(h:ji l i x=some l'):l.length=l'.length:=by obtain⟨_,_,rfl⟩:=sT h;simp
def dg(d:Nat)(R:A3 P ts te k f){b:Nat}{l r y:List α}(h:aT b l r=some y):HP:=ha d (y.flatMap f) y.length (p:=(l.flatMap f).length=l.length*k/\0+r.length*k<=(r.flatMap f).length/\(l.length+r.length)*b<=140737488355328/\l.flatMap f++((r.flatMap f).drop 0).take (r.length*k)=y.flatMap f/\l.length+r.length=y.length) (by obtain⟨h1,rfl⟩:=jx h;grind [A3.len])
def eu(d:Nat)(R:A3 P ts te k f){b:Nat}{l r y:List α}(h:aT b l r=some y):HP:=ha d (y.flatMap f) y.length (p:=(l.flatMap f).length=l.length*k/\(r.flatMap f).length=r.length*k/\(l.length+r.length)*b<=140737488355328/\l.flatMap f++r.flatMap f=y.flatMap f/\l.length+r.length=y.length) (by obtain⟨h1,rfl⟩:=jx h;grind [A3.len])
def YL(d:Nat)(R:A3 P ts te k f){b:Nat}{r y:List α}(h:aT b [] r=some y):HP:=ha d (y.flatMap f) y.length (p:=True/\0+r.length*k<=(r.flatMap f).length/\(0+r.length)*b<=140737488355328/\[]++((r.flatMap f).drop 0).take (r.length*k)=y.flatMap f/\0+r.length=y.length) (by obtain⟨h1,rfl⟩:=jx h;grind [A3.len])
def wX(d:Nat)(R:A3 P ts te k f){b:Nat}{r y:List α}(h:aT b [] r=some y):HP:=ha d (y.flatMap f) y.length (p:=True/\(r.flatMap f).length=r.length*k/\(0+r.length)*b<=140737488355328/\[]++r.flatMap f=y.flatMap f/\0+r.length=y.length) (by obtain⟨h1,rfl⟩:=jx h;grind [A3.len])
def Tv(d:Nat)(R:A3 P ts te k f){b:Nat}{l y:List α}{x:α}(h:aT b l [x]=some y)(c:Bn)(hc:c.length=k):HP:=ha d (l.flatMap f++c) y.length (p:=(l.flatMap f).length=l.length*k/\0+1*k<=c.length/\(l.length+1)*b<=140737488355328/\l.flatMap f++(c.drop 0).take (1*k)=l.flatMap f++c/\l.length+1=y.length) (by obtain⟨h1,rfl⟩:=jx h;grind [A3.len])
theorem A3.app(R:A3 P ts te k f){b:Nat}{l y:List α}{x:α}(h:aT b l [x]=some y):(∀g∈l.flatMap f,bB g)/\l.flatMap f++f x=y.flatMap f:=by obtain⟨h1,rfl⟩:=jx h;grind [imm]
def ZV(R:A3 P ts te k f){b:Nat}{l y:List α}{x:α}(h:aT b l [x]=some y)(c:Bn):HP:=hc (p:=l.flatMap f++c=l.flatMap f++c/\(∀g∈l.flatMap f,bB g)/\l.flatMap f++f x=y.flatMap f) (by grind [A3.app])
theorem ym{l y:List α}(h:tq l i=some y):0<=i/\i.toNat<=l.length/\y=l.take i.toNat:=by grind [tq]
theorem yn{l y:List α}(h:mc l i=some y):0<=i/\i.toNat<=l.length/\y=l.drop i.toNat:=by grind [mc]
theorem A3.preZI(R:A3 P ts te k f){l y:List α}{i:Int}(h:tq l i=some y):ig P ts (aE f l) none (some i)=some (aE f y):=by obtain⟨h1,h2,rfl⟩:=ym h;simp only[ig,R.el,R.sz,aL,aE];grind [A3,yk]
theorem A3.sufZI(R:A3 P ts te k f){l y:List α}{i:Int}(h:mc l i=some y):ig P ts (aE f l) (some i) none=some (aE f y):=by obtain⟨h1,h2,rfl⟩:=yn h;simp only[ig,R.el,R.sz,aL,aE];grind [A3,len,sQ]
theorem A3.preZ(R:A3 P ts te k f)(j:Nat){l y:List α}{i:Int}(h:tq l i=some y):ig P ts (.rsl j 0 l.length) none (some i)=some (.rsl j 0 i.toNat):=by grind [ym,pre,Int.toNat_of_nonneg]
theorem A3.sufZ(R:A3 P ts te k f)(j:Nat){l y:List α}{i:Int}(h:mc l i=some y):ig P ts (.rsl j 0 l.length) (some i) none=some (.rsl j (0+i.toNat*k) (l.length-i.toNat)):=by grind [yn,suf,Int.toNat_of_nonneg]
theorem KP{b:Nat}{z:α}{n:Int}{l:List α}(h:rP b z n=some l):0<=n/\b*n.toNat<=281474976710656/\n<=9223372036854775807/\l=List.replicate n.toNat z:=by grind [rP]
theorem Wn(v:Value)(n:Nat):bN [v] n=List.replicate n v:=by unfold bN;apply List.ext_getElem;all_goals grind
theorem QT{x:α}{g:G}(hg:f x=[g])(n:Nat):(List.replicate n x).flatMap f=List.replicate n g:=by induction n<;>grind
theorem mk1(R:A3 P ts te 1 f){v:Value}{b:Nat}{x:α}{n:Int}{l:List α}(h:rP b x n=some l)(hz:jj P te=some [v])(hb:(P.info? te).map (·.bytes)=some b)(hx:f x=[.lit v]):tI P ts (iG n) (iG n)=some (te,l.flatMap f,l.length):=by obtain⟨h1,h2,h3,rfl⟩:=KP h;grind [A3,tI,Nat.beq_refl,N8,Wn,List.map_replicate,QT]
def hmk(d:Nat)(R:A3 P ts te 1 f){v:Value}{b:Nat}{x:α}{n:Int}{l:List α}(h:rP b x n=some l)(hz:jj P te=some [v]:=by kernel_rfl)(hb:(P.info? te).map (·.bytes)=some b:=by kernel_rfl)(hx:f x=[.lit v]:=by rfl):HP:=hk d (l.flatMap f) l.length (mk1 R h hz hb hx)
def CI(i:Nat)(gs gs0:Bn):Prop:=∀(j:Nat) (g g':G),gs[j]?=some g->gs0[j]?=some g'->(∃o n,g= .rsl i o n/\g'= .rsl 0 o n)\/(g'=g/\bB g)
theorem wZ{i:Nat}:CI i [] []:=λj g a h=>by simp at h
theorem w5{i o n:Nat}(h:CI i gs gs0):CI i (.rsl i o n::gs) (.rsl 0 o n::gs0):=λj g a h1 h2=>by
 cases j with
 |zero=>grind
 |succ j=>exact h j g a (by grind) (by grind)
theorem CJ{i:Nat}{g0:G}(hg:bB g0)(h:CI i gs gs0):CI i (g0::gs) (g0::gs0):=λj g a h1 h2=>by
 cases j with
 |zero=>grind
 |succ j=>exact h j g a (by grind) (by grind)
theorem eB{gs:Bn}(h:gs.all (nF 20)=true):∀g∈gs,bB g:=by grind [aG]
theorem rn4{c a b d e:Nat}:Rn [(c,0),(c+1,1),(c+2,2),(c+3,3)] (.agg [.rsl 0 0 a,.rsl 1 0 b,.rsl 2 0 d,.rsl 3 0 e]) (.agg [.rsl c 0 a,.rsl (c+1) 0 b,.rsl (c+2) 0 d,.rsl (c+3) 0 e]):=VZ rfl λi g h h1 h2=>by
 match i with
 |0=>simp at h1 h2;subst h1;subst h2;exact BZ (m9 c (j:=0) Cd)
 |1=>grind [BZ,m9]
 |2=>grind [BZ,m9]
 |3=>grind [BZ,m9]
 |n+4=>simp at h1
end
section
variable {P:Bu}
theorem th.mn{o:Oper}{st:St}{S T:St->Prop}(h:th P o st S)(k:∀s,S s->T s):th P o st T:=λcx a w K R r hk=>h cx a w K R r λs hs=>hk s (k s hs)
theorem QU{o:Oper}{st:St}{e:Bk}{l:Bn}{n:Nat}{u:Bool}(ho:∃z,o.op= .binOp .eql ts x (.const (.slice none 0 0)) z)(ht:P.underlying ts=some (.slice e))(hd:LP o st.n)(hx:aB st x= .sl l n):th P o st (λs=>∃b,(b=true->l=[])/\s=st.put o.dst (bG b)):=by
 obtain⟨z,ho⟩:=ho;intro cx a w K R ⟨β,h⟩ d;refine h.loose.oper (λc hc=>by rw[ho] at hc;cases hc) ?_;have hv:=h.ev x;rw[hx] at hv;obtain⟨ad,cap,us,hv,_,_,ha,_⟩:=hv.sl_cells;have hrun:(execOp a.eval o).run P w= .ok (.value (.bool ad.isNone)) w:=by unfold execOp;have hk:a.eval (.const (.slice none 0 0))= .slice none 0 0:=rfl;simp[ho,hv,hk,eqGuard,Lib.run_eql_slice_nil w ts e ad n cap 0 0 ht]
 unfold Oper.wp;rw[hrun];refine d _ ⟨ad.isNone,λhn=>?_,rfl⟩ _ _ ⟨β,h.put o.dst hd (.imm _ _ (.lit _))⟩;cases l with
 |nil=>rfl
 |cons g r=>obtain⟨b,f,e,_⟩:=ha 0 aC;rw[e] at hn;cases hn
end
section
variable {P:Bu} {fn:Func} {Q:Exit->St->Prop} {Bs:List (St->Prop)} {p:Br} {st:St}
def QV(P:Bu)(c:Code)(x b f:Nat)(d e:Bk):Bool:=match c with
 | .region _ ⟨[⟨some g,.move (.tmp x'),_,_,_,none⟩,⟨some h,.binOp .eql t' (.tmp a) (.const (.slice none 0 0)) _,_,_,_,none⟩]⟩ false=>Nat.beq g b&&Nat.beq h f&&Nat.beq x x'&&Nat.beq a b&&Nat.beq t' d&&(match P.underlying d with|some (.slice e')=>Nat.beq e e'|_=>false)
 |_=>false
theorem IA(x i j:Nat)(t e:Bk)(hx:aD st.fr x= .sl l n)(h1:i<st.n)(h2:j<st.n)(h:∀b,(b=true->l=[])->Gp P fn Q Bs true p ((st.put (some i) (.sl l n)).put (some j) (bG b)))(hc:QV P (bq p (ai fn)) x i j t e=true:=by kernel_rfl):Gp P fn Q Bs false p st:=by
 unfold Gp LE at h⊢;simp only[ax,Be] at h⊢;revert hc;generalize bq p (ai fn)=c;intro hc;unfold QV at hc;split at hc
 .rename_i id v w f g af1 r t' a z k m q;simp only[bA] at hc;obtain⟨⟨⟨⟨⟨e1,e2⟩,e3⟩,e4⟩,e5⟩,e6⟩:=hc;obtain rfl:=bc e1;obtain rfl:=bc e2;obtain rfl:=bc e3;obtain rfl:=bc e4;obtain rfl:=bc e5;split at e6
  .rename_i e' hu;obtain rfl:=bc e6;unfold CQ;refine lG (l:=[_,_]) ?_;have g1:GS P ⟨some a,.move (.tmp x),f,g,af1,none⟩ st (st.put (some a) (.sl l n)):=fM (o:=⟨some a,.move (.tmp x),f,g,af1,none⟩) (λd hd=>by cases hd;exact h1) (by show some (aD st.fr x)=_;rw[hx]);refine .inl ⟨rfl,g1.gsn.mn ?_⟩;rintro s rfl;have g2:=QU (P:=P) (o:=⟨some r,.binOp .eql t' (.tmp a) (.const (.slice none 0 0)) z,k,m,q,none⟩) (st:=st.put (some a) (.sl l n)) (u:=true) ⟨z,rfl⟩ hu (λd hd=>by cases hd;exact h2) (l:=l) (n:=n) (by show aD _ _=_;simp[St.put,aD]);refine .inl ⟨rfl,g2.mn ?_⟩;rintro s ⟨b,hb,rfl⟩;exact h b hb
  .cases e6
 .cases hc
end
section
attribute [local irreducible] Tr dz Gp
def ptG:Nat->Nat->Br->Br
 |0,_,l=>l
 |f+1,n,l=>bif Nat.ble n 1 then l else ptG f (n/10) (n%10::l)
instance(n:Nat):OfNat Br n:=⟨ptG 60 n []⟩
def rI(n:Nat):List (Nat×Nat):=(List.range n).map λi=>(i,i)
abbrev s0(n:Nat)(gl:List (Nat×Bn))(fr:Fr)(σ:aQ)(c p:Nat):St:=⟨n,gl,fr,σ,c,p,false⟩
abbrev ob(i t:Nat)(l:Bn):Nat×Option Ob:=(i,some ⟨t,l,none⟩)
def RD{α:Type}(A:List HP)(e:Option α)(r:α)(X:Prop):Prop:=e=some r->X
def Yw{β:Type}(q:Nat×β):List (Nat×β)->List (Nat×β)
 |[]=>[q]
 |z::r=>bif Nat.beq z.1 q.1 then q::r else bif Nat.blt q.1 z.1 then q::z::r else z::Yw q r
def sx(d:Br)(ad:Fr)(σ:aQ)(c:Nat)(s:St):St:=⟨s.n,s.gl,ad.foldr Yw (s.fr.filter λq=> !d.any (Nat.beq q.1)),σ,c,s.p,s.r⟩
def sk(d:Br)(ad:Fr)(σ:aQ)(c:Nat)(s:St):St:=⟨s.n,s.gl,ad.foldr Yw (s.fr.filter λq=>d.any (Nat.beq q.1)),σ,c,s.p,s.r⟩
def so(d:Br)(ad:Fr)(l:aQ)(c:Nat)(s:St):St:=sx d ad (l.foldr Yw s.σ) c s
def sp(d:Br)(ad:Fr)(l:aQ)(c:Nat)(s:St):St:=sk d ad (l.foldr Yw s.σ) c s
def sf(d:Br)(ad:Fr)(s:St):St:=sx d ad s.σ s.c s
def sg(d:Br)(ad:Fr)(s:St):St:=sk d ad s.σ s.c s
abbrev c0{α:Type}(x:α):α:=x
abbrev c1{α β:Type}(x:β):α⊕β:= .inr x
abbrev c2{α β γ:Type}(x:β):α⊕(β⊕γ):= .inr (.inl x)
abbrev c3{α β γ:Type}(x:γ):α⊕(β⊕γ):= .inr (.inr x)
abbrev c4{α β:Type}(x:α):α⊕β:= .inl x
section
variable {P:Bu} {α β σ X V:Type} {A:List HP} {e:Option α} {r:α} {Y:Prop}
theorem ak{e:Option β}{F:β->Option α}(k:∀y,e=some y->RD A (F y) r Y):RD A (e.bind F) r Y:=λh=>by obtain⟨y,e1,h⟩:=bS h;exact k y e1 h
theorem aw(L:List HP)(k:RD (L++A) e r Y):RD A e r Y:=k
theorem aF(d:Nat){c:Bool}{a b:Option α}(k1:∀{t:c=true},RD (hr d t::A) a r Y)(k2:∀{t:c=false},RD (hr d t::A) b r Y):RD A (bif c then a else b) r Y:=λh=>by
 rcases bC h with⟨t,h⟩|⟨t,h⟩
 .exact k1 (t:=t) h
 .exact k2 (t:=t) h
theorem kV{c:Bool}{a b:Option α}(k1:c=true->RD A a r Y)(k2:c=false->RD A b r Y):RD A (bif c then a else b) r Y:=by grind
variable [M:Mix P] {fn:Func} {Q:Exit->St->Prop} {Bs Bs':List (St->Prop)} {m:Bool} {p:Br} {st:St}
theorem eH(l:Br){c:Bool}{a b:Option α}(k1:∀{t:c=true},RD A a r (Gp P fn Q Bs m p (sf [] (l.map λd=>(d,bG true)) st)))(k2:∀{t:c=false},RD A b r (Gp P fn Q Bs m p (sf [] (l.map λd=>(d,bG false)) st)))(h:sf [] (l.map λd=>(d,bG c)) st=st:=by kernel_rfl):RD A (bif c then a else b) r (Gp P fn Q Bs m p st):=by grind
def DG(P:Bu)(gl:CB)(e:Option α)(f:FuncId)(gs:Bn)(g:α->G):Prop:=∀⦃r⦄,e=some r->ba P gl f gs (g r)
def M1(P:Bu)(gl:CB)(e:Option (List β))(f:FuncId)(gs:Bn)(t:Bk)(c:β->Bn):Prop:=∀⦃r⦄,e=some r->iV P gl f gs t r.length (r.flatMap c)
theorem cy{fn:Func}{gl:CB}{gs:Bn}{g:α->G}(hf:P.funcs[f]?=some fn)(h:∀{Q r},(∀a,r=a->Q=tH P fn (g a))->RD [] e r (Gp P fn Q [] false [] ⟨fn.ntmps,gl,bQ 0 gs,[],0,0,false⟩))(hb:fn.body.isSome=true:=by kernel_rfl)(hn:Nat.ble gs.length fn.ntmps=true:=by kernel_rfl):DG P gl e f gs g:=λr h0=>Gh hf (h (by grind) h0) hb hn
theorem gc{fn:Func}{gl:CB}{t:Bk}{c:β->Bn}{e:Option (List β)}(hf:P.funcs[f]?=some fn)(h:∀{Q r},(∀a,r=a->Q=zE P fn (.rsl 0 0 a.length) [(0,some ⟨t,a.flatMap c,none⟩)])->RD [] e r (Gp P fn Q [] false [] ⟨fn.ntmps,gl,bQ 0 gs,[],0,0,false⟩))(hb:fn.body.isSome=true:=by kernel_rfl)(hn:Nat.ble gs.length fn.ntmps=true:=by kernel_rfl):M1 P gl e f gs t c:=λr h0=>OW hf (h (by grind) h0) hb hn
theorem Yx{fn:Func}{gl:CB}{σ0:aQ}(g:α->G)(s1:α->aQ)(hf:P.funcs[f]?=some fn)(h0:e=some r)(hp:∀i,i<c->∃ob,ag σ0 i=some ob)(h:∀{Q},(∀a,r=a->Q=zE P fn (g a) (s1 a))->RD [] e r (Gp P fn Q [] false [] ⟨fn.ntmps,gl,bQ 0 gs,σ0,c,c,false⟩))(hb:fn.body.isSome=true:=by kernel_rfl)(hn:Nat.ble gs.length fn.ntmps=true:=by kernel_rfl):OU P gl f gs σ0 c c (g r) (s1 r):=ZU hf (h (by grind) h0) hp hb hn
theorem cC{e:Option β}{F:β->Option α}(q:Br)(J:β->St->St)(c:∀y,RD [] (F y) r (Gp P fn Q Bs true q (J y st)))(h:∀y,(∀z,y=z->Gp P fn Q Bs true q (J z st))->RD A e y (Gp P fn Q Bs m p st)):RD A (e.bind F) r (Gp P fn Q Bs m p st):=λh0=>by obtain⟨y,e1,h1⟩:=bS h0;exact h y (λz hz=>by subst hz;exact c y h1) e1
theorem rdM{e:Option (X⊕α)}{F:X->Option α}(q:Br)(J:X->St->St)(c:∀y,RD [] (F y) r (Gp P fn Q Bs true q (J y st)))(h:∀j,(∀y,j= .inl y->Gp P fn Q Bs true q (J y st))->(∀w,j= .inr w->w=r)->RD A e j (Gp P fn Q Bs m p st)):RD A (e.bind λj=>ma j F some) r (Gp P fn Q Bs m p st):=λh0=>by
 obtain⟨j,e1,h1⟩:=bS h0;refine h j (λy hy=>?_) (λw hw=>?_) e1
 .subst hy;exact c y h1
 .subst hw;exact Bo h1
def aay(P:Bu)(fn:Func)(Bs:List (St->Prop))(m:Bool)(p q:Br)(A O:List HP)(vs:List Bk)(ρ:DF)(kd:List (Nat×Rk))(J st:St):Prop:=TF A (Xs P (bK A) (wT (bq q (ai fn))) (LE m p (ai fn)) (bE p (ai fn) Bs []) vs ρ kd J st) (pR O,J,bq q (ai fn),bE q (ai fn) Bs [])
theorem cN(q:Br)(J:St->St)(O:List HP)(k:RD [] e r (Gp P fn Q Bs false q (J st)))(vs:List Bk:=[])(ρ:DF:=[])(kd:List (Nat×Rk):=[])(h:aay P fn Bs m p q A O vs ρ kd (J st) st:=by exact⟨aH,aH⟩):RD A e r (Gp P fn Q Bs m p st):=λh0=>pO q (J st) A O (k h0) vs ρ kd h
def Yy(P:Bu)(fn:Func)(Bs:List (St->Prop))(m:Bool)(p b:Br)(A O:List HP)(vs:List Bk)(ρ:DF)(kd:List (Nat×Rk))(J st:St):Prop:=(TF A (Xr P (bK A) (LE m p (ai fn)) (bE p (ai fn) Bs []) vs ρ kd J st) (pR O,J,bq b (ai fn),Oj fn Bs b))/\∀B,bE b (ai fn) (Bs++[B]) []= .lp B::Oj fn Bs b
theorem rdL{step:σ->Option (σ⊕β)}{s0:σ}{F:β->Option α}(q b:Br)(J:β->St->St)(S:σ->St->St)(O:List HP)(c:∀y,RD [] (F y) r (Gp P fn Q Bs true q (J y st)))(h:∀{B:St->Prop} {v:σ⊕β} (s:σ),(∀s',v= .inl s'->B (S s' st))->(∀y,v= .inr y->Gp P fn Q Bs true q (J y st))->RD [] (step s) v (Gp P fn Q (Bs++[B]) false b (S s st)))(vs:List Bk:=[])(ρ:DF:=[])(kd:List (Nat×Rk):=[])(k:Yy P fn Bs m p b A O vs ρ kd (S s0 st) st:=by exact⟨⟨aH,aH⟩,λ_=>aH⟩):RD A ((AQ step s0).bind F) r (Gp P fn Q Bs m p st):=λh0=>by obtain⟨x,e1,h1⟩:=bS h0;exact pN (λs=>S s st) b e1 A O (λB s v hv h5 h4=>h s h5 (λy hy=>h4 y hy▸c x h1) hv) vs ρ kd k.1 k.2
theorem qf{step:σ->Option (σ⊕(X⊕V))}{s0:σ}{F:X->Option α}{rs:V->α}{Z:V->Prop}(q b:Br)(J:X->St->St)(S:σ->St->St)(O:List HP)(K:∀q,r=rs q->Z q)(c:∀y,RD [] (F y) r (Gp P fn Q Bs true q (J y st)))(h:∀{B:St->Prop} {v:σ⊕(X⊕V)} (s:σ),(∀s',v= .inl s'->B (S s' st))->(∀y,v= .inr (.inl y)->Gp P fn Q Bs true q (J y st))->(∀q,v= .inr (.inr q)->Z q)->RD [] (step s) v (Gp P fn Q (Bs++[B]) false b (S s st)))(vs:List Bk:=[])(ρ:DF:=[])(kd:List (Nat×Rk):=[])(k:Yy P fn Bs m p b A O vs ρ kd (S s0 st) st:=by exact⟨⟨aH,aH⟩,λ_=>aH⟩):RD A ((AQ step s0).bind λx=>ma x F λq=>some (rs q)) r (Gp P fn Q Bs m p st):=λh0=>by
 obtain⟨x,e1,h1⟩:=bS h0;refine pN (λs=>S s st) b e1 A O (λB s v hv h5 h4=>h s h5 (λy hy=>?_) (λz hz=>?_) hv) vs ρ kd k.1 k.2
 .have:=h4 _ hy;subst this;exact c y h1
 .have:=h4 _ hz;subst this;exact K z (Bo h1).symm
def aaz(P:Bu)(fn:Func)(Bs Bs':List (St->Prop))(m:Bool)(p q:Br)(A O:List HP)(vs:List Bk)(ρ:DF)(kd:List (Nat×Rk))(J st:St):Prop:=(TF A (Xm P (bK A) (LE m p (ai fn)) (Wm fn Bs Bs' p q) vs ρ kd J st) (pR O,J))/\Wm fn Bs Bs' p q++bE q (ai fn) Bs' []=bE p (ai fn) Bs []
theorem aA{J:β->St}{t:β}(c:β->α)(d:∀y,r=c y->Gp P fn Q Bs' true q (J y))(O:List HP)(vs:List Bk:=[])(ρ:DF:=[])(kd:List (Nat×Rk):=[])(h:aaz P fn Bs Bs' m p q A O vs ρ kd (J t) st:=by exact⟨⟨aH,aH⟩,aH⟩):RD A (some (c t)) r (Gp P fn Q Bs m p st):=λh0=>yl q A O (by grind) vs ρ kd h.1 h.2
def aaA(P:Bu)(fn:Func)(Bs:List (St->Prop))(m:Bool)(p:Br)(A O:List HP)(vs:List Bk)(ρ:DF)(kd:List (Nat×Rk))(B:St->Prop)(J st:St):Prop:=TF A (Xn P (bK A) (LE m p (ai fn)) (bE p (ai fn) Bs []) vs ρ kd J st) (pR O,J,B)
theorem cj{B:St->Prop}{J:β->St}{t:β}{r:β⊕α}(k5:∀s',r= .inl s'->B (J s'))(O:List HP)(vs:List Bk:=[])(ρ:DF:=[])(kd:List (Nat×Rk):=[])(h:aaA P fn Bs m p A O vs ρ kd B (J t) st:=by exact⟨aH,aH⟩):RD A (some (.inl t)) r (Gp P fn Q Bs m p st):=λh0=>jw A O (by grind) vs ρ kd h
def aaB(P:Bu)(fn:Func)(Bs:List (St->Prop))(m:Bool)(p:Br)(A O:List HP)(g:G)(st:St):Prop:=TF A (Xo P (bK A) (LE m p (ai fn)) (bE p (ai fn) Bs []) fn g st) (pR O,g)
theorem aP{g:β->G}{a:β}(c:β->α)(K:∀a,r=c a->Q=tH P fn (g a))(O:List HP)(h:aaB P fn Bs m p A O (g a) st:=by exact⟨aH,aH⟩):RD A (some (c a)) r (Gp P fn Q Bs m p st):=λh0=>by rw[K a (by grind)];exact Ar A O h
def aaC(P:Bu)(fn:Func)(Bs:List (St->Prop))(m:Bool)(p:Br)(A:List HP)(t:Bk)(l:Bn)(c:Nat)(st:St):Prop:=TF A (Xp P (bK A) (LE m p (ai fn)) (bE p (ai fn) Bs []) fn t st) (∀g∈l,bB g,c,l)
theorem mr{t:Bk}{f:β->Bn}{a:List β}(c:List β->α)(K:∀a,r=c a->Q=zE P fn (.rsl 0 0 a.length) [(0,some ⟨t,a.flatMap f,none⟩)])(hi:∀g∈a.flatMap f,bB g)(d:Nat:=a.length)(hn:d=a.length:=by rfl)(h:aaC P fn Bs m p A t (a.flatMap f) d st:=by exact⟨aH,aH⟩):RD A (some (c a)) r (Gp P fn Q Bs m p st):=λh0=>by rw[K a (by grind)];exact EI A hi d hn h
def aaD(P:Bu)(fn:Func)(Bs:List (St->Prop))(m:Bool)(p:Br)(A O:List HP)(ρ:DF)(kd:List (Nat×Rk))(g:G)(σ1:aQ)(st:St):Prop:=TF A (Xq P (bK A) (LE m p (ai fn)) (bE p (ai fn) Bs []) fn ρ kd g σ1 st) (pR O,g,σ1)
theorem rdU{g:β->G}{σ1:β->aQ}{a:β}(c:β->α)(K:∀a,r=c a->Q=zE P fn (g a) (σ1 a))(O:List HP)(ρ:DF)(kd:List (Nat×Rk))(h:aaD P fn Bs m p A O ρ kd (g a) (σ1 a) st:=by exact⟨aH,aH⟩):RD A (some (c a)) r (Gp P fn Q Bs m p st):=λh0=>by rw[K a (by grind)];exact ZT A O ρ kd h
end
section
variable {P:Bu} {ts te:Bk} {k:Nat} {α:Type} {f:α->Bn}
theorem A3.fdY(R:A3 P ts te k f){t:Bk}(ha:fg P t=some false)(j:Nat){g:α->G}(hg:∀x,(f x)[j]?=some (g x):=by intro _;rfl){l:List α}{i:Int}{x:α}(h:aS l i=some x):dN P t (l.flatMap f) (i.toNat*k+j)=some (g x):=R.fdZ ha j h (hg x)
theorem A3.fd0Y(R:A3 P ts te k f){t:Bk}(ha:fg P t=some false)(j:Nat){g:α->G}(hg:∀x,(f x)[j]?=some (g x):=by intro _;rfl){l:List α}{i:Int}{x:α}(h:aS l i=some x):dN P t (l.flatMap f) (0+i.toNat*k+j)=some (g x):=R.fd0Z ha j h (hg x)
theorem A3.p1Y(R:A3 P ts te 1 f)(ha:fg P te=some false){g:α->G}(hg:∀x,f x=[g x]:=by intro _;rfl){l:List α}{i:Int}{x:α}(h:aS l i=some x):dN P te (l.flatMap f) (i.toNat*1)=some (g x):=R.p1Z ha h (hg x)
theorem A3.p10Y(R:A3 P ts te 1 f)(ha:fg P te=some false){g:α->G}(hg:∀x,f x=[g x]:=by intro _;rfl){l:List α}{i:Int}{x:α}(h:aS l i=some x):dN P te (l.flatMap f) (0+i.toNat*1)=some (g x):=R.p10Z ha h (hg x)
theorem A3.fo(R:A3 P ts te k f){gl:CB}{fid:FuncId}{gs:Bn}{l:List α}(h:iV P gl fid gs te l.length (l.flatMap f)):ba P gl fid gs (aE f l):=h.fn R.sz (R.len _) (R.imm _)
abbrev DL(R:A3 P ts te k f)(l:List α):List HP:=[hc (el l),hc (R.imm l)]
end
section
variable {P:Bu} {α β:Type} {A:List HP} {e:Option β} {F:β->Option α} {r:α} {Y:Prop}
theorem Gb(H:∀{y},e=some y->HP)(k:∀y {h:e=some y},RD (H h::A) (F y) r Y):RD A (e.bind F) r Y:=ak λy h=>k y (h:=h)
theorem BG(d:Nat){gl:CB}{g:β->G}(H:DG P gl e f gs g)(k:∀y {h:e=some y},RD (hf d (H h)::A) (F y) r Y):RD A (e.bind F) r Y:=ak λy h=>k y (h:=h)
theorem Jt(d:Nat){te:Bk}{k:Nat}{δ:Type}{c:δ->Bn}{e:Option (List δ)}{F:List δ->Option α}{gl:CB}{gs:Bn}(R:A3 P ts te k c)(H:M1 P gl e f gs te c)(kk:∀y {h:e=some y},RD (hf d (R.fo (H h))::A) (F y) r Y):RD A (e.bind F) r Y:=ak λy h=>kk y (h:=h)
theorem rdv(d:Nat){X:β->Option G}{g:β->G}(H:∀{y},e=some y->X y=some (g y))(k:∀y {h:e=some y},RD (AH d (H h)::A) (F y) r Y):RD A (e.bind F) r Y:=ak λy h=>k y (h:=h)
theorem CC(d:Nat){X:β->Option G}{g:β->G}(H:∀{y},e=some y->X y=some (g y))(c:Nat){X':β->Option G}{g':β->G}(H':∀{y},e=some y->X' y=some (g' y))(k:∀y {h:e=some y},RD (AH d (H h)::AH c (H' h)::A) (F y) r Y):RD A (e.bind F) r Y:=ak λy h=>k y (h:=h)
variable [M:Mix P] {fn:Func} {Q:Exit->St->Prop} {Bs Bs':List (St->Prop)} {m:Bool} {p:Br} {st:St}
theorem rv{g:α->G}{a:α}(K:∀a,r=a->Q=tH P fn (g a))(h:aaB P fn Bs m p A [] (g a) st:=by exact⟨aH,aH⟩):RD A (some a) r (Gp P fn Q Bs m p st):=aP c0 K [] h
theorem rx{J:α->St}{t:α}(c:∀y,r=y->Gp P fn Q Bs' true q (J y))(h:aaz P fn Bs Bs' m p q A [] [] [] [] (J t) st:=by exact⟨⟨aH,aH⟩,aH⟩):RD A (some t) r (Gp P fn Q Bs m p st):=aA c0 c [] [] [] [] h
theorem rb{B:St->Prop}{J:β->St}{t:β}{r:β⊕α}(k5:∀s',r= .inl s'->B (J s'))(h:aaA P fn Bs m p A [] [] [] [] B (J t) st:=by exact⟨aH,aH⟩):RD A (some (.inl t)) r (Gp P fn Q Bs m p st):=cj k5 [] [] [] [] h
section
variable {a b:Option α} {e:Fl}
theorem NS(q:Br)(S:St->St)(O:List HP)(d:Nat)(k1:RD [] a r (Gp P fn Q Bs true q (sf [] [(d,bG true)] (S st))))(k2:RD [] b r (Gp P fn Q Bs true q (sf [] [(d,bG false)] (S st))))(h:∀{y},(∀z,y=z->Gp P fn Q Bs true q (sf [] [(d,bG z)] (S st)))->RD [] e y (Gp P fn Q Bs false q (S st)))(vs:List Bk:=[])(ρ:DF:=[])(kd:List (Nat×Rk):=[])(c:aay P fn Bs m p q A O vs ρ kd (S st) st:=by exact⟨aH,aH⟩):RD A (e.bind λj=>bif j then a else b) r (Gp P fn Q Bs m p st):=cN q S O (cC q (λj=>sf [] [(d,bG j)]) (fun|true=>k1|false=>k2) λ_ k=>h k) vs ρ kd c
theorem Acb(q:Br)(S:St->St)(O:List HP)(d:Nat)(k1:RD [] a r (Gp P fn Q Bs true q (sk [] [(d,bG true)] [] 0 (S st))))(k2:RD [] b r (Gp P fn Q Bs true q (sk [] [(d,bG false)] [] 0 (S st))))(h:∀{y},(∀z,y=z->Gp P fn Q Bs true q (sk [] [(d,bG z)] [] 0 (S st)))->RD [] e y (Gp P fn Q Bs false q (S st)))(vs:List Bk:=[])(ρ:DF:=[])(kd:List (Nat×Rk):=[])(c:aay P fn Bs m p q A O vs ρ kd (S st) st:=by exact⟨aH,aH⟩):RD A (e.bind λj=>bif j then a else b) r (Gp P fn Q Bs m p st):=cN q S O (cC q (λj=>sk [] [(d,bG j)] [] 0) (fun|true=>k1|false=>k2) λ_ k=>h k) vs ρ kd c
end
variable {σ X V:Type}
theorem HU{step:σ->Option (σ⊕β)}{s0:σ}{F:β->Option α}(q:Br)(J:β->St->St)(S:σ->St->St)(O:List HP)(c:∀y,RD [] (F y) r (Gp P fn Q Bs true q (J y st)))(h:∀{B:St->Prop} {v:σ⊕β} (s:σ),(∀s',v= .inl s'->B (S s' st))->(∀y,v= .inr y->Gp P fn Q Bs true q (J y st))->RD [] (step s) v (Gp P fn Q (Bs++[B]) false (q++[2,2]) (S s st)))(vs:List Bk:=[])(ρ:DF:=[])(kd:List (Nat×Rk):=[])(k:Yy P fn Bs m p (q++[2,2]) A O vs ρ kd (S s0 st) st:=by exact⟨⟨aH,aH⟩,λ_=>aH⟩):RD A ((AQ step s0).bind F) r (Gp P fn Q Bs m p st):=rdL q (q++[2,2]) J S O c h vs ρ kd k
theorem O0{step:σ->Option (σ⊕(X⊕V))}{s0:σ}{F:X->Option α}{rs:V->α}{Z:V->Prop}(q:Br)(J:X->St->St)(S:σ->St->St)(O:List HP)(K:∀q,r=rs q->Z q)(c:∀y,RD [] (F y) r (Gp P fn Q Bs true q (J y st)))(h:∀{B:St->Prop} {v:σ⊕(X⊕V)} (s:σ),(∀s',v= .inl s'->B (S s' st))->(∀y,v= .inr (.inl y)->Gp P fn Q Bs true q (J y st))->(∀q,v= .inr (.inr q)->Z q)->RD [] (step s) v (Gp P fn Q (Bs++[B]) false (q++[2,2]) (S s st)))(vs:List Bk:=[])(ρ:DF:=[])(kd:List (Nat×Rk):=[])(k:Yy P fn Bs m p (q++[2,2]) A O vs ρ kd (S s0 st) st:=by exact⟨⟨aH,aH⟩,λ_=>aH⟩):RD A ((AQ step s0).bind λx=>ma x F λq=>some (rs q)) r (Gp P fn Q Bs m p st):=qf q (q++[2,2]) J S O K c h vs ρ kd k
end
end
instance:Mix prog:=⟨aH⟩
def cZ(x:Int):Bn:=[iG x]
theorem tZ:fg prog 3=some false:=aH
def cW(x:Nat):Bn:=[uG x]
theorem tW:fg prog 23=some false:=aH
structure Ab where
 By:Int
 Seq:Int
 Sum:Nat
 deriving DecidableEq
def aj(x:Ab):Bn:=[iG x.By,iG x.Seq,uG x.Sum]
theorem aW:fg prog 25=some true:=aH
theorem jz:bw prog 25=some 3:=aH
structure MY where
 Kind:Int
 Of:Ab
 N:Int
 M:Int
 deriving DecidableEq
def fT(x:MY):Bn:=[iG x.Kind,iG x.Of.By,iG x.Of.Seq,uG x.Of.Sum,iG x.N,iG x.M]
def cO(x:Bool):Bn:=[bG x]
theorem tO:fg prog 4=some false:=aH
structure AmZ where
 Lead:Bool
 Of:Ab
 N:Int
 Private:Nat
 deriving DecidableEq
structure App where
 Device:Int
 L:List AmZ
def cY(x:UInt8):Bn:=[gY x]
theorem tY:fg prog 5=some false:=aH
theorem rY:A3 prog 58 5 1 cY:=⟨aH,aH,Cd,λ_=>rfl,λ_=>rfl⟩
theorem lY(l:CY):∀g∈l.flatMap cY,∃v,g= .lit v:=Gj (λx g hg=>by simp only[cY,EY,LD,or_false] at hg;rcases hg with rfl<;>exact⟨_,rfl⟩) l
theorem rZ:A3 prog 22 3 1 cZ:=⟨aH,aH,Cd,λ_=>rfl,λ_=>rfl⟩
theorem lZ(l:Bp):∀g∈l.flatMap cZ,∃v,g= .lit v:=Gj (λx g hg=>by simp only[cZ,EY,LD,or_false] at hg;rcases hg with rfl<;>exact⟨_,rfl⟩) l
structure DQ where
 Device:Int
 Member:Int
 Lead:Nat
 Keep:Nat
 Sign:Nat
 deriving DecidableEq
def bv(x:DQ):Bn:=[iG x.Device,iG x.Member,uG x.Lead,uG x.Keep,uG x.Sign]
theorem E2:fg prog 145=some true:=aH
theorem Pb:fg prog 29=some false:=aH
structure Ha where
 To:Nat
 Eph:Nat
 Body:Nat
 Tag:Nat
 deriving DecidableEq
def cz(x:Ha):Bn:=[uG x.To,uG x.Eph,uG x.Body,uG x.Tag]
theorem UL:fg prog 235=some true:=aH
theorem E3:fg prog 60=some false:=aH
structure Fm where
 Pub:Nat
 Boxes:List Ha
def bY(x:Fm):Bn:=[uG x.Pub,aE cz x.Boxes]
theorem Pc:fg prog 109=some true:=aH
theorem tLY:fg prog 58=some false:=aH
def Jc(x:Bp):Bn:=[aE cZ x]
theorem Vs:fg prog 22=some false:=aH
structure DR where
 Of:Ab
 Body:CY
def bp(x:DR):Bn:=[iG x.Of.By,iG x.Of.Seq,uG x.Of.Sum,aE cY x.Body]
theorem GM:fg prog 227=some true:=aH
structure Ya where
 R:Nat
 S:Nat
 deriving DecidableEq
def yy(x:Ya):Bn:=[uG x.R,uG x.S]
structure Bq where
 By:Int
 Seq:Int
 Kind:Int
 At:Int
 Past:List Ab
 Device:Int
 Old:Int
 Member:Int
 Role:Int
 Path:List Fm
 Epoch:Ab
 N:Int
 Body:CY
 Refs:Br
 Of:Ab
 Guards:Bp
 Need:Int
 Wait:Int
 Boxes:List Ha
 Pub:Nat
 Hist:List DR
 Sig:Ya
def aJ(x:Bq):Bn:=[iG x.By,iG x.Seq,iG x.Kind,iG x.At,aE aj x.Past,iG x.Device,iG x.Old,iG x.Member,iG x.Role,aE bY x.Path,iG x.Epoch.By,iG x.Epoch.Seq,uG x.Epoch.Sum,iG x.N,aE cY x.Body,aE cW x.Refs,iG x.Of.By,iG x.Of.Seq,uG x.Of.Sum,aE cZ x.Guards,iG x.Need,iG x.Wait,aE cz x.Boxes,uG x.Pub,aE bp x.Hist,uG x.Sig.R,uG x.Sig.S]
theorem GN:fg prog 65=some true:=aH
def OT(x:List Bool):Bn:=[aE cO x]
theorem Vt:fg prog 193=some false:=aH
structure Ba where
 Cards:List DQ
 L:List Bq
 IDs:List Ab
 Up:LQ
 In:List (List Bool)
def aI(x:Ba):Bn:=[aE bv x.Cards,aE aJ x.L,aE aj x.IDs,aE Jc x.Up,aE OT x.In]
theorem bT:A3 prog 27 145 5 bv:=⟨aH,aH,Cd,λ_=>rfl,λ_=>rfl⟩
theorem eJ:A3 prog 28 65 27 aJ:=⟨aH,aH,Cd,λ_=>rfl,λ_=>rfl⟩
theorem ac:A3 prog 29 25 3 aj:=⟨aH,aH,Cd,λ_=>rfl,λ_=>rfl⟩
theorem kF(l:List Ab):∀g∈l.flatMap aj,∃v,g= .lit v:=Gj (λx g hg=>by simp only[aj,EY,LD,or_false] at hg;rcases hg with rfl|rfl|rfl<;>exact⟨_,rfl⟩) l
theorem bZ:A3 prog 57 109 2 bY:=⟨aH,aH,Cd,λ_=>rfl,λ_=>rfl⟩
theorem EO:A3 prog 60 235 4 cz:=⟨aH,aH,Cd,λ_=>rfl,λ_=>rfl⟩
theorem rW:A3 prog 59 23 1 cW:=⟨aH,aH,Cd,λ_=>rfl,λ_=>rfl⟩
theorem lW(l:Br):∀g∈l.flatMap cW,∃v,g= .lit v:=Gj (λx g hg=>by simp only[cW,EY,LD,or_false] at hg;rcases hg with rfl<;>exact⟨_,rfl⟩) l
theorem bH:A3 prog 61 227 4 bp:=⟨aH,aH,Cd,λ_=>rfl,λ_=>rfl⟩
theorem nH:A3 prog 30 22 1 Jc:=⟨aH,aH,Cd,λ_=>rfl,λ_=>rfl⟩
theorem zV:A3 prog 31 193 1 OT:=⟨aH,aH,Cd,λ_=>rfl,λ_=>rfl⟩
theorem rO:A3 prog 193 4 1 cO:=⟨aH,aH,Cd,λ_=>rfl,λ_=>rfl⟩
theorem lO(l:List Bool):∀g∈l.flatMap cO,∃v,g= .lit v:=Gj (λx g hg=>by simp only[cO,EY,LD,or_false] at hg;rcases hg with rfl<;>exact⟨_,rfl⟩) l
structure Am1 where
 At:Int
 N:Int
 Private:Nat
 deriving DecidableEq
structure GE where
 N:Int
 Role:Int
 Is:Bool
 ID:Ab
 Guards:Bp
 Need:Int
 Wait:Int
 Objected:Bool
 Last:Int
def jG(x:GE):Bn:=[iG x.N,iG x.Role,bG x.Is,iG x.ID.By,iG x.ID.Seq,uG x.ID.Sum,aE cZ x.Guards,iG x.Need,iG x.Wait,bG x.Objected,iG x.Last]
theorem LG:fg prog 281=some true:=aH
structure Iu where
 Of:Ab
 By:Int
 Device:Int
 At:Int
 deriving DecidableEq
def nJ(x:Iu):Bn:=[iG x.Of.By,iG x.Of.Seq,uG x.Of.Sum,iG x.By,iG x.Device,iG x.At]
theorem Pd:fg prog 360=some true:=aH
structure Dx where
 Cards:List DQ
 In:Bp
 Gone:Bp
 L:List GE
 Back:Int
 V:List Iu
def aU(x:Dx):Bn:=[aE bv x.Cards,aE cZ x.In,aE cZ x.Gone,aE jG x.L,iG x.Back,aE nJ x.V]
theorem bI:A3 prog 98 281 11 jG:=⟨aH,aH,Cd,λ_=>rfl,λ_=>rfl⟩
theorem bV:A3 prog 99 360 6 nJ:=⟨aH,aH,Cd,λ_=>rfl,λ_=>rfl⟩
structure JP where
 Row:Bp
 Void:List Bool
 Fork:List Bool
 Decided:List Bool
def fU(x:JP):Bn:=[aE cZ x.Row,aE cO x.Void,aE cO x.Fork,aE cO x.Decided]
theorem E4(l:CY):l.flatMap cY=l.map gY:=by
 induction l with
 |nil=>rfl
 |cons x r ih=>rw[List.flatMap_cons,ih];rfl
theorem aaf(s:CY):nu prog 9=true/\G.lit (.int .i64 ((⟨s.toArray⟩:ByteArray).size:Int))=iG (ah s):=⟨aH,rfl⟩
def hL(d:Nat)(s:CY):HP:=⟨some (.v d (iG (ah s))),nu prog 9=true/\G.lit (.int .i64 ((⟨s.toArray⟩:ByteArray).size:Int))=iG (ah s),aaf s⟩
theorem Vu{s t:CY}(h:Gk s=some t):iQ prog [] 9 58 (sG s)=some (aE cY t):=by
 unfold Gk at h;split at h
 .rename_i hl;cases h;have e1:dp prog 58=some 5:=aH;have e2:xR prog 5=some .u8:=aH;have e3:nu prog 9=true:=aH;unfold iQ;simp only[e1,e2,e3,Bool.true_and];rw[N8 (by simpa using hl)];simp only[ax,Kb,aE,E4]
 .cases h
def hcB(d:Nat){s t:CY}(h:Gk s=some t):HP:=⟨some (.c d (aE cY t)),iQ prog [] 9 58 (sG s)=some (aE cY t),Vu h⟩
theorem xl:∀l:CY,A5 (l.map gY)=some l
 |[]=>rfl
 |x::r=>by have h:=x.toNat_lt;simp only[Fe,gY,A5];rw[BB aa,xl r];simp
theorem aag(l:CY):iQ prog [] 58 9 (aE cY l)=some (sG l):=by have e1:dp prog 58=some 5:=aH;have e2:xR prog 5=some .u8:=aH;have e3:nu prog 9=true:=aH;unfold iQ;simp only[aE,e1,e2,fO,E4,GJ,Nat.mul_one,if_true,xl,e3,Bool.true_and,Nat.beq_refl,ax]
def XY(d:Nat)(l:CY):HP:=⟨some (.c d (sG l)),iQ prog [] 58 9 (aE cY l)=some (sG l),aag l⟩
def XZ(d:Nat){l s y:CY}(h:aT 1 l s=some y):HP:=ha d (y.flatMap cY) y.length (p:=(l.flatMap cY).length=l.length*1/\l.length+s.length<=140737488355328/\l.flatMap cY++s.map gY=y.flatMap cY/\l.length+s.length=y.length) (by obtain⟨h1,rfl⟩:=jx h;exact⟨rY.len l,aa,by rw[List.flatMap_append,E4 s],List.length_append.symm⟩)
def Pe(x:Ab):List Value:=[.int .i64 x.By,.int .i64 x.Seq,.int .u64 (x.Sum:Int)]
theorem Pf(d:Nat)(i j:Ab):bt prog (Op.equalIn (d+3) 25 (.agg (Pe i).toArray) (.agg (Pe j).toArray))=some (decide (i=j)):=by
 obtain⟨a,b,c⟩:=i;obtain⟨x,y,z⟩:=j;rw[xV (fs:= #[⟨ "By",3,0,false, "", "",0⟩,⟨ "Seq",3,1,false, "", "",8⟩,⟨ "Sum",23,2,false, "", "",16⟩]) aH aH];simp only[Array.toList];rw[uJ (k:= .i64) (k':= .i64) (a:=a) (b:=x) Cd aH aH aH];rw[uJ (k:= .i64) (k':= .i64) (a:=b) (b:=y) Cd aH aH aH];rw[uJ (k:= .u64) (k':= .u64) (a:=(c:Int)) (b:=(z:Int)) Cd aH aH aH];simp only[Ab.mk.injEq];by_cases h1:a=x
 .by_cases h2:b=y
  .by_cases h3:c=z
   .simp[h1,h2,h3,Op.eqFields,bz]
   .have:¬((c:Int)=(z:Int)):=aa;simp[h1,h2,h3,this]
  .simp[h1,h2]
 .simp[h1]
theorem dU(i j:Ab){r:Bool}(h:decide (i=j)=r):∀p q:DC,b8 prog .eql 25 p q (.agg (aj i)) (.agg (aj j))=some (bG r):=λp q=>by subst h;exact Eo (us:=Pe i) (vs:=Pe j) aH aH aH (Pf 9997 i j)
theorem dy(i j:Ab){r:Bool}(h:(!decide (i=j))=r):∀p q:DC,b8 prog .neq 25 p q (.agg (aj i)) (.agg (aj j))=some (bG r):=λp q=>by subst h;exact Cb (us:=Pe i) (vs:=Pe j) aH aH aH (Pf 9997 i j)
abbrev ip:Bq:=⟨0,0,0,0,[],0,0,0,0,[],⟨0,0,0⟩,0,[],[],⟨0,0,0⟩,[],0,0,[],0,[],⟨0,0⟩⟩
abbrev xm:Ba:=⟨[],[],[],[],[]⟩
abbrev eY:Dx:=⟨[],[],[],[],0,[]⟩
abbrev AC:JP:=⟨[],[],[],[]⟩
abbrev Bb:=List Ab
abbrev Mj:=List DQ
structure FM (K V:Type) where
 es:List (K×V×Nat)
 clk:Nat
def FM.get{K V:Type}[DecidableEq K](m:FM K V)(k:K):Option V:=(m.es.find? λe=>decide (e.1=k)).map (·.2.1)
def npG{α:Type}(c:α->Bn):Option α->G
 |none=> .lit (.pointer none)
 |some x=> .ptr (c x) 0
def FM.g{K V:Type}(kv:K->Value)(vg:V->G)(m:FM K V):G:= .mp (m.es.map λe=>kv e.1) (m.es.map λe=>vg e.2.1) (m.es.map (·.2.2)) m.clk
def bu{K:Type}[DecidableEq K](k:K):List K->Fo
 |[]=>none
 |x::r=>if k=x then some 0 else(bu k r).map (·+1)
structure LX (P:Bu) (kt:Bk) {K:Type} [DecidableEq K] (kv:K->Value):Prop where
 chk:∀b k,rB P b kt (kv k)=true
 key:∀(k:K) (ks:List K),B7 P kt (kv k) (ks.map kv)=some (bu k ks)
section
variable {P:Bu} {K:Type} [DecidableEq K] {kt:Bk} {kv:K->Value}
theorem Aa7{d:TypeDesc}(h:∀a b,Instr.sameNow d (kv a) (kv b)=some (decide (a=b)))(k:K):∀(ks:List K) (n:Nat),B6 d (kv k) (ks.map kv) n=some ((bu k ks).map (n+·))
 |[],n=>rfl
 |x::r,n=>by
  rw[Fe,B6,h,bu];by_cases e:k=x
  .rw[C5 e,BB e];rfl
  .rw[Dk e,BU e];simp only[];rw[Aa7 h k r (n+1)];cases bu k r<;>grind
theorem Ib(h:∀a b,bt P (Op.equal kt (kv a) (kv b))=some (decide (a=b)))(k:K):∀(ks:List K) (n:Nat),Kj P kt (kv k) (ks.map kv) n=some ((bu k ks).map (n+·))
 |[],n=>rfl
 |x::r,n=>by
  rw[Fe,Kj,h,bu];by_cases e:k=x
  .rw[C5 e,BB e];rfl
  .rw[Dk e,BU e];simp only[];rw[Ib h k r (n+1)];cases bu k r<;>grind
theorem Qv{x:Fo}:x.map (0+·)=x:=by cases x<;>simp
theorem Ajg{d:TypeDesc}(hd:P.underlying kt=some d)(hc:∀b k,rB P b kt (kv k)=true)(h:∀a b,Instr.sameNow d (kv a) (kv b)=some (decide (a=b))):LX P kt kv:=by grind [LX,B7,Aa7,Qv]
theorem Qw{d:TypeDesc}(hd:P.underlying kt=some d)(hc:∀b k,rB P b kt (kv k)=true)(hn:∀a b,Instr.sameNow d (kv a) (kv b)=none)(h:∀a b,bt P (Op.equal kt (kv a) (kv b))=some (decide (a=b))):LX P kt kv:=⟨hc,λk c=>by
 unfold B7;rw[hd];dsimp only;cases c with
 |nil=>rfl
 |cons x r=>grind [B6,Ib,Qv]⟩
variable {V:Type} {vg:V->G}
theorem fz(k:K):∀(es:List (K×V×Nat)),(bu k (es.map (·.1))=none/\es.find? (λe=>decide (e.1=k))=none)\/∃j e,bu k (es.map (·.1))=some j/\es[j]?=some e/\es.find? (λe=>decide (e.1=k))=some e
 |[]=> .inl ⟨rfl,rfl⟩
 |x::r=>by
  rw[Fe,bu,List.find?_cons];by_cases h:k=x.1
  .grind
  .rw[BU h,Dk (Ne.symm h)];rcases fz k r with⟨h1,h2⟩|⟨j,e,h1,h2,h3⟩
   all_goals grind
theorem FM.look(KT:LX P kt kv){t et:Bk}{v0:V}(ht:pB P t=some (kt,et))(hz:((P.info? et).bind (·.zero)).map db=some (vg v0))(m:FM K V)(k:K){gk:G}(hk:cD gk=some (kv k)):
  ∀σ,bL P σ t true (m.g kv vg) gk=some (.tup [vg ((m.get k).getD v0),bG (m.get k).isSome]):=λσ=>by
 unfold bL FM.g
 rw[ht,hk]
 dsimp only
 have hm:(m.es.map λe=>kv e.1)=(m.es.map (·.1)).map kv:=by rw[Hi];rfl
 rw[KT.chk,ax,hm,KT.key]
 grind [get,fz,DP]
theorem FM.look1(KT:LX P kt kv){t et:Bk}{v0:V}(ht:pB P t=some (kt,et))(hz:((P.info? et).bind (·.zero)).map db=some (vg v0))(m:FM K V)(k:K){gk:G}(hk:cD gk=some (kv k)):
  ∀σ,bL P σ t false (m.g kv vg) gk=some (vg ((m.get k).getD v0)):=λσ=>by
 unfold bL FM.g
 rw[ht,hk]
 dsimp only
 have hm:(m.es.map λe=>kv e.1)=(m.es.map (·.1)).map kv:=by rw[Hi];rfl
 grind [LX,get,fz]
end
def Jo(x:Int):Value:= .int .i64 x
theorem OY:LX prog 3 Jo:=Ajg (d:= .int .i64) aH (λb k=>by cases b<;>(show _=_;kernel_rfl)) (by grind [Instr.sameNow,Jo])
def ga(x:Ab):Value:= .agg (Pe x).toArray
theorem jt:LX prog 25 ga:=by obtain⟨fs,hd⟩:∃fs,prog.underlying 25=some (.struct fs):=⟨#[⟨ "By",3,0,false, "", "",0⟩,⟨ "Seq",3,1,false, "", "",8⟩,⟨ "Sum",23,2,false, "", "",16⟩],aH⟩;exact Qw hd (λb k=>by cases b<;>(show _=_;kernel_rfl)) (λa b=>rfl) (λa b=>Pf 9997 a b)
def bD(a b:Nat):Nat:=a%18446744073709551616&&&b%18446744073709551616
def gM(a b:Nat):Nat:=a%18446744073709551616|||b%18446744073709551616
def Yn(a b:Int):Int:=IntKind.i64.wrap ((BitVec.ofInt IntKind.i64.bits a&&&BitVec.ofInt IntKind.i64.bits b).toNat:Nat)
def wH(a b:Int):Int:=IntKind.i64.wrap ((BitVec.ofInt IntKind.i64.bits a&&& ~~~BitVec.ofInt IntKind.i64.bits b).toNat:Nat)
def Jq(a n:Nat):Nat:=a/2^min n 64
def HB(a n:Nat):Nat:=a*2^min n 64%18446744073709551616
def Tf(a:Int)(n:Nat):Int:=a.fdiv (2^min n 64)
def wJ(i:Int):Fo:=if i<0 then none else some i.toNat
section
variable {P:Bu} {t:Bk}
theorem Ml{b:Int}:b8 P .and t x y (.lit (.int k a)) (.lit (.int k b))=some (.lit (.int k (k.wrap ((BitVec.ofInt k.bits a&&&BitVec.ofInt k.bits b).toNat:Nat)))):=by simp[b8,cD,eqGuard,binOp,Op.intBits,bz,db]
theorem V7{b:Int}:b8 P .or t x y (.lit (.int k a)) (.lit (.int k b))=some (.lit (.int k (k.wrap ((BitVec.ofInt k.bits a|||BitVec.ofInt k.bits b).toNat:Nat)))):=by simp[b8,cD,eqGuard,binOp,Op.intBits,bz,db]
theorem Kr{b:Int}:b8 P .andNot t x y (.lit (.int k a)) (.lit (.int k b))=some (.lit (.int k (k.wrap ((BitVec.ofInt k.bits a&&& ~~~BitVec.ofInt k.bits b).toNat:Nat)))):=by simp[b8,cD,eqGuard,binOp,Op.intBits,bz,db]
theorem Mm(n:Nat):b8 P .shr t x y (.lit (.int k a)) (.lit (.int k' (n:Int)))=some (.lit (.int k (a.fdiv (2^min n k.bits)))):=by have h1:¬((n:Int)<0):=aa;simp[b8,cD,eqGuard,binOp,Op.shift,db,BU h1];exact⟨_,rfl,rfl⟩
theorem Tg(n:Nat):b8 P .shl t x y (.lit (.int k a)) (.lit (.int k' (n:Int)))=some (.lit (.int k (k.wrap (a*2^min n k.bits)))):=by have h1:¬((n:Int)<0):=aa;simp[b8,cD,eqGuard,binOp,Op.shift,db,BU h1];exact⟨_,rfl,rfl⟩
theorem UV(n:Nat)(h:n<18446744073709551616):IntKind.u64.wrap (n:Int)=(n:Int):=by rw[IntKind.wrap_u64];omega
theorem ju(a b:Nat):∀p q:DC,b8 P .and t p q (uG a) (uG b)=some (uG (bD a b)):=λp q=>by
 show b8 P .and t p q (.lit (.int .u64 (a:Int))) (.lit (.int .u64 (b:Int)))=_;rw[Ml];have e:(BitVec.ofInt IntKind.u64.bits (a:Int)&&&BitVec.ofInt IntKind.u64.bits (b:Int)).toNat=bD a b:=by show(BitVec.ofInt 64 (a:Int)&&&BitVec.ofInt 64 (b:Int)).toNat=_;rw[BitVec.ofInt_natCast,BitVec.ofInt_natCast,BitVec.toNat_and,BitVec.toNat_ofNat,BitVec.toNat_ofNat];rfl
 rw[e,UV _ ?_];exact Nat.and_lt_two_pow (n:=64) _ (Nat.mod_lt _ Cd)
theorem jc(a b:Nat):∀p q:DC,b8 P .or t p q (uG a) (uG b)=some (uG (gM a b)):=λp q=>by
 show b8 P .or t p q (.lit (.int .u64 (a:Int))) (.lit (.int .u64 (b:Int)))=_;rw[V7];have e:(BitVec.ofInt IntKind.u64.bits (a:Int)|||BitVec.ofInt IntKind.u64.bits (b:Int)).toNat=gM a b:=by show(BitVec.ofInt 64 (a:Int)|||BitVec.ofInt 64 (b:Int)).toNat=_;rw[BitVec.ofInt_natCast,BitVec.ofInt_natCast,BitVec.toNat_or,BitVec.toNat_ofNat,BitVec.toNat_ofNat];rfl
 rw[e,UV _ ?_];exact Nat.or_lt_two_pow (n:=64) (Nat.mod_lt _ Cd) (Nat.mod_lt _ Cd)
theorem V8(a b:Int):∀p q:DC,b8 P .and t p q (iG a) (iG b)=some (iG (Yn a b)):=λp q=>Ml
theorem NW(a b:Int):∀p q:DC,b8 P .andNot t p q (iG a) (iG b)=some (iG (wH a b)):=λp q=>Kr
theorem Uc{k':IntKind}(a n:Nat):∀p q:DC,b8 P .shr t p q (uG a) (.lit (.int k' (n:Int)))=some (uG (Jq a n)):=by grind [Mm,IntKind.bits,Jq]
theorem Ks{k':IntKind}(a n:Nat):∀p q:DC,b8 P .shl t p q (uG a) (.lit (.int k' (n:Int)))=some (uG (HB a n)):=by grind [Tg,IntKind.bits,HB,IntKind.wrap_u64]
theorem V9{k':IntKind}(a:Int)(n:Nat):∀p q:DC,b8 P .shr t p q (iG a) (.lit (.int k' (n:Int)))=some (iG (Tf a n)):=λp q=>Mm n
theorem Et(h:wJ i=some n):i=(n:Int):=by grind [wJ]
end
theorem Am{P:Bu}{t:Bk}(a:Nat)(h:wJ i=some n):∀p q:DC,b8 P .shr t p q (uG a) (iG i)=some (uG (Jq a n)):=by rw[Et h];exact Uc a n
theorem sM{P:Bu}{t:Bk}(a:Nat)(h:wJ i=some n):∀p q:DC,b8 P .shl t p q (uG a) (iG i)=some (uG (HB a n)):=by rw[Et h];exact Ks a n
theorem A3.isNil{P:Bu}{ts te:Bk}{k:Nat}{α:Type}{f:α->Bn}(R:A3 P ts te k f){l:List α}(h:l.flatMap f=[]):l=[]:=by
 have h1:=R.len l;rw[h] at h1;have h2:=R.kp;cases l with
 |nil=>rfl
 |cons x r=>grind [A3]
theorem mV{b:Nat}{r:List α}(h:aT b [] []=some r):r=[]:=by grind [aT]
section
variable {P:Bu} {ta te:Bk} {k:Nat} {α:Type} {f:α->Bn}
structure Ac2 (P:Bu) (ta te:Bk) (n k:Nat):Prop where
 no:dp P ta=none
 ar:ND P ta=some (n,te)
 sz:bw P te=some k
theorem Ac2.ix{n:Nat}(A:Ac2 P ta te n k){xs:List α}{L:Bn}{i:Int}{x:α}(h:aS xs i=some x)(hl:xs.length=n):fh P ta (.ptr L 0) i=some (.ptr L (i.toNat*k)):=by obtain⟨h0,h1⟩:=G9 h;have hlt:=(cr h1).1;unfold fh;grind [Ac2,wo]
end
abbrev I1:=FM Ab Int
section
attribute [local irreducible] Tr dz Gp
theorem gP(n:Nat):wU (n:Int)=n%18446744073709551616:=by grind [zk,IntKind.wrap_u64]
theorem Ng{a b:Nat}(h:a*b<18446744073709551616):lD .mul (uG (a:Int)) (uG (b:Int))=some (uG ((a*b:Nat):Int)):=by rw[na,<-Int.natCast_mul,gP,M6 h]
theorem Pt{a b:Nat}(h:a+b<18446744073709551616):lD .add (uG (a:Int)) (uG (b:Int))=some (uG ((a+b:Nat):Int)):=by rw[gV,<-Int.natCast_add,gP,M6 h]
theorem Ab3{a b:Nat}(h:b≠0)(ha:a<18446744073709551616):lD .quo (uG (a:Int)) (uG (b:Int))=some (uG ((a/b:Nat):Int)):=by rw[zm a b h,gP,M6 (Nat.lt_of_le_of_lt (Nat.div_le_self ..) ha)]
theorem Ru(A B:Nat)(L M H:Nat)(hL:L=A%4294967296*(B%4294967296))(hM:M=A/4294967296*(B%4294967296)+A%4294967296*(B/4294967296))(a:H=A/4294967296*(B/4294967296)):
  (L%2305843009213693951+M%536870912*4294967296+M/536870912+8*H)%2305843009213693951=A*B%2305843009213693951:=by
 have hx:A*B=L+M*4294967296+H*18446744073709551616:=by grind [Nat.div_add_mod']
 rw[hx]
 omega
def oQ(a b:Nat):Fo:=some (a*b%2305843009213693951)
theorem nK{a b}:DG prog gl (oQ a b) 236 [uG a,uG b] (λr:Nat=>uG r):=λr h=>by obtain rfl:=Bo h;refine Gh func236 ?_;have h11:=iD a 2305843009213693951 Cd;have h13:=iD b 2305843009213693951 Cd;have hA:=Nat.mod_lt a (show 0<2305843009213693951 by decide);have hB:=Nat.mod_lt b (show 0<2305843009213693951 by decide);rw[Nat.mul_mod,<-Ru _ _ _ _ _ rfl rfl rfl];generalize a%2305843009213693951=A at*;generalize b%2305843009213693951=B at*;have b0:A%4294967296*(B%4294967296)<=4294967295*4294967295:=Nat.mul_le_mul aa aa;have b1:A/4294967296*(B%4294967296)<=536870911*4294967295:=Nat.mul_le_mul aa aa;have b2:A%4294967296*(B/4294967296)<=4294967295*536870911:=Nat.mul_le_mul aa aa;have b3:A/4294967296*(B/4294967296)<=536870911*536870911:=Nat.mul_le_mul aa aa;have c:=iD A 4294967296 Cd;have d:=iD B 4294967296 Cd;have e:=Ab3 (a:=A) (b:=4294967296) Cd aa;have f:=Ab3 (a:=B) (b:=4294967296) Cd aa;have g:=Ng (Nat.lt_of_le_of_lt b0 Cd);have i:=Ng (Nat.lt_of_le_of_lt b1 Cd);have j:=Ng (Nat.lt_of_le_of_lt b2 Cd);have k:=Ng (Nat.lt_of_le_of_lt b3 Cd);generalize A%4294967296*(B%4294967296)=p at*;generalize A/4294967296*(B%4294967296)=q at*;generalize A%4294967296*(B/4294967296)=s at*;generalize A/4294967296*(B/4294967296)=t at*;have l:=Pt (a:=q) (b:=s) aa;have bm:q+s<18446744073709551616:=aa;generalize q+s=m at*;exact Ar [hbb 11 h11,hbb 13 h13,hbb 16 c,hbb 19 d,hbb 20 g,hbb 23 e,hbb 26 d,hbb 27 i,hbb 30 c,hbb 33 f,hbb 34 j,hbb 35 l,hbb 38 e,hbb 41 f,hbb 42 k,hbb 44 (iD p 2305843009213693951 Cd),hbb 47 (iD m 536870912 Cd),hbb 49 (Ng (a:=m%536870912) (b:=4294967296) aa),hbb 50 (Pt (a:=p%2305843009213693951) (b:=m%536870912*4294967296) aa),hbb 53 (Ab3 (a:=m) (b:=536870912) Cd bm),hbb 54 (Pt (a:=p%2305843009213693951+m%536870912*4294967296) (b:=m/536870912) aa),hbb 56 (Ng (a:=8) (b:=t) aa),hbb 57 (Pt (a:=p%2305843009213693951+m%536870912*4294967296+m/536870912) (b:=8*t) aa),hbb 58 (iD (p%2305843009213693951+m%536870912*4294967296+m/536870912+8*t) 2305843009213693951 Cd)] []
theorem TQ(a:Nat):Jq a 32=a/4294967296:=rfl
theorem AgY{a:Nat}(h:a<18446744073709551616):bD a 4294967295=a%4294967296:=by unfold bD;rw[M6 h];exact Nat.and_two_pow_sub_one_eq_mod a 32
theorem Aja(a:Nat)(h:a<18446744073709551616):∀p q:DC,b8 prog .and 23 p q (uG a) (uG 4294967295)=some (uG ((a%4294967296:Nat):Int)):=by rw[<-AgY h];exact ju a 4294967295
theorem AeP(a:Nat):∀p q:DC,b8 prog .shr 23 p q (uG a) (.lit (.int .u64 ((32:Nat):Int)))=some (uG ((a/4294967296:Nat):Int)):=by rw[<-TQ];exact Uc a 32
def sL(x y:Nat):Option (Nat×Nat):=bif x<18446744073709551616/\y<18446744073709551616 then some (x*y/18446744073709551616,x*y%18446744073709551616)else none
theorem FY{x y}:DG prog gl (sL x y) 300 [uG x,uG y] (λr=> .tup [uG r.1,uG r.2]):=λr h=>by
 unfold sL at h;cases c:decide (x<18446744073709551616/\y<18446744073709551616) with
 |false=>rw[c] at h;cases h
 |true=>rw[c] at h;obtain rfl:=Bo h;obtain⟨hx,hy⟩:=DS c;refine Gh func300 ?_;have g:=na (x:Int) (y:Int);rw[<-Int.natCast_mul,gP] at g;obtain⟨h1,h2,h3,h4⟩:=Lib.mul64_hi x y hx hy;have ha:=Lib.half_mul_le (a:=x/4294967296) (b:=y/4294967296) aa aa;have hb:=Lib.half_mul_le (a:=x/4294967296) (b:=y%4294967296) aa aa;have hc:=Lib.half_mul_le (a:=x%4294967296) (b:=y/4294967296) aa aa;have hd:=Lib.half_mul_le (a:=x%4294967296) (b:=y%4294967296) aa aa;have i:=Ng (Nat.lt_of_le_of_lt hd Cd);have j:=Ng (Nat.lt_of_le_of_lt hb Cd);have k:=Ng (Nat.lt_of_le_of_lt hc Cd);have l:=Ng (Nat.lt_of_le_of_lt ha Cd);have m:=Aja x hx;have n:=AeP x;have o:=Aja y hy;have p:=AeP y;rw[<-h4];generalize (x/4294967296)*(y/4294967296)=a at*;generalize (x/4294967296)*(y%4294967296)=b at*;generalize (x%4294967296)*(y/4294967296)=c at*;generalize (x%4294967296)*(y%4294967296)=d at*;have q:=Pt h2;have s:=Aja _ h2;have t:=AeP (b+d/4294967296);have u:=Pt h3;generalize b+d/4294967296=e at*;have v:=Pt (a:=a) (b:=e/4294967296) aa;have w:=AeP (e%4294967296+c);generalize e%4294967296+c=f at*;exact Ar [hV 15 m,hV 17 n,hV 19 o,hV 21 p,hbb 24 i,hbb 27 j,hV 29 (AeP d),hbb 30 q,hV 32 s,hV 34 t,hbb 38 k,hbb 39 u,hbb 42 l,hbb 44 v,hV 46 w,hbb 47 (Pt (a:=a+e/4294967296) (b:=f/4294967296) aa),hbb 50 g] []
end
section
set_option maxHeartbeats 2000000
attribute [local irreducible] Tr dz Gp
def DJ(s1:Nat×CY):Option ((Nat×CY)⊕(Nat×CY)):=
 bif ((127:Nat):Int)<(s1.1:Int)then((aT 1 s1.2 ([wY ((((wY ((s1.1%128:Nat):Int)).toNat:Nat):Int)+(((128:UInt8).toNat:Nat):Int))]:CY)).bind λa=>some (.inl (wU ((s1.1/128:Nat):Int),a)))else(some (.inr (s1.1,s1.2)))
def jl(k:Nat):Option CY:=
 (AQ (DJ) (k,[])).bind λb=>(aT 1 b.2 ([wY (b.1:Int)]:CY)).bind λa=>some a
theorem LO{k}:M1 prog gl (jl k) 96 [uG k] 5 cY:=
 gc func96 λK=>HU 1110 (λa=>so [] [(0,uG a.1),(3,.rsl 0 0 a.2.length)] [ob 0 5 (a.2.flatMap cY)] 1) (λs1=>so [] [(0,uG s1.1),(3,.rsl 0 0 s1.2.length)] [ob 0 5 (s1.2.flatMap cY)] 1) [hc (rY.imm [])] (λa=>Gb (dg 19 rY) λc=>aw [AH 17 (Iz (a.1:Int))]<|mr c0 K (rY.imm _)) λs1 k5 d=>aF 5 (Gb (dg 12 rY) λb=>aw [hbb 8 (iD s1.1 128 Cd),AH 9 (Iz ((s1.1%128:Nat):Int)),hbb 10 (YK (wY ((s1.1%128:Nat):Int)) (128:UInt8)),hbb 14 (zm s1.1 128 Cd)]<|cj k5 (DL rY b))<|aA c1 d (DL rY s1.2)
def cg(n:Int):Option CY:=
 bif n<0 then((jl (wU (((wU (((wU (wI (0-(wI (n+1)))):Nat):Int)*((2:Nat):Int)):Nat):Int)+((1:Nat):Int)))).bind λv2=>some v2)else((jl (wU (((wU n:Nat):Int)*((2:Nat):Int)))).bind λa=>some a)
theorem eZ{n}:M1 prog gl (cg n) 94 [iG n] 5 cY:=
 gc func94 λK=>aF 4 (ak λv2 e3=>aw [AH 8 (C8 (wI (0-(wI (n+1))))),hbb 9 (na ((wU (wI (0-(wI (n+1)))):Nat):Int) ((2:Nat):Int)),hbb 10 (gV ((wU (((wU (wI (0-(wI (n+1)))):Nat):Int)*((2:Nat):Int)):Nat):Int) ((1:Nat):Int)),ho 11 [uG (wU (((wU (((wU (wI (0-(wI (n+1)))):Nat):Int)*((2:Nat):Int)):Nat):Int)+((1:Nat):Int)))] [] (LO gl e3) (lY v2)]<|mr c0 K (rY.imm _))<|ak λa e5=>aw [AH 13 (C8 n),hbb 14 (na ((wU n:Nat):Int) ((2:Nat):Int)),ho 15 [uG (wU (((wU n:Nat):Int)*((2:Nat):Int)))] [] (LO gl e5) (lY a)]<|mr c0 K (rY.imm _)
def iJ(a:Ab):Option CY:=
 (cg a.By).bind λv1=>(cg a.Seq).bind λb=>(aT 1 v1 b).bind λc=>(jl a.Sum).bind λd=>(aT 1 c d).bind λe=>some e
theorem GO{id_}:M1 prog gl (iJ id_) 97 [.agg (aj id_)] 5 cY:=
 gc func97 λK=>ak λv1 e2=>Jt 9 rY (eZ gl) λa=>Gb (eu 10 rY) λb=>Jt 14 rY (LO gl) λc=>Gb (eu 15 rY) λd=>aw [ho 6 [iG id_.By] [] (eZ gl e2) (lY v1)]<|mr c0 K (rY.imm _)
def r6(s1:Nat×Nat×Nat):Option ((Nat×Nat×Nat)⊕(Nat)):=
 bif ((0:Nat):Int)<(s1.2.2:Int)then((bif ((s1.2.2%2:Nat):Int)=((1:Nat):Int)then((oQ s1.1 s1.2.1).bind λa=>some a)else(some s1.1)).bind λb=>(oQ s1.2.1 s1.2.1).bind λc=>some (.inl (b,c,wU ((s1.2.2/2:Nat):Int))))else(some (.inr s1.1))
def iK(a:Nat)(n:Nat):Fo:=
 (AQ (r6) (1,a%2305843009213693951,n)).bind λb=>some b
theorem lc{a n}:DG prog gl (iK a n) 140 [uG a,uG n] (λr:Nat=>uG r):=
 cy func140 λK=>aw [hbb 9 (iD a 2305843009213693951 Cd)]<|HU 111101 (λd=>sg [] [(5,uG d)]) (λs1=>sg [] [(5,uG s1.1),(6,uG s1.2.1),(7,uG s1.2.2)]) [] (λd=>rv K) λs1 k5 e=>aF 12 (aw [hbb 16 (iD s1.2.2 2 Cd)]<|cN 1111012210201 (sf [] [(17,bG (decide (((s1.2.2%2:Nat):Int)=((1:Nat):Int))))]) []<|cC 1111012210201 (λb=>sf [17] [(5,uG b)]) (λb=>BG 23 (nK gl) λf=>aw [hbb 14 (zm s1.2.2 2 Cd)]<|rb k5) λb c=>eH [17] (BG 20 (nK gl) λg=>rx c)<|rx c)<|aA c1 e []
def iq(n:Int)(most:Int):JJ:=
 bif n<0 then((u9 (wI (0-(wI (n+1)))) most).bind λa=>some a)else((u9 n most).bind λb=>some b)
theorem iL{n most}:DG prog gl (iq n most) 12 [iG n,iG most] iG:=
 cy func12 λK=>aF 6 (ak λa e3=>aw [hbb 12 (KO e3)]<|rv K)<|ak λb e5=>aw [hbb 12 (KO e5)]<|rv K
def Jf(cards:Mj):Option Ba:=
 some ⟨cards,[],[],[],[]⟩
theorem M8{cards}:DG prog gl (Jf cards) 50 [aE bv cards] (λr=> .agg (aI r)):=
 cy func50 λK=>rv K
def xo(a:Nat):Fo:=
 (iK 37 a).bind λv1=>some v1
theorem r7{a}:DG prog gl (xo a) 120 [uG a] (λr:Nat=>uG r):=
 cy func120 λK=>BG 4 (lc gl) λv1=>rv K
def my(b:CY)(s1:Br×Int)(a:Nat×Int):Option ((Nat×Int)⊕(Nat)):=
 bif s1.2<=a.2 then((aS b a.2).bind λc=>some (.inl (wU (((wU ((a.1:Int)*((256:Nat):Int)):Nat):Int)+((wU (c.toNat:Int):Nat):Int)),wI (a.2-1))))else(some (.inr a.1))
def qh(b:CY)(s1:Br×Int):Option ((Br×Int)⊕Br):=
 bif s1.2<ah b then((AQ (my b s1) (0,wI ((iI (ah b) (wI (s1.2+7)))-1))).bind λa=>(aT 8 s1.1 ([a]:Br)).bind λc=>some (.inl (c,wI (s1.2+7))))else(some (.inr s1.1))
def LV(b:CY):Option Br:=
 (AQ (qh b) ([],0)).bind λa=>some a
theorem yz{b}:M1 prog gl (LV b) 216 [aE cY b] 23 cW:=
 gc func216 λK=>HU 11101 (λe=>sp [] [(3,.rsl 0 0 e.length)] [ob 0 23 (e.flatMap cW)] 1) (λs1=>so [] [(3,.rsl 0 0 s1.1.length),(4,iG s1.2)] [ob 0 23 (s1.1.flatMap cW)] 1) [hc (rW.imm [])] (λe=>mr c0 K (rW.imm _)) λs1 k5 i=>aF 10 (HU 1110122102101 (λc=>sf [] [(5,uG c)]) (λa=>sf [] [(5,uG a.1),(6,iG a.2)]) (DL rW s1.1) (λc=>Gb (dg 35 rW) λf=>cj k5 (DL rW f)) λa g h=>aF 21 (CC 28 rY.ixZ 29 (rY.p1Y tY) λd=>aw [hbb 25 (na (a.1:Int) ((256:Nat):Int)),AH 30 (C8 (d.toNat:Int)),hbb 31 (gV ((wU ((a.1:Int)*((256:Nat):Int)):Nat):Int) ((wU (d.toNat:Int):Nat):Int))]<|cj g (DL rW s1.1))<|aA c1 h (DL rW s1.1))<|aA c1 i (DL rW s1.1)
def qi(a:Nat)(b:Nat):Fo:=
 some ((wU (((a%2305843009213693951:Nat):Int)+((b%2305843009213693951:Nat):Int)))%2305843009213693951)
theorem ZO{a b}:DG prog gl (qi a b) 301 [uG a,uG b] (λr:Nat=>uG r):=
 cy func301 λK=>aw [hbb 6 (iD a 2305843009213693951 Cd),hbb 8 (iD b 2305843009213693951 Cd),hbb 9 (gV ((a%2305843009213693951:Nat):Int) ((b%2305843009213693951:Nat):Int)),hbb 10 (iD (wU (((a%2305843009213693951:Nat):Int)+((b%2305843009213693951:Nat):Int))) 2305843009213693951 Cd)]<|rv K
def qj(b:Br)(a:Nat×Int):Option ((Nat×Int)⊕(Nat)):=
 bif a.2<ah b then((oQ 37 a.1).bind λc=>(aS b a.2).bind λd=>(qi d (wU (wI (a.2+1)))).bind λe=>(qi c e).bind λf=>(iK f 17).bind λg=>some (.inl (g,wI (a.2+1))))else(some (.inr a.1))
def qk(l:Br)(a:Br×Int):Option ((Br×Int)⊕Br):=
 bif a.2<ah l then((aS l a.2).bind λb=>(aT 8 a.1 ([b%2305843009213693951]:Br)).bind λc=>some (.inl (c,wI (a.2+1))))else(some (.inr a.1))
def yA(label:CY)(l:Br):Fo:=
 (Gk label).bind λc=>(LV c).bind λd=>(aT 8 d ([wU (ah l)]:Br)).bind λe=>(AQ (qk l) (e,0)).bind λf=>(aT 8 f ([0]:Br)).bind λa=>(AQ (qj a) (wU (ah label),0)).bind λb=>some b
theorem AD{label l}:DG prog gl (yA label l) 215 [sG label,aE cW l] (λr:Nat=>uG r):=
 cy func215 λK=>ak λk e2=>ak λm e4=>Gb (dg 17 rW) λn=>aw [AH 15 (C8 (ah l)),hcB 11 e2,ho 12 [aE cY k] [] (yz gl e4) (lW m)]<|HU 11101 (λe=>so [1] [(5,.rsl 0 0 e.length)] [ob 0 23 (e.flatMap cW)] 1) (λb=>so [] [(5,.rsl 0 0 b.1.length),(6,iG b.2)] [ob 0 23 (b.1.flatMap cW)] 1) (DL rW n) (λe=>Gb (dg 34 rW) λc=>aw [hL 36 label,AH 37 (C8 (ah label))]<|HU 11111101 (λd=>sk [] [(7,uG d)] [] 0) (λa=>sk [] [(5,aE cW c),(7,uG a.1),(8,iG a.2)] [] 0) [hc (rW.al c)] (λd=>rv K) λa f g=>aF 41 (BG 45 (nK gl) λo=>CC 48 rW.ixZ 49 (rW.p1Y tW) λp=>BG 53 (ZO gl) λq=>BG 54 (ZO gl) λs=>BG 56 (lc gl) λt=>aw [AH 52 (C8 (wI (a.2+1)))]<|rb f)<|aA c1 g []) λb k11 h=>aF 21 (CC 27 rW.ixZ 28 (rW.p1Y tW) λi=>Gb (dg 31 rW) λj=>aw [hbb 29 (iD i 2305843009213693951 Cd)]<|cj k11 (DL rW j))<|aA c1 h (DL rW b.1)
def Nl(label:CY)(l:Br):Fo:=
 (yA label l).bind λv1=>some (wU (((1:Nat):Int)+((v1%2305843009213693949:Nat):Int)))
theorem vo{label l}:DG prog gl (Nl label l) 138 [sG label,aE cW l] (λr:Nat=>uG r):=
 cy func138 λK=>BG 7 (AD gl) λv1=>aw [hbb 8 (iD v1 2305843009213693949 Cd),hbb 9 (gV ((1:Nat):Int) ((v1%2305843009213693949:Nat):Int))]<|rv K
def lf(kind:CY)(device:Int):Fo:=
 (Nl kind ([wU device]:Br)).bind λv1=>some v1
theorem kG{kind device}:DG prog gl (lf kind device) 70 [sG kind,iG device] (λr:Nat=>uG r):=
 cy func70 λK=>ak λv1 e2=>aw [AH 7 (C8 device),hq 9 [sG kind,aE cW ([wU device]:Br)] [hc (rW.al ([wU device]:Br))] (vo gl e2)]<|rv K
def GP(a:Bp)(s1:Mj×Int):Option ((Mj×Int)⊕Mj):=
 bif s1.2<ah a then((aS a s1.2).bind λb=>(lf [108,101,97,100] (wI (s1.2+1))).bind λc=>(xo c).bind λd=>(lf [107,101,101,112] (wI (s1.2+1))).bind λe=>(xo e).bind λf=>(lf [115,105,103,110] (wI (s1.2+1))).bind λg=>(xo g).bind λh=>(aT 40 s1.1 [(⟨wI (s1.2+1),b,d,f,h⟩:DQ)]).bind λi=>some (.inl (i,wI (s1.2+1))))else(some (.inr s1.1))
def ql(a:Bp):Option Mj:=
 (AQ (GP a) ([],0)).bind λb=>some b
theorem GQ{owners}:M1 prog gl (ql owners) 51 [aE cZ owners] 145 bv:=
 gc func51 λK=>HU 11101 (λa=>sp [] [(3,.rsl 0 0 a.length)] [ob 0 145 (a.flatMap bv)] 1) (λs1=>so [] [(3,.rsl 0 0 s1.1.length),(4,iG s1.2)] [ob 0 145 (s1.1.flatMap bv)] 1) [hc (bT.imm [])] (λa=>mr c0 K (bT.imm _)) λs1 k5 c=>aF 9 (CC 18 rZ.ixZ 19 (rZ.p1Y tZ) λd=>BG 21 (kG gl) λe=>BG 22 (r7 gl) λf=>BG 24 (kG gl) λg=>BG 25 (r7 gl) λh=>BG 27 (kG gl) λi=>BG 28 (r7 gl) λj=>Gb (dg 31 bT) λb=>cj k5 (DL bT b))<|aA c1 c (DL bT s1.1)
def jI(label:CY)(b:CY):Fo:=
 (LV b).bind λv1=>(aT 8 v1 ([wU (ah b)]:Br)).bind λa=>(yA label a).bind λc=>some c
theorem yB{label b}:DG prog gl (jI label b) 124 [sG label,aE cY b] (λr:Nat=>uG r):=
 cy func124 λK=>ak λv1 e2=>Gb (dg 12 rW) λa=>ak λc e6=>aw [AH 10 (C8 (ah b)),ho 7 [aE cY b] [] (yz gl e2) (lW v1),hq 13 [sG label,aE cW a] [hc (rW.al a)] (AD gl e6)]<|rv K
def Ph(b:CY):Fo:=
 (jI [115,105,103,110,101,100] b).bind λv1=>some v1
theorem LH{b}:DG prog gl (Ph b) 139 [aE cY b] (λr:Nat=>uG r):=
 cy func139 λK=>BG 4 (yB gl) λv1=>rv K
def fV:Fo:=
 some 2305843009213693950
theorem eU:DG prog gl (fV) 143 [] (λr:Nat=>uG r):=
 cy func143 λK=>rv K
def yC(a:Nat×Nat×Nat):Option ((Nat×Nat×Nat)⊕(Nat)):=
 bif ((0:Nat):Int)<(a.2.1:Int)then((bif ((a.2.1%2:Nat):Int)=((1:Nat):Int)then((fV).bind λb=>(CH (wU ((a.2.2:Int)+(a.1:Int))) b).bind λc=>some c)else(some a.2.2)).bind λd=>(fV).bind λe=>(CH (wU ((a.1:Int)+(a.1:Int))) e).bind λf=>some (.inl (f,wU ((a.2.1/2:Nat):Int),d)))else(some (.inr a.2.2))
def vp(a:Nat)(b:Nat):Fo:=
 (fV).bind λv1=>(CH a v1).bind λd=>(fV).bind λe=>(CH b e).bind λf=>(AQ (yC) (d,f,0)).bind λc=>some c
theorem GT{a b}:DG prog gl (vp a b) 141 [uG a,uG b] (λr:Nat=>uG r):=
 cy func141 λK=>BG 7 (eU gl) λv1=>ak λm e4=>BG 10 (eU gl) λn=>ak λo e8=>aw [hbb 8 (YI e4),hbb 11 (YI e8)]<|HU 111110 (λe=>sg [] [(5,uG e)]) (λc=>sf [] [(0,uG c.1),(1,uG c.2.1),(5,uG c.2.2)]) [] (λe=>rv K) λc k13 k12=>aF 13 (aw [hbb 15 (iD c.2.1 2 Cd)]<|cN 111110221201 (sf [] [(16,bG (decide (((c.2.1%2:Nat):Int)=((1:Nat):Int))))]) []<|cC 111110221201 (λd=>sf [16] [(5,uG d)]) (λd=>BG 25 (eU gl) λi=>ak λj g=>aw [hbb 24 (gV (c.1:Int) (c.1:Int)),hbb 28 (zm c.2.1 2 Cd),hbb 26 (YI g)]<|rb k13) λd f=>eH [16] (BG 20 (eU gl) λk=>ak λl h=>aw [hbb 19 (gV (c.2.2:Int) (c.1:Int)),hbb 21 (YI h)]<|rx f)<|rx f)<|aA c1 k12 []
def Pi(c:Nat)(pub:Nat)(b:CY):Fo:=
 (Ph b).bind λv1=>(yA [115,105,103] ([c,pub,v1]:Br)).bind λa=>some a
theorem LI{r_ pub b}:DG prog gl (Pi r_ pub b) 142 [uG r_,uG pub,aE cY b] (λr:Nat=>uG r):=
 cy func142 λK=>BG 10 (LH gl) λv1=>ak λa e4=>aw [hq 12 [sG [115,105,103],aE cW ([r_,pub,v1]:Br)] [hc (rW.al ([r_,pub,v1]:Br))] (AD gl e4)]<|rv K
def zX(a:Nat)(b:CY):Option Ya:=
 (Ph b).bind λv1=>(Nl [110,111,110,99,101] ([a,v1]:Br)).bind λf=>(iK 37 f).bind λg=>(xo a).bind λh=>(Pi g h b).bind λi=>(vp i a).bind λc=>(fV).bind λd=>(CH (wU ((f:Int)+(c:Int))) d).bind λe=>some ⟨g,e⟩
theorem Jg{a b}:DG prog gl (zX a b) 69 [uG a,aE cY b] (λr=> .agg (yy r)):=
 cy func69 λK=>BG 10 (LH gl) λv1=>ak λd e4=>BG 14 (lc gl) λg=>BG 17 (r7 gl) λh=>BG 19 (LI gl) λi=>BG 21 (GT gl) λc=>BG 26 (eU gl) λe=>ak λf e16=>aw [hbb 25 (gV (d:Int) (c:Int)),hq 12 [sG [110,111,110,99,101],aE cW ([a,v1]:Br)] [hc (rW.al ([a,v1]:Br))] (vo gl e4),hbb 27 (YI e16)]<|rv K
end
end Go.Proofs.YtdpdicldkohflaaGreatDoor
