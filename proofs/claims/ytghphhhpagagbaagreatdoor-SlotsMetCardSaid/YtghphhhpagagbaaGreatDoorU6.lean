/- slots.Cover: what it tells. -/
import Derived.Test.YtghphhhpagagbaaGreatDoorU7
namespace Go.Proofs.YtghphhhpagagbaaGreatDoor
set_option linter.unusedSectionVars false
set_option linter.unusedVariables false
set_option linter.unusedSimpArgs false
open Go.RowKit Go.Proofs.Tryz
attribute [local irreducible] Tr dz Gp
variable {s:Bj}
def bo(I:Gi)(ss:Ab->Lw)(cs:Bf):Nat->Bj->List Vz
 |0,_=>[]
 |n+1,s=>match OP I ss cs s with
  |some q=>[q]
  |none=>if 1<s.length then bo I ss cs n (s.take (YC s.length))++bo I ss cs n (s.drop (YC s.length)) else[]
theorem dF(h:1<s.length)(hs:s.length<=1000):ba prog fI 95 [aE cZ s] (.tup [aE cZ (s.take (YC s.length)),aE cZ (s.drop (YC s.length))])/\(s.take (YC s.length)).length<s.length/\(s.drop (YC s.length)).length<s.length/\(s.take (YC s.length)).length+(s.drop (YC s.length)).length=s.length:=by obtain⟨e,k1,k2⟩:=YD (n:=s.length) aa aa;refine⟨Aa6 fI (r:=(s.take (YC s.length),s.drop (YC s.length))) ?_,by simp;omega,by simp;omega,by simp;omega⟩;unfold Nk fF;rw[Dd (show¬ah s<2 by unfold ah;omega),Bg,show ah s=(s.length:Int) from rfl,AgG,e,Bp];refine T.eq (.bind (.pre aa aa (.bind (.app cq (.bind (.suf aa aa (.bind (.app cq (.some ?_)))))))));simp
section
variable {g:Ba} {m:JN} {N:JL} (P:Pg g m N) (h14:g.L.length<=14) (hkn:∀(k:Nat) (o:Bq),g.L[k]?=some o->Kn o)
include P h14 hkn
theorem dQ{cs:Bf}(hcs:∀x∈cs,TD g (CA g m N) x=true)(hn:cs.length<=14){set:Bj}(hl:set.length<=1000000):∃s,ba prog fI 57 [.ptr (Ag ⟨g.Cards,m,N⟩) 0,aE aj cs,aE cZ set] (.tup [.agg (Hd s),bG (OP (CA g m N) (λx=>M4 g ((CA g m N).o x)) cs set).isSome])/\∀q,OP (CA g m N) (λx=>M4 g ((CA g m N).o x)) cs set=some q->s=q:=
 Ai5 (YF (VB P.w P.p)) (λx=>Abc P h14 hkn x) aa hl λx hx=>by obtain⟨i,o,_,_,e,_,h1,h2,h3,_⟩:=ZZ P h14 hkn (hcs x hx);rw[e];exact⟨h1,h2,h3.n,λs hs=>(h3.m s hs).2.1⟩
end
theorem cQ{I:Gi}{ss:Ab->Lw}{cs:Bf}:OP I ss cs []=none:=by unfold OP;rw[show SF cs []=[] by simp[SF,LB]];rfl
theorem bU{I:Gi}{ss:Ab->Lw}{cs:Bf}:∀(n:Nat) (s:Bj),(bo I ss cs n s).length<=s.length
 |0,_=>by simp[bo]
 |n+1,s=>by
  unfold bo;split
  .rename_i q h;cases s with
   |nil=>rw[cQ] at h;cases h
   |cons a s=>simp
  .split
   .have a:=bU (I:=I) (ss:=ss) (cs:=cs) n (s.take (YC s.length));have b:=bU (I:=I) (ss:=ss) (cs:=cs) n (s.drop (YC s.length));rw[Mh] at a;rw[List.length_drop] at b;rw[RU];omega
   .simp
section
variable {g:Ba} {m:JN} {N:JL} {cs:Bf}
abbrev cP(g:Ba)(m:JN)(N:JL)(cs:Bf):Bn:=[.ptr [Z8 g.Cards m N] 0,.ptr [aE aj cs] 0,.ref 0 0,.ref 1 0]
abbrev dI(l:List Vz):Option Ob:=some ⟨48,l.flatMap Hd,none⟩
abbrev bW(g:Ba)(m:JN)(N:JL)(cs:Bf)(j:Nat)(l:List Vz):aQ:=[ob 0 53 [.rsl j 0 l.length],ob 1 156 ([.clo (.func 94) [] (cP g m N cs)]),(j,dI l)]
theorem da{ss:Ab->Lw}{I:Gi}(hK:∀s:Bj,s.length<=1000->∃q,ba prog fI 57 [Z8 g.Cards m N,aE aj cs,aE cZ s] (.tup [.agg (Hd q),bG (OP I ss cs s).isSome])/\∀z,OP I ss cs s=some z->q=z):∀(n:Nat) (s:Bj) (l:List Vz),s.length<n->s.length<=1000->l.length+s.length<=1000000->jg prog fI 94 (aE cZ s::cP g m N cs) (bW g m N cs 2 l) 3 (.tup []) (bW g m N cs (if bo I ss cs n s=[] then 2 else 3) (l++bo I ss cs n s)) (if bo I ss cs n s=[] then 3 else 4)
 |0,_,_,h,_,_=>absurd h (Nat.not_lt_zero _)
 |n+1,s,l,h,hs,hl=>by
  obtain⟨q,h1,h2⟩:=hK s hs;unfold bo;refine pP func94 ?_;cases e:OP I ss cs s with
  |some z=>rw[e] at h1;obtain rfl:=h2 z e;dsimp only;rw[BB (List.cons_ne_nil _ _),BB (List.cons_ne_nil _ _)];exact Ju .normal (s0 36 fI [] (bW g m N cs 3 (l++[q])) 4 3) [] [hf 14 h1,Tn 21 av 64 l q aa] [hc (el (l++[q])),hc (av.imm (l++[q]))] (ρ:=rI 3++[(3,5)]) (kd:=[(3,.row),(999999,.clo)])
  |none=>
   rw[e] at h1;dsimp only;by_cases hl1:1<s.length
   .rw[Bz hl1];have hg:decide ((1:Int)<(s.length:Int))=true:=C6 aa;refine pO 1114130 (s0 36 fI [(0,aE cZ s),(4,.ref 1 0)] (bW g m N cs 2 l) 3 3) [hf 14 h1,hr 24 hg] [hc (el l),hc (av.imm l)] ?_ (ρ:=rI 3) (kd:=[(2,.row),(999999,.clo)]);obtain⟨hk,k1,k2,k3⟩:=dF hl1 hs;have i1:=da hK n (s.take (YC s.length)) l aa aa aa;have c:=λ(a:List Vz) (ha:a.length+(s.drop (YC s.length)).length<=1000000)=>da hK n (s.drop (YC s.length)) a aa aa ha;have b1:=bU (I:=I) (ss:=ss) (cs:=cs) n (s.take (YC s.length));generalize s.take (YC s.length)=u at*;generalize s.drop (YC s.length)=v at*;generalize bo I ss cs n u=x at*;generalize bo I ss cs n v=y at*;cases x with
    |nil=>
     have c:=c l aa;rw[Bz rfl,Bz rfl,Nf] at i1;rw[M7];cases y with
     |nil=>rw[Bz rfl,Bz rfl,Nf] at c⊢;exact Ju .normal (s0 36 fI [] (bW g m N cs 2 l) 3 3) [] [hf 27 hk,tN 32 [0,1,2] 3 (bW g m N cs 2 l) (aE cZ u::cP g m N cs) (bW g m N cs 2 l) i1 ⟨⟨rfl,.inl rfl⟩,⟨rfl,.inl rfl⟩,⟨rfl,.inr ⟨rfl,av.imm l⟩⟩,trivial⟩ ⟨⟨rfl,.inl rfl⟩,⟨rfl,.inl rfl⟩,⟨rfl,.inr ⟨rfl,av.imm l⟩⟩,trivial⟩,tN 35 [0,1,2] 3 (bW g m N cs 2 l) (aE cZ v::cP g m N cs) (bW g m N cs 2 l) c ⟨⟨rfl,.inl rfl⟩,⟨rfl,.inl rfl⟩,⟨rfl,.inr ⟨rfl,av.imm l⟩⟩,trivial⟩ ⟨⟨rfl,.inl rfl⟩,⟨rfl,.inl rfl⟩,⟨rfl,.inr ⟨rfl,av.imm l⟩⟩,trivial⟩] [hc (el l),hc (av.imm l)] (ρ:=rI 3) (kd:=[(2,.row),(999999,.clo)])
     |cons b y=>rw[BB (List.cons_ne_nil _ _),BB (List.cons_ne_nil _ _)] at c⊢;exact Ju .normal (s0 36 fI [] (bW g m N cs 3 (l++b::y)) 4 3) [] [hf 27 hk,tN 32 [0,1,2] 3 (bW g m N cs 2 l) (aE cZ u::cP g m N cs) (bW g m N cs 2 l) i1 ⟨⟨rfl,.inl rfl⟩,⟨rfl,.inl rfl⟩,⟨rfl,.inr ⟨rfl,av.imm l⟩⟩,trivial⟩ ⟨⟨rfl,.inl rfl⟩,⟨rfl,.inl rfl⟩,⟨rfl,.inr ⟨rfl,av.imm l⟩⟩,trivial⟩,tN 35 [0,1,2] 3 (bW g m N cs 2 l) (aE cZ v::cP g m N cs) [ob 0 53 [.rsl 3 0 (l++b::y).length],ob 1 156 ([.clo (.func 94) [] (cP g m N cs)]),(2,none),(3,dI (l++b::y))] c ⟨⟨rfl,.inl rfl⟩,⟨rfl,.inl rfl⟩,⟨rfl,.inr ⟨rfl,av.imm l⟩⟩,trivial⟩ ⟨⟨rfl,.inl rfl⟩,⟨rfl,.inl rfl⟩,⟨rfl,.inr ⟨rfl,av.imm (l++b::y)⟩⟩,trivial⟩] [hc (el (l++b::y)),hc (av.imm (l++b::y))] (ρ:=rI 4) (kd:=[(3,.row),(999999,.clo)])
    |cons a x=>
     rw[BB (List.cons_ne_nil _ _),BB (List.cons_ne_nil _ _)] at i1;have c:=c (l++a::x) (by rw[RU];omega);cases y with
     |nil=>rw[Bz rfl,Bz rfl,Nf] at c;rw[Nf,BB (List.cons_ne_nil _ _),BB (List.cons_ne_nil _ _)];exact Ju .normal (s0 36 fI [] (bW g m N cs 3 (l++a::x)) 4 3) [] [hf 27 hk,tN 32 [0,1,2] 3 (bW g m N cs 2 l) (aE cZ u::cP g m N cs) [ob 0 53 [.rsl 3 0 (l++a::x).length],ob 1 156 ([.clo (.func 94) [] (cP g m N cs)]),(2,none),(3,dI (l++a::x))] i1 ⟨⟨rfl,.inl rfl⟩,⟨rfl,.inl rfl⟩,⟨rfl,.inr ⟨rfl,av.imm l⟩⟩,trivial⟩ ⟨⟨rfl,.inl rfl⟩,⟨rfl,.inl rfl⟩,⟨rfl,.inr ⟨rfl,av.imm (l++a::x)⟩⟩,trivial⟩,tN 35 [0,1,3] 4 (bW g m N cs 3 (l++a::x)) (aE cZ v::cP g m N cs) [ob 0 53 [.rsl 3 0 (l++a::x).length],ob 1 156 ([.clo (.func 94) [] (cP g m N cs)]),(2,dI (l++a::x))] c ⟨⟨rfl,.inl rfl⟩,⟨rfl,.inl rfl⟩,⟨rfl,.inr ⟨rfl,av.imm (l++a::x)⟩⟩,trivial⟩ ⟨⟨rfl,.inl rfl⟩,⟨rfl,.inl rfl⟩,⟨rfl,.inr ⟨rfl,av.imm (l++a::x)⟩⟩,trivial⟩] [hc (el (l++a::x)),hc (av.imm (l++a::x))] (ρ:=rI 4) (kd:=[(3,.row),(999999,.clo)])
     |cons b y=>rw[BB (List.cons_ne_nil _ _),BB (List.cons_ne_nil _ _)] at c;rw[List.cons_append,BB (List.cons_ne_nil _ _),BB (List.cons_ne_nil _ _),<-List.cons_append,<-List.append_assoc];exact Ju .normal (s0 36 fI [] (bW g m N cs 3 (l++a::x++b::y)) 4 3) [] [hf 27 hk,tN 32 [0,1,2] 3 (bW g m N cs 2 l) (aE cZ u::cP g m N cs) [ob 0 53 [.rsl 3 0 (l++a::x).length],ob 1 156 ([.clo (.func 94) [] (cP g m N cs)]),(2,none),(3,dI (l++a::x))] i1 ⟨⟨rfl,.inl rfl⟩,⟨rfl,.inl rfl⟩,⟨rfl,.inr ⟨rfl,av.imm l⟩⟩,trivial⟩ ⟨⟨rfl,.inl rfl⟩,⟨rfl,.inl rfl⟩,⟨rfl,.inr ⟨rfl,av.imm (l++a::x)⟩⟩,trivial⟩,tN 35 [0,1,3] 4 (bW g m N cs 3 (l++a::x)) (aE cZ v::cP g m N cs) [ob 0 53 [.rsl 4 0 (l++a::x++b::y).length],ob 1 156 ([.clo (.func 94) [] (cP g m N cs)]),(2,none),(3,dI (l++a::x++b::y))] c ⟨⟨rfl,.inl rfl⟩,⟨rfl,.inl rfl⟩,⟨rfl,.inr ⟨rfl,av.imm (l++a::x)⟩⟩,trivial⟩ ⟨⟨rfl,.inl rfl⟩,⟨rfl,.inl rfl⟩,⟨rfl,.inr ⟨rfl,av.imm (l++a::x++b::y)⟩⟩,trivial⟩] [hc (el (l++a::x++b::y)),hc (av.imm (l++a::x++b::y))] (ρ:=rI 3++[(3,4)]) (kd:=[(3,.row),(999999,.clo)])
   .rw[BB hl1,Bz rfl,Bz rfl,Nf];exact Ju .normal (s0 36 fI [] (bW g m N cs 2 l) 3 3) [] [hf 14 h1,hr 24 (show decide ((1:Int)<(s.length:Int))=false from Dd aa)] [hc (el l),hc (av.imm l)] (ρ:=rI 3) (kd:=[(2,.row),(999999,.clo)])
theorem dm{ss:Ab->Lw}{I:Gi}{ids:Bf}(b:ba prog fI 13 [Z8 g.Cards m N,aE aj ids] (aE aj cs))(hK:∀s:Bj,s.length<=1000->∃q,ba prog fI 57 [Z8 g.Cards m N,aE aj cs,aE cZ s] (.tup [.agg (Hd q),bG (OP I ss cs s).isSome])/\∀z,OP I ss cs s=some z->q=z)(hs:s.length<=1000):iV prog fI 40 [Z8 g.Cards m N,aE aj ids,aE cZ s] 48 (bo I ss cs (s.length+1) s).length ((bo I ss cs (s.length+1) s).flatMap Hd):=by
 have h1:=da hK (s.length+1) s [] aa hs cq;generalize bo I ss cs (s.length+1) s=r at*;refine OW func40 ?_;refine pO 1110 (s0 18 fI [(2,aE cZ s),(3,.ptr [Z8 g.Cards m N] 0),(7,.ptr [aE aj cs] 0)] [] 0 0) [hf 12 b] [hc (eB (gs:=[Z8 g.Cards m N]) aH),hc (eB (gs:=[aE aj cs]) aH)] ?_;refine pO 1111110 (s0 18 fI [(2,aE cZ s),(8,.ref 0 0),(9,.ref 1 0)] (bW g m N cs 2 []) 3 0) [] [hc (av.imm [])] ?_ (vs:=[48]) (ρ:=rI 3) (kd:=[(2,.row),(999999,.clo)]);cases r with
 |nil=>rw[Bz rfl,Bz rfl] at h1;exact EI [tN 16 [0,1,2] 3 (bW g m N cs 2 []) (aE cZ s::cP g m N cs) (bW g m N cs 2 []) h1 ⟨⟨rfl,.inl rfl⟩,⟨rfl,.inl rfl⟩,⟨rfl,.inr ⟨rfl,av.imm []⟩⟩,trivial⟩ ⟨⟨rfl,.inl rfl⟩,⟨rfl,.inl rfl⟩,⟨rfl,.inr ⟨rfl,av.imm []⟩⟩,trivial⟩] (av.imm [])
 |cons a x=>rw[BB (List.cons_ne_nil _ _),BB (List.cons_ne_nil _ _),M7] at h1;exact EI [tN 16 [0,1,2] 3 (bW g m N cs 2 []) (aE cZ s::cP g m N cs) [ob 0 53 [.rsl 3 0 (a::x).length],ob 1 156 ([.clo (.func 94) [] (cP g m N cs)]),(2,none),(3,dI (a::x))] h1 ⟨⟨rfl,.inl rfl⟩,⟨rfl,.inl rfl⟩,⟨rfl,.inr ⟨rfl,av.imm []⟩⟩,trivial⟩ ⟨⟨rfl,.inl rfl⟩,⟨rfl,.inl rfl⟩,⟨rfl,.inr ⟨rfl,av.imm (a::x)⟩⟩,trivial⟩] (av.imm (a::x))
end
end Go.Proofs.YtghphhhpagagbaaGreatDoor
