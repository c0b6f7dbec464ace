/- Texts. -/
import Derived.Test.YtlijnaneopediaaGreatDoorV4
namespace Go.Proofs.YtlijnaneopediaaGreatDoor
set_option linter.unusedSectionVars false
set_option linter.unusedVariables false
set_option linter.unusedSimpArgs false
open Go.RowKit Tryz
variable (gl:Cd)
variable {α:Type}{R:Ad}{id x:Ab}{a b i j k n:Nat}{l:List α}{P:Br}{fn:Func}{t:Bn}{g:AQ}{m:Jn}{p:OS}{N:Jk}{r:List Bool}{u up:Bh}{K c:Int}
section
attribute [local irreducible] Tr dz Gp
structure Gi where
 op:Ab->Option Bj
 bef:Ab->Ab->Bool
 lev:Ab->Int
 cards:Mw
 card:Int->Option DP
def Gi.o(I:Gi)(x:Ab):Bj:=(I.op x).getD ip
def XJ:DP:=⟨0,0,0,0,0⟩
structure Pa (gl:Cd) (gg:Aj) (I:Gi):Prop where
 op:∀x,ba prog gl 57 [.ptr (Ag gg) 0,.agg (aj x)] (.tup [.agg (aJ (I.o x)),bG (I.op x).isSome])
 bef:∀x y,ba prog gl 23 [.ptr (Ag gg) 0,.agg (aj x),.agg (aj y)] (bG (I.bef x y))
 lev:∀x,ba prog gl 211 [.ptr (Ag gg) 0,.agg (aj x)] (iG (I.lev x))
 cards:ba prog gl 67 [.ptr (Ag gg) 0] (aE bv I.cards)
 card:∀d,ba prog gl 80 [.ptr (Ag gg) 0,iG d] (.tup [.agg (bv ((I.card d).getD XJ)),bG (I.card d).isSome])
def AbF(I:Gi)(x:Bj)(d:Int):Bool:=bif x.Kind=13 then decide (d=x.Old)else bif x.Device≠0 then decide (d=x.Device)else bif(I.card d).isSome then decide (((I.card d).getD XJ).Member=x.Member)else false
def Aj2(I:Gi)(a b:Bj):Bool:=bif a.Kind=3 then AbF I a b.By else bif a.Kind=13 then(bif decide (b.Kind=12)&&decide (a.Of=b.Of)then false else AbF I a b.By)else bif a.Kind=12 then(decide (b.Kind=13)&&decide (b.Of=a.Of)&&decide (a.At<=b.At))else false
def D5(I:Gi)(x y:Ab):Bool:=(I.op x).isSome&&(I.op y).isSome&& !decide (x=y)&& !I.bef y x&& !I.bef x y&&Aj2 I (I.o x) (I.o y)
section
variable {gl:Cd} {gg:Aj} {I:Gi} (h:Pa gl gg I)
include h
theorem Agl(x:Bj)(d:Int):ba prog gl 275 [.ptr (Ag gg) 0,.agg (aJ x),iG d] (bG (AbF I x d)):=by
 have hc:=h.card d;unfold AbF;refine Gh func275 ?_;cases b1:decide (x.Kind=13) with
 |true=>exact Ar [hr 11 b1] []
 |false=>
  cases b2:decide (x.Device≠0) with
  |true=>exact Ar [hr 11 b1,hr 18 b2] []
  |false=>
   cases b3:(I.card d).isSome with
   |false=>rw[b3] at hc;exact Ar [hr 11 b1,hr 18 b2,hf 26 hc] []
   |true=>rw[b3] at hc;exact Ar [hr 11 b1,hr 18 b2,hf 26 hc] []
theorem Uo(x y:Ab):ba prog gl 179 [.ptr (Ag gg) 0,.agg (aj x),.agg (aj y)] (bG (D5 I x y)):=by
 have h1:=h.op x;have h2:=h.op y;have h3:=h.bef y x;have h4:=h.bef x y;have hg:=Agl h (I.o x) (I.o y).By;unfold D5;generalize I.o x=a at h1 hg⊢;generalize I.o y=b at h2 hg⊢;refine Gh func179 ?_;cases c1:(I.op x).isSome with
 |false=>rw[c1] at h1;exact Ar [hf 15 h1,hf 21 h2] []
 |true=>
  rw[c1] at h1;cases c2:(I.op y).isSome with
  |false=>rw[c2] at h2;exact Ar [hf 15 h1,hf 21 h2] []
  |true=>
   rw[c2] at h2;cases c3:decide (x=y) with
   |true=>exact Ar [hf 15 h1,hf 21 h2,hV 33 (dU x y c3)] []
   |false=>
    cases c4:I.bef y x with
    |true=>rw[c4] at h3;exact Ar [hf 15 h1,hf 21 h2,hV 33 (dU x y c3),hf 39 h3] []
    |false=>
     rw[c4] at h3;cases c5:I.bef x y with
     |true=>rw[c5] at h4;exact Ar [hf 15 h1,hf 21 h2,hV 33 (dU x y c3),hf 39 h3,hf 45 h4] []
     |false=>
      rw[c5] at h4;unfold Aj2;cases k3:decide (a.Kind=3) with
      |true=>
       have k13:decide (a.Kind=13)=false:=by rw[DD k3];rfl
       exact Ar [hf 15 h1,hf 21 h2,hV 33 (dU x y c3),hf 39 h3,hf 45 h4,hr 50 k3,hr 54 k13,hf 74 hg] []
      |false=>
       cases k13:decide (a.Kind=13) with
       |true=>
        cases j12:decide (b.Kind=12) with
        |false=>exact Ar [hf 15 h1,hf 21 h2,hV 33 (dU x y c3),hf 39 h3,hf 45 h4,hr 50 k3,hr 51 k13,hr 54 k13,hr 58 j12,hf 74 hg] []
        |true=>
         cases jo:decide (a.Of=b.Of) with
         |true=>exact Ar [hf 15 h1,hf 21 h2,hV 33 (dU x y c3),hf 39 h3,hf 45 h4,hr 50 k3,hr 51 k13,hr 54 k13,hr 58 j12,hV 65 (dU a.Of b.Of jo)] []
         |false=>exact Ar [hf 15 h1,hf 21 h2,hV 33 (dU x y c3),hf 39 h3,hf 45 h4,hr 50 k3,hr 51 k13,hr 54 k13,hr 58 j12,hV 65 (dU a.Of b.Of jo),hf 74 hg] []
       |false=>
        cases k12:decide (a.Kind=12) with
        |false=>exact Ar [hf 15 h1,hf 21 h2,hV 33 (dU x y c3),hf 39 h3,hf 45 h4,hr 50 k3,hr 51 k13,hr 77 k12] []
        |true=>
         cases j13:decide (b.Kind=13) with
         |false=>exact Ar [hf 15 h1,hf 21 h2,hV 33 (dU x y c3),hf 39 h3,hf 45 h4,hr 50 k3,hr 51 k13,hr 77 k12,hr 80 j13] []
         |true=>
          cases jo:decide (b.Of=a.Of) with
          |false=>exact Ar [hf 15 h1,hf 21 h2,hV 33 (dU x y c3),hf 39 h3,hf 45 h4,hr 50 k3,hr 51 k13,hr 77 k12,hr 80 j13,hV 86 (dU b.Of a.Of jo)] []
          |true=>exact Ar [hf 15 h1,hf 21 h2,hV 33 (dU x y c3),hf 39 h3,hf 45 h4,hr 50 k3,hr 51 k13,hr 77 k12,hr 80 j13,hV 86 (dU b.Of a.Of jo)] []
end
def OP(c k:Nat):Nat:=c+k
theorem AhZ(hR:Bi R)(c:Nat):Abg (kO [] [] 0 14 c) (BG f0 R) (BG (OP c) R):=λi o h0=>by
 rw[Hw] at h0;obtain⟨k,hk,e,h⟩:=LF h0;subst e;have hκ:∀k,(∃ob,Bv f0 R k=some ob)->kO [] [] 0 14 c (f0 k)=some (OP c k):=λk ⟨ob,h⟩=>by have:=DY h;show(bif Nat.blt k 0 then _ else bif Nat.blt k (0+14)then some (c+(k-0))else none)=_;rw[show Nat.blt k 0=false from by cases hb:Nat.blt k 0 with|false=>rfl|true=>simp_all,show Nat.blt k (0+14)=true from RT aa];rfl
 obtain⟨a,h1,h2⟩:=PN hκ hR k o h;grind [Ke]
theorem AcL{κ:Nat->Fu}:InP κ [] [] []:=λk o0 h=>by cases h
def hrn(d c:Nat)(args:Bk){P:Br}{gl:Cd}{fid:FuncId}{args0:Bk}{R:Ad}(hR:Bi R)(hM:SH P gl fid args0 [] 0 0 (.ref 0 0) (BG f0 R))(hc:aK P fid=true:=by kernel_rfl)(hgs:args.map (qg (vi []) 20)=args0:=by kernel_rfl):HP:=
 hfm d [] 0 14 c [] args (BG (OP c) R) hM AcL (AhZ hR c) hc rfl rfl hgs
def Tz(I:Gi)(id:Ab)(R:Ad)(x:Ab):Ad:=bif I.bef x id then Vq R (I.o x) x else R
def RZ(I:Gi)(l:A3)(id:Ab):Ad:=l.foldl (Tz I id) (Hh I.cards)
structure AbG (gl:Cd) (l:Bb) (I:Gi):Prop where
 g:Pa gl l.g I
 c:Ael I.cards
 o:∀x∈l.row,UQ (I.o x) x
 n:l.row.length<=1000
theorem Ah0{I:Gi}(hR:Bi R)(hx:UQ (I.o x) x):Bi (Tz I id R x):=by grind [Tz,Sb]
theorem AdD{I:Gi}{id:Ab}:∀{l:A3} {R:Ad},Bi R->(∀x∈l,UQ (I.o x) x)->Bi (l.foldl (Tz I id) R)
 |[],R,h,_=>h
 |x::r,R,h,hx=>AdD (l:=r) (Ah0 h (hx x aC)) (by grind)
theorem Aav{I:Gi}(hc:Ael I.cards){l:A3}(h:∀x∈l,UQ (I.o x) x)(id:Ab):Bi (RZ I l id):=AdD (Lz hc.r) h
section
variable {gl:Cd}
end
abbrev Bt(l:A3):Option Ob:=some ⟨36,l.flatMap aj,none⟩
def AlV(ρ:DE)(f f':Nat->Nat):Bool:=L0.all λk=>match IX ρ (f k) with|some j=>Nat.beq j (f' k)|none=>false
theorem Ah1{ρ:DE}{f f':Nat->Nat}(h:AlV ρ f f'=true)(hk:k<14):IX ρ (f k)=some (f' k):=by have:=Gu.1 h k (by have:k∈List.range 14:=List.mem_range.2 hk;exact this);grind [bc]
abbrev rlC(ρ:DE)(f f':Nat->Nat){R:Ad}(hR:Bi R)(h:AlV ρ f f'=true:=by kernel_rfl):List HP:=L0.map λk=>hc (PN (κ:=IX ρ) (f:=f) (f':=f') (λk ⟨ob,hk⟩=>Ah1 h (DY hk)) hR k)
abbrev kd1:List (Nat×Rk):=(0,.row)::L0.map λk=>(k+1,.any)
abbrev stO(l:A3)(c:Nat)(R:Ad):aQ:=(0,Bt l)::BG (OP c) R
abbrev ρe0:DE:=[(0,0),(1,2),(2,3),(3,4),(4,5),(5,6),(6,7),(7,8),(8,9),(9,10),(10,11),(11,12),(12,13),(13,14),(14,15),(15,1)]
abbrev ρe1:DE:=[(0,0),(1,1),(2,2),(3,3),(4,4),(5,5),(6,6),(7,7),(8,8),(9,9),(10,10),(11,11),(12,12),(13,13),(14,14),(15,15)]
abbrev ρe2:DE:=[(0,0),(1,1),(2,2),(3,3),(4,4),(5,5),(6,18),(7,19),(8,20),(9,21),(10,22),(11,23),(12,24),(13,25),(14,26),(15,15)]
abbrev ρe3:DE:=[(0,0),(1,1),(2,2),(3,3),(4,4),(5,5),(6,6),(7,7),(8,8),(9,9),(10,10),(11,11),(12,12),(13,13),(14,14)]
section
variable {gl:Cd}
theorem AdE{gg:Aj}{I:Gi}(h:Pa gl gg I)(hc:Ael I.cards){al:Bb}(hal:al.g=gg){l:A3}(hl:∀x∈l,UQ (I.o x) x)(hn:l.length<=1000)(id:Ab):SH prog gl 182 [.ptr (BB al) 0,.rsl 0 0 l.length,.agg (aj id)] [(0,Bt l)] 1 1 (.ref 1 0) (stO l 1 (RZ I l id)):=by
 subst hal;have hQ:∀k,Bi (RZ I (l.take k) id):=λk=>Aav hc (λx hx=>hl x (List.mem_of_mem_take hx)) id;refine dFP func182 ?_;refine Un (l:=l) aa (λk:Nat=>(s0 46 gl [(0,.ptr (BB al) 0),(5,.ref 15 0),(7,.ref 1 0),(18,.rsl 0 0 l.length),(19,iG (ah l)),(20,iG (k:Int))] (stO l 1 (RZ I (l.take k) id)++[(15,XX id)]) 16 1)) 1110122 [hf 16 h.cards,hrn 17 2 [aE bv I.cards] (Lz hc.r) (Age gl hc)] (Go.Proofs.YtlijnaneopediaaGreatDoor.hc (el l)::Go.Proofs.YtlijnaneopediaaGreatDoor.hc (ac.imm l)::rlC ρe0 (OP 2) (OP 1) (hQ 0)) (λB k x hx hz k5=>?_) (λB=>?_) [] ρe0 kd1
 .have hlt:=(cr hx).1;have hq:=hQ k;have a:=hl x (bO hx);have hb:=h.bef x id;unfold RZ at k5 hq⊢;rw[Hp,hx,Option.toList_some,O8,List.foldl_cons,List.foldl_nil] at k5;generalize (l.take k).foldl (Tz I id) (Hh I.cards)=Q at hq k5⊢;unfold Tz at k5;cases c1:I.bef x id with
  |false=>rw[c1] at hb k5;exact jw [hr 21 (CM hx),Az 22 (ac.ixrZ 0 hz),Az 23 (ac.pt0Z aW hz),hf 30 hb,hbb 44 (Xl (q:=k) aa)] (Go.Proofs.YtlijnaneopediaaGreatDoor.hc (el l)::Go.Proofs.YtlijnaneopediaaGreatDoor.hc (ac.imm l)::rlC ρe1 (OP 1) (OP 1) hq) k5 [] ρe1 kd1
  |true=>rw[c1] at hb k5;have b:=Sb hq a;exact jw [hr 21 (CM hx),Az 22 (ac.ixrZ 0 hz),Az 23 (ac.pt0Z aW hz),hf 30 hb,hf 37 (h.op x),hrw 43 (OP 1) 18 [.agg (aJ (I.o x)),.agg (aj x)] hq b (Agd gl hq a),hbb 44 (Xl (q:=k) aa)] (Go.Proofs.YtlijnaneopediaaGreatDoor.hc (el l)::Go.Proofs.YtlijnaneopediaaGreatDoor.hc (ac.imm l)::rlC ρe2 (fW (OP 1) 18) (OP 1) b) k5 [] ρe2 kd1
 .rw[D3];exact ZT [hr 21 (DH (s:=l))] (Go.Proofs.YtlijnaneopediaaGreatDoor.hc (ac.imm l)::rlC ρe3 (OP 1) (OP 1) (Aav hc hl id)) ρe3 kd1
def Lu(I:Gi)(vd:FM Ab Bool)(out:A3)(x:Ab):A3:=bif AH (vd.get x)then out else bif Mh (RZ I out x) (I.o x)=0 then out++[x]else out
def Fa(I:Gi)(al:Bb):A3:=al.row.foldl (Lu I al.void) []
theorem Aep{I:Gi}{vd:FM Ab Bool}{out:A3}{y:Ab}(h:y∈Lu I vd out x):y∈out\/y=x:=by grind [Lu]
theorem Aeq{I:Gi}{vd:FM Ab Bool}{out:A3}:(Lu I vd out x).length<=out.length+1:=by grind [Lu]
theorem TB{I:Gi}{vd:FM Ab Bool}:∀{l out:A3},(∀y∈l.foldl (Lu I vd) out,y∈out\/y∈l)/\(l.foldl (Lu I vd) out).length<=out.length+l.length
 |[],out=>(by grind)
 |x::r,out=>by obtain⟨h1,h2⟩:=TB (I:=I) (vd:=vd) (l:=r) (out:=Lu I vd out x);grind [Aep,Aeq]
end
theorem AcM{κ:Nat->Fu}(l:A3):InP κ [0] [(0,Bt l)] [(0,Bt l)]:=λk o0 h=>by
 rw[Bc] at h;split at h
 .rename_i e;subst e;exact⟨0,o0,rfl,by rw[Bc,Bz rfl];exact h,by cases h;exact⟨rfl,.inr ⟨rfl,ac.imm l⟩⟩⟩
 .cases h
theorem Ah2{c:Nat}(h:OP c a=OP c b):a=b:=Nat.add_left_cancel h
theorem Aaw(hR:Bi R)(l:A3)(c:Nat):Abg (kO [(0,Bt l)] [0] 1 14 c) (stO l 1 R) ((0,Bt l)::BG (OP c) R):=λi o h0=>by
 rw[Bc] at h0;split at h0
 .rename_i e;subst e;exact⟨0,o,rfl,by grind,by cases h0;exact⟨rfl,.inr ⟨rfl,ac.imm l⟩⟩⟩
 .rw[Hw] at h0;obtain⟨k,hk,e,h⟩:=LF h0;subst e;have hκ:∀k,(∃ob,Bv (OP 1) R k=some ob)->kO [(0,Bt l)] [0] 1 14 c (OP 1 k)=some (OP c k):=λk ⟨ob,h⟩=>by have:=DY h;unfold kO OP;rw[show Nat.blt (1+k) 1=false from by cases hb:Nat.blt (1+k) 1 with|false=>rfl|true=>simp_all,show Nat.blt (1+k) (1+14)=true from RT aa,Nat.add_sub_cancel_left];rfl
  obtain⟨d,h1,h2⟩:=PN hκ hR k o h;refine⟨OP 1 k,d,hκ k ⟨d,h1⟩,?_,h2⟩;show ag ((0,Bt l)::BG (OP 1) R) (OP 1 k)=_;rw[Bc,BW (by unfold OP;omega),Hw,LE (λa _ b _ e=>Ah2 e) hk];exact h1
abbrev oGd(al:Bb)(I:Gi)(k:Nat):A3:=(al.row.take k).foldl (Lu I al.void) []
abbrev AlW(al:Bb)(l:A3)(k:Nat):St:=(s0 49 fI [(0,.ptr (BB al) 0),(3,.rsl 0 0 l.length),(11,aE aj al.row),(12,iG (ah al.row)),(13,iG (k:Int))] [(0,Bt l)] 1 0)
theorem Aax{al:Bb}{I:Gi}(h:AbG fI al I):iV prog fI 134 [.ptr (BB al) 0] 36 (Fa I al).length ((Fa I al).flatMap aj):=by
 have hn:=h.n;refine OW func134 ?_;refine Un (l:=al.row) aa (λk:Nat=>AlW al (oGd al I k) k) [1,1,0,1,2,2] [] [hc (ac.imm [])] (λB k x hx hz k5=>?_) (λB=>?_)
 .have hlt:=(cr hx).1;have hsub:=TB (I:=I) (vd:=al.void) (l:=al.row.take k) (out:=[]);have a:=h.o x (bO hx);have hle:(oGd al I k).length<=1000:=JF hsub.2 (by rw[LL];simp;omega);have hO:∀y∈oGd al I k,UQ (I.o y) y:=λy hy=>by
   rcases hsub.1 y hy with h1|h1
   .cases h1
   .exact h.o y (List.mem_of_mem_take h1)
  unfold oGd at k5 hle hO⊢;rw[Hp,hx,Option.toList_some,O8,List.foldl_cons,List.foldl_nil] at k5;generalize (al.row.take k).foldl (Lu I al.void) []=l at k5 hle hO⊢;have hd:=AdE h.g h.c (al:=al) rfl hO hle x;have hq:=Aav h.c hO x;unfold Lu at k5;have hw:=Om al.void x;cases c1:AH (al.void.get x) with
  |true=>rw[c1] at k5 hw;exact jw [hr 14 (CM hx),Az 15 (ac.ixZ hz),Az 16 (ac.ptZ aW hz),hf 23 (h.g.op x),hm 31 hw,hbb 47 (Xl (q:=k) aa)] [hc (el l),hc (ac.imm l)] k5
  |false=>
   rw[c1,A7] at k5;rw[c1] at hw;have hm:=AcK (i:=x) hq a.g;generalize RZ I l x=R at hd hq hm k5;cases c2:decide (Mh R (I.o x)=0) with
   |false=>rw[c2] at k5;exact jw [hr 14 (CM hx),Az 15 (ac.ixZ hz),Az 16 (ac.ptZ aW hz),hf 23 (h.g.op x),Go.Proofs.YtlijnaneopediaaGreatDoor.hm 31 hw,hfm 37 [0] 1 14 3 [(0,Bt l)] [.ptr (BB al) 0,.rsl 0 0 l.length,.agg (aj x)] ((0,Bt l)::BG (OP 3) R) hd (AcM l) (Aaw hq l 3),hrr 40 (OP 3) 17 [.agg (aJ (I.o x)),.agg (aj x)] hq hm,hr 41 c2,hbb 47 (Xl (q:=k) aa)] [hc (el l),hc (ac.imm l)] k5
   |true=>rw[c2] at k5;exact jw [hr 14 (CM hx),Az 15 (ac.ixZ hz),Az 16 (ac.ptZ aW hz),hf 23 (h.g.op x),Go.Proofs.YtlijnaneopediaaGreatDoor.hm 31 hw,hfm 37 [0] 1 14 3 [(0,Bt l)] [.ptr (BB al) 0,.rsl 0 0 l.length,.agg (aj x)] ((0,Bt l)::BG (OP 3) R) hd (AcM l) (Aaw hq l 3),hrr 40 (OP 3) 17 [.agg (aJ (I.o x)),.agg (aj x)] hq hm,hr 41 c2,Tn 46 ac 24 l x aa,hbb 47 (Xl (q:=k) aa)] [hc (el (l++[x])),hc (ac.imm (l++[x]))] k5
 .unfold Fa;show Gp _ _ _ _ _ _ (AlW al ((al.row.take al.row.length).foldl (Lu I al.void) []) _);rw[D3];generalize al.row.foldl (Lu I al.void) []=l;exact EI [hr 14 (DH (s:=al.row))] (ac.imm l)
def XK(I:Gi)(x y z:Ab):Bool:=bif decide (z=x)||I.bef z x then D5 I y z else false
def DZ(I:Gi)(row:A3)(x y:Ab):Bool:= !decide (x=y)&&row.any (XK I x y)
section
variable {gl:Cd} {al:Bb} {I:Gi} (h:Pa gl al.g I)
include h
theorem Agm(x y z:Ab):ba prog gl 323 [.agg (aj z),.ptr (aj x) 0,.ptr [.ptr (BB al) 0] 0,.ptr (aj y) 0] (bG (XK I x y z)):=by
 have hb:=h.bef z x;have hk:=Uo h y z;unfold XK;refine Gh func323 ?_;cases c1:decide (z=x) with
 |true=>exact Ar [hV 8 (dU z x c1),hf 25 hk] []
 |false=>
  cases c2:I.bef z x with
  |true=>rw[c2] at hb;exact Ar [hV 8 (dU z x c1),hf 16 hb,hf 25 hk] []
  |false=>rw[c2] at hb;exact Ar [hV 8 (dU z x c1),hf 16 hb] []
theorem AbH(hn:al.row.length<=1000)(x y:Ab):ba prog gl 233 [.ptr (BB al) 0,.agg (aj x),.agg (aj y)] (bG (DZ I al.row x y)):=by
 have hv:R7 prog gl 323 [] [.ptr (aj x) 0,.ptr [.ptr (BB al) 0] 0,.ptr (aj y) 0] (λz:Ab=>[.agg (aj z)]) (λb:Bool=>bG b) (λz=>some (XK I x y z)):=⟨aH,bf,eB aH,λz r e=>by cases e;exact Agm h x y z⟩;have hc:=kP gl hv (Abz (s:=al.row) (p:=XK I x y) aa λ_ _=>rfl);unfold DZ;refine Gh func233 ?_;refine pO [1,0] (s0 18 gl [(3,.ptr [.ptr (BB al) 0] 0),(4,.ptr (aj x) 0),(5,.ptr (aj y) 0)] [] 0 0) [] [Go.Proofs.YtlijnaneopediaaGreatDoor.hc (eB (gs:=[.ptr (BB al) 0]) aH),Go.Proofs.YtlijnaneopediaaGreatDoor.hc (eB (gs:=aj x) aH),Go.Proofs.YtlijnaneopediaaGreatDoor.hc (eB (gs:=aj y) aH)] ?_ [] [];cases c1:decide (x=y) with
 |true=>exact Ar [hV 9 (dy x y (r:=false) (by rw[c1];rfl))] []
 |false=>exact Ar [hV 9 (dy x y (r:=true) (by rw[c1];rfl)),hf 16 hc] []
end
end
def unS(fn:Func):Func:={fn with body:=some (match ai fn with| .seq a (.scope c)=> .seq a c|c=>c)}
def AiD:Code->Bool
 | .seq _ (.scope _)=>true
 |_=>false
theorem Afk{Q Q':Exit->St->Prop}{J:St}(hi:AiD (ai fn)=true)(hQ:∀l s,¬Q (.goto l) s)(b:Q=Q')(h:Gp P (unS fn) Q' [] false [1] J):Gp P fn Q [] false [1] J:=by
 subst b;obtain⟨a,c,hc⟩:∃a c,ai fn= .seq a (.scope c):=by unfold AiD at hi;grind
 have e:ai (unS fn)= .seq a c:=by grind [unS,ai]
 unfold Gp at h⊢;rw[e] at h;rw[hc];exact Pn (Tr.mono h λe s hx=>by
  cases e with
  |goto l=>obtain⟨s',_,h2⟩:Z1 P Q (.goto l) s:=hx;exact(hQ l s' h2).elim
  |_=>exact⟨rfl,hx⟩)
theorem AdZ{r:G}:tH P fn r=tH P (unS fn) r:=by funext e s;unfold tH unS;rfl
section
attribute [local irreducible] Tr dz Gp
def Aj3(p:Ab->Bool)(l:A3)(j:Nat):Option (Nat⊕Bool):=match l[j]? with
 |none=>some (.inr false)
 |some y=>bif p y then some (.inr true)else some (.inl (j+1))
theorem Aj4{p:Ab->Bool}{l:A3}(hn:l.length<=1000):AB (Aj3 p l) 0=some (l.any p):=T.eq (T.loop (λj=>j<=l.length/\∀y∈l.take j,p y=false) (λj=>l.length-j) ⟨aa,aC⟩ aa λj ⟨hj,hI⟩=>by
 unfold Aj3;cases hx:l[j]? with
 |none=>have:l.length<=j:=List.getElem?_eq_none_iff.1 hx;refine .some ?_;show false=l.any p;grind
 |some y=>
  have hlt:=(cr hx).1;dsimp only;cases hp:p y with
  |true=>exact .some (show true=l.any p from(by grind))
  |false=>refine .some ⟨⟨aa,λz hz=>?_⟩,aa⟩;grind [Hp])
def Sv(sen:FM Int Int)(d:Int):Int:=(sen.get d).getD 0
def upB(sen:FM Int Int)(l:A3)(b:Int)(k:Nat)(x:Ab):JK:=bif b<0 then some (k:Int)else(aS l b).bind λy=>bif Sv sen x.By<Sv sen y.By then some (k:Int)else some b
def Agn(I:Gi)(row l:A3)(sen:FM Int Int)(s:Nat×Int):Option ((Nat×Int)⊕Int):=match l[s.1]? with
 |none=>bif Nat.beq s.1 l.length then some (.inr s.2)else none
 |some x=>bif l.any (DZ I row x)then(upB sen l s.2 s.1 x).bind λb=>some (.inl (s.1+1,b))else some (.inr (s.1:Int))
section
variable {gl:Cd} {al:Bb} {I:Gi} (h:Pa gl al.g I)
theorem Aay(m:FM Int Int)(k:Int):∀σ,bL prog σ 265 false (FM.g JN iG m) (iG k)=some (iG (Sv m k)):=FM.look1 (et:=3) PE aH aH m k rfl
abbrev AiN(al:Bb)(l:A3)(sen:FM Int Int)(k:Nat)(b:Int):Fr:=[(0,.ptr (BB al) 0),(1,aE aj l),(2,FM.g JN iG sen),(7,iG b),(12,aE aj l),(13,iG (ah l)),(14,iG (k:Int))]
include h
theorem Ago(hn:al.row.length<=1000){l:A3}(hl:l.length<=1000){sen:FM Int Int}{r:Int}(hr0:AB (Agn I al.row l sen) (0,-1)=some r):ba prog gl 231 [.ptr (BB al) 0,aE aj l,FM.g JN iG sen] (iG r):=by
 refine Gh func231 ?_;refine pO [1] (s0 50 gl [(0,.ptr (BB al) 0),(1,aE aj l),(2,FM.g JN iG sen)] [] 0 0) [] [] ?_ [] [];refine Afk (Q':=tH prog (unS Tryz.f231) (iG r)) aH (λl s hx=>by unfold tH at hx;rcases hx.1 with e|e<;>cases e) AdZ ?_;refine pN (λs:Nat×Int=>(s0 50 gl (AiN al l sen s.1 s.2) [] 0 0)) 11110122 hr0 [] [] (λB s v hs k5 f=>?_) [] [];obtain⟨k,b⟩:=s;unfold Agn at hs;dsimp only at hs;split at hs
 .rename_i hx;cases c0:Nat.beq k l.length with
  |false=>rw[c0] at hs;cases hs
  |true=>rw[c0] at hs;obtain rfl:=Bo hs;obtain rfl:=bc c0;obtain rfl:=f _ rfl;exact Ar [hr 15 (DH (s:=l))] []
 .rename_i x hx;have hz:=Bp hx;have hw:=λy=>AbH h hn x y;refine pN (λj:Nat=>(s0 50 gl ([(8,iG (k:Int)),(9,.ref 0 0),(19,aE aj l),(20,iG (ah l)),(21,iG (j:Int))]++AiN al l sen k b) [(0,XX x)] 1 0)) 11110122110210122 (Aj4 (p:=DZ I al.row x) hl) [hr 15 (CM hx),Az 17 (ac.ixZ hz),Az 18 (ac.ptZ aW hz)] [] (λn j o c m i=>?_) [] [(0,0)];unfold Aj3 at c;split at c
  .rename_i hy;obtain rfl:=Bo c;have ha:=i _ rfl;rw[<-ha] at hs;obtain rfl:=Bo hs;obtain rfl:=f _ rfl;have hle:l.length<=j:=List.getElem?_eq_none_iff.1 hy;exact Ar [hr 22 (show decide ((j:Int)<ah l)=false from C5 (by unfold ah;omega))] []
  .rename_i y hy;have a:=Bp hy;have hw:=hw y;cases c1:DZ I al.row x y with
   |false=>rw[c1] at c hw;obtain rfl:=Bo c;exact jw [hr 22 (CM hy),Az 23 (ac.ixZ a),Az 24 (ac.ptZ aW a),hf 28 hw,hbb 46 (Xl (q:=j) (by have:=(cr hy).1;omega))] [] (m _ rfl) [] [(0,0)]
   |true=>
    rw[c1] at c hw;obtain rfl:=Bo c;have ha:=i _ rfl;rw[<-ha,ax] at hs;obtain⟨b',hb',hs⟩:=bS hs;obtain rfl:=Bo hs;have k5:=k5 _ rfl;have hkk:k<1000:=by have:=(cr hx).1;omega
    unfold upB at hb';cases c2:decide (b<0) with
    |true=>rw[c2] at hb';obtain rfl:=Bo hb';exact jw [hr 22 (CM hy),Az 23 (ac.ixZ a),Az 24 (ac.ptZ aW a),hf 28 hw,hr 30 c2,hbb 48 (Xl (q:=k) aa)] [] k5 [] []
    |false=>
     rw[c2,A7] at hb';obtain⟨z,d,hb'⟩:=bS hb';cases c3:decide (Sv sen x.By<Sv sen z.By) with
     |true=>rw[c3] at hb';obtain rfl:=Bo hb';exact jw [hr 22 (CM hy),Az 23 (ac.ixZ a),Az 24 (ac.ptZ aW a),hf 28 hw,hr 30 c2,hm 35 (Aay sen x.By),Az 39 (ac.ixZ d),Az 41 (ac.fdZ tZ 0 d),hm 42 (Aay sen z.By),hr 43 c3,hbb 48 (Xl (q:=k) aa)] [] k5 [] []
     |false=>rw[c3] at hb';obtain rfl:=Bo hb';exact jw [hr 22 (CM hy),Az 23 (ac.ixZ a),Az 24 (ac.ptZ aW a),hf 28 hw,hr 30 c2,hm 35 (Aay sen x.By),Az 39 (ac.ixZ d),Az 41 (ac.fdZ tZ 0 d),hm 42 (Aay sen z.By),hr 43 c3,hbb 48 (Xl (q:=k) aa)] [] k5 [] []
end
abbrev oA(s:OS):Option Ob:=some ⟨107,FSq s,none⟩
def RU(s t:OS):OS:=⟨gM s.a0 t.a0,gM s.a1 t.a1,gM s.a2 t.a2,gM s.a3 t.a3⟩
def wiA(s t:OS):Nat->OS
 |0=>s
 |1=>⟨gM s.a0 t.a0,s.a1,s.a2,s.a3⟩
 |2=>⟨gM s.a0 t.a0,gM s.a1 t.a1,s.a2,s.a3⟩
 |3=>⟨gM s.a0 t.a0,gM s.a1 t.a1,gM s.a2 t.a2,s.a3⟩
 |_=>RU s t
def Zx(k:Nat):Option (Nat⊕Unit):=if k<4 then some (.inl (k+1))else some (.inr ())
theorem Li:AB Zx 0=some ():=T.eq (T.loop (λ_=>True) (λk=>4-k) trivial B5 λk _=>by
 unfold Zx;split
 .exact .some ⟨trivial,aa⟩
 .exact .some rfl)
theorem TX(s t:OS):jg prog gl 84 [.ref 0 0,.agg (FSq t)] [(0,oA s)] 1 (.tup []) [(0,oA (RU s t))] 1:=by
 refine pP func84 ?_;refine pN (λk:Nat=>(s0 20 gl [(0,.ref 0 0),(3,.ptr (FSq t) 0),(5,iG (k:Int))] [(0,oA (wiA s t k))] 1 1)) 11122 Li [] [hc (eB (gs:=FSq t) aH)] (λB k v hs k5 a=>?_) [] [(0,0)] [];rcases k with _|_|_|_|k
 .cases hs;exact jw [hV 16 (jc (P:=prog) (t:=34) s.a0 t.a0)] [] (k5 _ rfl) [] [(0,0)] []
 .cases hs;exact jw [hV 16 (jc (P:=prog) (t:=34) s.a1 t.a1)] [] (k5 _ rfl) [] [(0,0)] []
 .cases hs;exact jw [hV 16 (jc (P:=prog) (t:=34) s.a2 t.a2)] [] (k5 _ rfl) [] [(0,0)] []
 .cases hs;exact jw [hV 16 (jc (P:=prog) (t:=34) s.a3 t.a3)] [] (k5 _ rfl) [] [(0,0)] []
 .exact mt .normal (s0 20 gl [] [(0,oA (RU s t))] 1 1) [] [hr 6 (show decide (((k+1+1+1+1:Nat):Int)<4)=false from C5 aa)] []
abbrev OG(x:C3):Option Ob:=some ⟨109,d7 x,none⟩
theorem RE(x:C3)(t:OS):jg prog gl 84 [.ref 0 30,.agg (FSq t)] [(0,OG x)] 1 (.tup []) [(0,OG {x with past:=RU x.past t})] 1:=by
 refine pP func84 ?_;refine pN (λk:Nat=>(s0 20 gl [(0,.ref 0 30),(3,.ptr (FSq t) 0),(5,iG (k:Int))] [(0,OG {x with past:=wiA x.past t k})] 1 1)) 11122 Li [] [hc (eB (gs:=FSq t) aH)] (λB k v hs k5 a=>?_) [] [(0,0)] [];rcases k with _|_|_|_|k
 .cases hs;exact jw [hV 16 (jc (P:=prog) (t:=34) x.past.a0 t.a0)] [] (k5 _ rfl) [] [(0,0)] []
 .cases hs;exact jw [hV 16 (jc (P:=prog) (t:=34) x.past.a1 t.a1)] [] (k5 _ rfl) [] [(0,0)] []
 .cases hs;exact jw [hV 16 (jc (P:=prog) (t:=34) x.past.a2 t.a2)] [] (k5 _ rfl) [] [(0,0)] []
 .cases hs;exact jw [hV 16 (jc (P:=prog) (t:=34) x.past.a3 t.a3)] [] (k5 _ rfl) [] [(0,0)] []
 .exact mt .normal (s0 20 gl [] [(0,OG {x with past:=RU x.past t})] 1 1) [] [hr 6 (show decide (((k+1+1+1+1:Nat):Int)<4)=false from C5 aa)] []
def yt(s:OS)(n:Nat):OS:=match n/64 with
 |0=>{s with a0:=gM s.a0 (IK 1 (n%64))}
 |1=>{s with a1:=gM s.a1 (IK 1 (n%64))}
 |2=>{s with a2:=gM s.a2 (IK 1 (n%64))}
 |_=>{s with a3:=gM s.a3 (IK 1 (n%64))}
theorem W0(s:OS)(h:n<256):jg prog gl 83 [.ref 0 0,iG (n:Int)] [(0,oA s)] 1 (.tup []) [(0,oA (yt s n))] 1:=by
 have hm:u9 (n:Int) 64=some ((n%64:Nat):Int):=by grind [u9]
 have hcn:wJ ((n%64:Nat):Int)=some (n%64):=by grind [wJ]
 have hq:∀q:Nat,n/64=q->Gg (n:Int) 64=some (q:Int):=by grind [Gg,Mx]
 refine pP func83 ?_;have h4:n/64=0\/n/64=1\/n/64=2\/n/64=3:=aa;rcases h4 with e|e|e|e
 .rw[show yt s n={s with a0:=gM s.a0 (IK 1 (n%64))} by grind [yt]];exact mt .normal (s0 16 gl [] [(0,oA {s with a0:=gM s.a0 (IK 1 (n%64))})] 1 1) [] [hbb 6 (Tt (hq 0 e)),hbb 11 (KO hm),hV 12 (sM (P:=prog) (t:=34) 1 hcn),hV 13 (jc (P:=prog) (t:=34) s.a0 (IK 1 (n%64)))] []
 .rw[show yt s n={s with a1:=gM s.a1 (IK 1 (n%64))} by grind [yt]];exact mt .normal (s0 16 gl [] [(0,oA {s with a1:=gM s.a1 (IK 1 (n%64))})] 1 1) [] [hbb 6 (Tt (hq 1 e)),hbb 11 (KO hm),hV 12 (sM (P:=prog) (t:=34) 1 hcn),hV 13 (jc (P:=prog) (t:=34) s.a1 (IK 1 (n%64)))] []
 .rw[show yt s n={s with a2:=gM s.a2 (IK 1 (n%64))} by grind [yt]];exact mt .normal (s0 16 gl [] [(0,oA {s with a2:=gM s.a2 (IK 1 (n%64))})] 1 1) [] [hbb 6 (Tt (hq 2 e)),hbb 11 (KO hm),hV 12 (sM (P:=prog) (t:=34) 1 hcn),hV 13 (jc (P:=prog) (t:=34) s.a2 (IK 1 (n%64)))] []
 .rw[show yt s n={s with a3:=gM s.a3 (IK 1 (n%64))} by grind [yt]];exact mt .normal (s0 16 gl [] [(0,oA {s with a3:=gM s.a3 (IK 1 (n%64))})] 1 1) [] [hbb 6 (Tt (hq 3 e)),hbb 11 (KO hm),hV 12 (sM (P:=prog) (t:=34) 1 hcn),hV 13 (jc (P:=prog) (t:=34) s.a3 (IK 1 (n%64)))] []
theorem OH{σ ρ:Type}{step:σ->Option (σ⊕ρ)}{s:σ}{r:ρ}(h:step s=some (.inr r)):AB step s=some r:=by grind [AB,FU,KN]
theorem RF{st:St}{l:Bk}(h:ag st.σ j=some ⟨t,l,none⟩)(k:Nat):Le P st {st with σ:=(j,some ⟨t,l.take k,none⟩)::st.σ}:=by
 rintro cx a w ⟨β,r⟩;have hs:∀i o,ag ((j,some ⟨t,l.take k,none⟩)::st.σ) i=some o->∃c,ag st.σ i=some c/\((i=j/\o=⟨t,l.take k,none⟩/\c=⟨t,l,none⟩)\/o=c):=by grind
 have hs':∀i o,ag st.σ i=some o->∃c,ag ((j,some ⟨t,l.take k,none⟩)::st.σ) i=some c:=by grind
 have hA:Av cx.S0 β ((j,some ⟨t,l.take k,none⟩)::st.σ)=Av cx.S0 β st.σ:=by grind
 refine⟨β,{size:=r.size,defers:=r.defers,loose:=r.loose,rnd:=r.rnd,fr:=λi=>?_,ob:=λi o hi=>?_,inj:=λi d o c b C D h1 h2 h3 h4=>?_,own:=λi o b C h1 h2=>?_,sep:=λi o b C h1 h2=>?_,fresh:=r.fresh,glob:=λg m hl=>?_,keep:=r.keep,old:=r.old,pin:=r.pin}⟩
 .grind
 .show RO P β (Av cx.S0 β ((j,some ⟨t,l.take k,none⟩)::st.σ)) w i o;rw[hA];obtain⟨c,h1,⟨rfl,rfl,rfl⟩|rfl⟩:=hs i o hi
  .rcases r.ob _ _ h1 with⟨e1,e2,e3⟩|⟨b,x,o,e1,_⟩|⟨b,C,cur,e1,e2,e3,e4,e5,e6,e7⟩
   .grind
   .cases e1
   .have e6:l.length<=cur.size:=e6;have e7:∀(j:Nat) (g:G),l[j]?=some g->∃u,cur[j]?=some u/\u.oneCell'=true/\RV β (Av cx.S0 β st.σ) w g u:=e7;refine .inr (.inr ⟨b,C,cur,e1,e2,e3,e4,e5,?_,λx g hg=>e7 x g ?_⟩);all_goals grind
  .exact r.ob _ _ h1
 .obtain⟨e,h1',_⟩:=hs i o h1;obtain⟨f,h2',_⟩:=hs d c h2;grind
 .grind
 all_goals grind
def hcl(c:Nat){P:Br}{σ:aQ}{t:Bn}{g:G}{i:Nat}{ob:Ob}(h:rF P σ t g=some (i,ob)):HP:=⟨some (.e 999999998 (.tup []) i ob),rF P (UI σ (fR g)) t g=some (i,ob),(Afh Hl).symm.trans h⟩
section
variable {P:Br} [M:Mix P] {st:St} {Q:Exit->St->Prop} {fn:Func} {Bs:List (St->Prop)} {m:Bool} {p:Bq}
theorem dSh(j:Nat){l:Bk}(k:Nat)(h:Gp P fn Q Bs m p {st with σ:=(j,some ⟨t,l.take k,none⟩)::st.σ})(hj:ag st.σ j=some ⟨t,l,none⟩:=by rfl):Gp P fn Q Bs m p st:=by
 unfold Gp Ly at h⊢;cases m with
 |true=>exact pQ (RF hj k) _ _ h
 |false=>exact Tr.le h (RF hj k)
end
abbrev Lj(g:Aj):G:= .clo (.func 173) [] [.ptr [.ptr (Ag g) 0] 0]
def AjC{α:Type}(l:List α)(i:Int):Option (Int⊕Unit):=bif i<ah l then(aS l i).bind λ_=>some (.inl (wI (i+1)))else some (.inr ())
theorem W3{l:List α}(h:l.length<1000000000):AB (AjC l) (wI (0+1))=some ():=by refine T.eq (T.loop (λi=>∃k:Nat,i=((k+1:Nat):Int)/\k<=l.length) (λi=>l.length+2-i.toNat) ⟨0,rfl,aa⟩ (by grind) ?_);rintro i ⟨k,rfl,hk⟩;unfold AjC;refine .dec (λhh=>?_) λhh=> .some rfl;unfold ah at hh;have ew:wI (((k+1:Nat):Int)+1)=((k+1+1:Nat):Int):=aq aa;refine .bind (.ix aa (x:=l[k+1]) (by grind) (.some ⟨⟨k+1,ew,aa⟩,?_⟩));grind
def zI:List Value:=[.int .i64 0,.int .i64 0,.int .u64 0]
abbrev W4(l:A3):Bk:=(l.flatMap aj).take 0++(bN zI (l.length*3)).map .lit++(l.flatMap aj).drop (0+l.length*3)
theorem clr{l:A3}(h:0<l.length):rF prog [ob 0 36 (l.flatMap aj)] 26 (.rsl 0 (0+(0:Int).toNat*3) (l.length-(0:Int).toNat))=some (0,⟨36,W4 l,none⟩):=by have e1:dp prog 26=some 36:=aH;have e2:jj prog 36=some zI:=aH;have e3:bw prog 36=some 3:=aH;have e4:ag [ob 0 36 (l.flatMap aj)] 0=some ⟨36,l.flatMap aj,none⟩:=rfl;show rF prog _ _ (.rsl 0 0 l.length)=_;unfold rF;rw[e1];simp only[e2,e3,e4];rw[Bz ⟨rfl,h,B5,by grind [A9.len,ac],rfl⟩]
theorem RH(l:A3):∀g∈W4 l,bB g:=by grind [A9.imm,ac,mN]
theorem W5{g:Aj}(h:(g.at_.get x).isSome=true):ba prog gl 173 [.agg (aj x),.ptr [.ptr (Ag g) 0] 0] (bG true):=jk gl (by unfold df;rw[h])
theorem aa4(g:Aj):R7 prog gl 173 [] [.ptr [.ptr (Ag g) 0] 0] (λx:Ab=>[.agg (aj x)]) (λx:Bool=>bG x) (λx=>df x g):=⟨aH,bf,aY (aG 20 _ aH) bf,λx r h=>jk gl h⟩
theorem ixL{g:Aj}{l:A3}(h:∀x∈l,(g.at_.get x).isSome=true):Wy l (λx=>df x g)=some (if l.length=0 then-1 else 0):=by
 unfold Wy;cases l with
 |nil=>rfl
 |cons a r=>
  have e:AB (KI (a::r) (λx=>df x g)) 0=some (.inr 0):=by grind [OH,KI,df,ah,aS]
  rw[e];rfl
theorem TY{g:Aj}{l:A3}(h:∀x∈l,(g.at_.get x).isSome=true)(hl:l.length<1000000000):jg prog gl 50 [.rsl 0 0 l.length,Lj g] [ob 0 36 (l.flatMap aj)] 1 (.rsl 0 0 0) [ob 0 36 []] 1:=by
 refine pP func50 ?_;have hi:=gS gl (aa4 gl g) (ixL h);by_cases h0:l.length=0
 .rw[Bz h0] at hi;obtain rfl:=List.length_eq_zero_iff.1 h0;exact mt .ret (s0 42 gl [(4,.rsl 0 0 0)] [ob 0 36 []] 1 1) [.rsl 0 0 0] [hq 10 [aE aj [],Lj g] [hc (ac.al [])] hi] [hc (rfl:0=0),hc (ac.imm [])]
 .rw[BW h0] at hi;refine pN (λj:Int=>(s0 42 gl [(0,.rsl 0 0 l.length),(1,Lj g),(5,iG 0),(6,iG j)] [ob 0 36 (l.flatMap aj)] 1 1)) 11110122 (W3 (l:=l) hl) [hq 10 [aE aj l,Lj g] [hc (ac.al l)] hi] [hc (el l),hc (aG 20 (Lj g) aH),hc (ac.imm l)] (λB j w hs k5 b=>?_);unfold AjC at hs;rcases bC hs with⟨b1,hs⟩|⟨b1,hs⟩
  .obtain⟨y,a,hs⟩:=bS hs;obtain rfl:=Bo hs;exact jw [hr 19 b1,Az 24 (ac.ixrZ 0 a),Az 25 (ac.pt0Z aW a),hf 28 (W5 gl (h y (bO (Hb a).2)))] [hc (el l),hc (aG 20 (Lj g) aH),hc (ac.imm l)] (k5 _ rfl)
  .obtain rfl:=Bo hs;refine pO 1111110 (J:=(s0 42 gl [(0,.rsl 0 0 l.length),(5,iG 0)] [ob 0 36 (W4 l)] 1 1)) [hr 19 b1,Az 38 (ac.sufZ 0 (l:=l) (i:=0) (y:=l) rfl),hcl 1 (clr (l:=l) (Nat.pos_of_ne_zero h0))] [hc (el l),hc (RH l)] ?_;refine dSh 0 0 ?_;exact mt .ret (s0 42 gl [(4,.rsl 0 0 0)] [ob 0 36 []] 1 1) [.rsl 0 0 0] [Az 41 (ac.preZ 0 (l:=l) (i:=0) (y:=[]) rfl)] [hc (rfl:0=0),hc (ac.imm [])]
theorem Zy(l:A3):∀g∈l.flatMap aj,∃v,g= .lit v:=by grind [aj]
theorem RI{g:Aj}{o:Bj}(h:∀x∈o.Past,(g.at_.get x).isSome=true)(hl:o.Past.length<1000000000):iV prog gl 82 [.ptr (Ag g) 0,.agg (aJ o)] 36 0 []:=by
 have hcl:cU o.Past=some o.Past:=by grind [cU,aT]
 refine OW func82 ?_;refine pO [1,0] (s0 10 gl [(2,.ptr [.ptr (Ag g) 0] 0),(3,.ptr (aJ o) 0)] [] 0 0) [] [hc (eB (gs:=[.ptr (Ag g) 0]) aH),hc (eB (gs:=aJ o) aH)] ?_;exact EI [ho 7 [aE aj o.Past] [] (jY gl hcl) (Zy _),tN 9 [0] 1 [ob 0 36 (o.Past.flatMap aj)] [.rsl 0 0 o.Past.length,Lj g] [ob 0 36 []] (TY gl h hl) ⟨⟨rfl,.inr ⟨rfl,ac.imm _⟩⟩,trivial⟩ ⟨⟨rfl,.inr ⟨rfl,ac.imm []⟩⟩,trivial⟩] (ac.imm [])
def hmu(R:Bq)(c:Nat){P:Br}{σ:aQ}{t:Bn}{gm gk g:G}{i:Nat}{ob:Ob}(h:dZ P σ t gm gk g=some (i,ob)):HP:=⟨some (.e 999999998 (.lit undef) i ob),dZ P (UI σ (fR gm)) t gm gk g=some (i,ob),(aal Hl).symm.trans h⟩
abbrev mE(m:Jn):oE:=m.es.map λe=>(ga e.1,iG e.2.1,e.2.2)
abbrev gMp(m:Jn):G:= .mp ((mE m).map (·.1)) ((mE m).map (·.2.1)) ((mE m).map (·.2.2)) m.clk
abbrev oM(m:Jn):Option Ob:=some ⟨102,[],some (.map (mE m) m.clk)⟩
abbrev oG(cs:Mw)(n:Nat)(j:Nat):Option Ob:=some ⟨105,[aE bv cs,.mref 1,.rsl j 0 n],none⟩
abbrev zQ(N:Jk):Option Ob:=some ⟨109,N.flatMap d7,none⟩
theorem RJ(m:Jn):FM.g ga iG m=gMp m:=by unfold FM.g gMp mE;simp only[Iu];rfl
theorem lkP{m:Jn}{k:Ab}{b:Bool}{v:Int}(h1:(m.get k).getD 0=v)(h2:(m.get k).isSome=b):bL prog [(1,oM m)] 102 true (.mref 1) (.agg (aj k))=some (.tup [iG v,bG b]):=by
 subst h1 h2;have hm:(mE m).map (·.1)=(m.es.map (·.1)).map ga:=by rw[Iu,Iu];rfl
 have hz:((prog.info? 3).bind (·.zero)).map db=some (iG 0):=aH;obtain⟨z,hz,hv⟩:=DG.1 hz;unfold bL;rw[show pB prog 102=some (36,3) from by kernel_rfl,show cD (.agg (aj k))=some (ga k) from rfl];dsimp only;rw[show Lv [(1,oM m)] (.mref 1)=some (1,102,mE m,m.clk) from rfl];dsimp only;rw[jt.chk,ax,hm,jt.key];grind [FM.get,fz]
theorem Zz{k:Ab}{v:Int}(h1:(m.get k).getD 0=v):bL prog [(1,oM m)] 102 false (.mref 1) (.agg (aj k))=some (iG v):=by
 subst h1;have hm:(mE m).map (·.1)=(m.es.map (·.1)).map ga:=by rw[Iu,Iu];rfl
 have hz:((prog.info? 3).bind (·.zero)).map db=some (iG 0):=aH;obtain⟨z,hz,hv⟩:=DG.1 hz;unfold bL;rw[show pB prog 102=some (36,3) from by kernel_rfl,show cD (.agg (aj k))=some (ga k) from rfl];dsimp only;rw[show Lv [(1,oM m)] (.mref 1)=some (1,102,mE m,m.clk) from rfl];dsimp only;rw[jt.chk,ax,hm,jt.key];grind [FM.get,fz]
def CW(m:Jn)(k:Ab)(n:Int):Jn:=⟨m.es++[(k,n,m.clk)],m.clk+1⟩
theorem aa6{k:Ab}(h:m.get k=none)(n:Int):dZ prog [(1,oM m)] 102 (.mref 1) (.agg (aj k)) (iG n)=some (1,⟨102,[],some (.map (mE (CW m k n)) (CW m k n).clk)⟩):=by
 have hm:(mE m).map (·.1)=(m.es.map (·.1)).map ga:=by rw[Iu,Iu];rfl
 unfold dZ;rw[show pB prog 102=some (36,3) from by kernel_rfl,show cD (.agg (aj k))=some (ga k) from rfl,show Lv [(1,oM m)] (.mref 1)=some (1,102,mE m,m.clk) from rfl];dsimp only;rw[jt.chk,ax,hm,jt.key];grind [fz,CW,FM.get]
def hlk(d:Nat){P:Br}{σ:aQ}{t:Bn}{ok:Bool}{i:Nat}{gk g:G}(h:bL P σ t ok (.mref i) gk=some g):HP:=⟨some (.m d g),bL P σ t ok (.mref i) gk=some g,h⟩
structure Ad3 (cs:Mw) (m:Jn) (N:Jk) (o:Bj) (i:Ab) (c:DP) (kk:Nat):Prop where
 chk:Abm o kk
 sm:Be o
 cl:pG o=some o
 id:Rs o=some i
 fresh:m.get i=none
 room:N.length<200
 card:hY ⟨cs,m,N⟩ o.By=some (c,true)
 by_:o.By=c.Device
 sig:lq c.Sign (qc o) o.Sig=some true
 create:o.Kind=1->N=[]
 nPast:o.Past.length<1000000000
 par:∀x∈o.Past,∃n:Nat,m.get x=some (n:Int)/\n<200
abbrev z4:OS:=⟨0,0,0,0⟩
def Z6(m:Jn)(N:Jk)(l:A3)(s:OS×OS×Int×Int×Int):Option ((OS×OS×Int×Int×Int)⊕(OS×OS×Int×Int)):=
 bif s.2.2.2.2<ah l then(aS l s.2.2.2.2).bind λx=>(aS N ((m.get x).getD 0)).bind λy=>some (.inl (yt s.1 ((m.get x).getD 0).toNat,RU s.2.1 y.past,E1 s.2.2.1 y.o.At,E1 s.2.2.2.1 (wI (y.level+1)),wI (s.2.2.2.2+1)))else some (.inr (s.1,s.2.1,s.2.2.1,s.2.2.2.1))
def ZA(s t:OS):Nat->OS
 |0=>s
 |1=>⟨bD s.a0 t.a0,s.a1,s.a2,s.a3⟩
 |2=>⟨bD s.a0 t.a0,bD s.a1 t.a1,s.a2,s.a3⟩
 |3=>⟨bD s.a0 t.a0,bD s.a1 t.a1,bD s.a2 t.a2,s.a3⟩
 |_=>⟨bD s.a0 t.a0,bD s.a1 t.a1,bD s.a2 t.a2,bD s.a3 t.a3⟩
def Z7(N:Jk)(o:Bj)(A:OS)(s:Int×Bool×Int):Option ((Int×Bool×Int)⊕(Int×Bool)):=
 bif s.2.2<ah N then(aS N s.2.2).bind λy=>bif y.o.By=o.By then(iX A s.2.2).bind λh=>bif h then some (.inl (E1 s.1 y.o.Seq,(bif s.2.1 then true else decide (y.o.Seq=wI (o.Seq-1))),wI (s.2.2+1)))else some (.inl (s.1,s.2.1,wI (s.2.2+1)))else some (.inl (s.1,s.2.1,wI (s.2.2+1)))else some (.inr (s.1,s.2.1))
section
variable {cs:Mw} {m:Jn} {N:Jk} {o:Bj} {i:Ab} {c:DP} {kk:Nat}
abbrev Z8(cs:Mw)(m:Jn)(N:Jk):G:= .ptr [aE bv cs,gMp m,aE d7 N] 0
theorem Ad3.card'(h:Ad3 cs m N o i c kk):ba prog fI 80 [Z8 cs m N,iG o.By] (.tup [.agg (bv c),bG true]):=by have:=uN fI h.card;grind [Ag,RJ]
theorem Ad3.lacks'(h:Ad3 cs m N o i c kk):iV prog fI 82 [Z8 cs m N,.agg (aJ o)] 36 0 []:=by have:=RI fI (g:=⟨cs,m,N⟩) (o:=o) (λx hx=>by obtain⟨n,hn,_⟩:=h.par x hx;show(m.get x).isSome=true;rw[hn];rfl) h.nPast;grind [Ag,RJ]
theorem cf(m:Jn):∀e∈mE m,bB e.2.1:=by grind [mN]
abbrev aa7(o:Bj)(a k:Int):Fr:=[(0,.ref 0 0),(3,.ptr (aJ o) 0),(6,.ref 3 0),(11,.ref 4 0),(12,.ref 5 0),(13,iG a),(80,aE aj o.Past),(81,iG (ah o.Past)),(82,iG k)]
abbrev Z9(cs:Mw)(m:Jn)(N:Jk)(x:C3)(p b:OS):aQ:=[(0,oG cs N.length 2),(1,oM m),(2,zQ N),(3,OG x),(4,oA p),(5,oA b)]
theorem TZ(x:C3){n:Nat}(hn:n<256){r:Bool}(h:iX x.past (n:Int)=some r):ba prog fI 65 [.ptr (d7 x) 30,iG (n:Int)] (bG r):=by
 have hm:u9 (n:Int) 64=some ((n%64:Nat):Int):=by grind [u9]
 have hcn:wJ ((n%64:Nat):Int)=some (n%64):=by grind [wJ]
 have hq:∀q:Nat,n/64=q->Gg (n:Int) 64=some (q:Int):=by grind [Gg,Mx]
 have hd:wI (Int.tdiv (n:Int) 64)=((n/64:Nat):Int):=by grind [bM]
 have ht:Int.tmod (n:Int) 64=((n%64:Nat):Int):=by rw[Int.tmod_eq_emod_of_nonneg aa];rfl
 unfold iX at h;rw[hd,ht,hcn] at h;refine Gh func65 ?_;have h4:n/64=0\/n/64=1\/n/64=2\/n/64=3:=aa;rcases h4 with e|e|e|e
 .rw[e] at h;obtain rfl:=Bo h;exact Ar [hbb 7 (Tt (hq 0 e)),hbb 12 (KO hm),hV 13 (Am (P:=prog) (t:=34) x.past.a0 hcn),hV 14 (ju (P:=prog) (t:=34) (Jt x.past.a0 (n%64)) 1)] []
 .rw[e] at h;obtain rfl:=Bo h;exact Ar [hbb 7 (Tt (hq 1 e)),hbb 12 (KO hm),hV 13 (Am (P:=prog) (t:=34) x.past.a1 hcn),hV 14 (ju (P:=prog) (t:=34) (Jt x.past.a1 (n%64)) 1)] []
 .rw[e] at h;obtain rfl:=Bo h;exact Ar [hbb 7 (Tt (hq 2 e)),hbb 12 (KO hm),hV 13 (Am (P:=prog) (t:=34) x.past.a2 hcn),hV 14 (ju (P:=prog) (t:=34) (Jt x.past.a2 (n%64)) 1)] []
 .rw[e] at h;obtain rfl:=Bo h;exact Ar [hbb 7 (Tt (hq 3 e)),hbb 12 (KO hm),hV 13 (Am (P:=prog) (t:=34) x.past.a3 hcn),hV 14 (ju (P:=prog) (t:=34) (Jt x.past.a3 (n%64)) 1)] []
theorem W7(h:Ad3 cs m N o i c kk){b:OS}{top lev:Int}(h1:AB (Z6 m N o.Past) (z4,z4,0,1,0)=some (p,b,top,lev))(h2:ZA p b 4=z4)(h3:decide (o.At<top)=false){last:Int}{fol:Bool}(h4:AB (Z7 N o (RU b p)) (0,false,0)=some (last,fol))(h5:decide (o.Seq<=last)=false)(h6:1<o.Seq->fol=true):jg prog fI 34 [.ref 0 0,.agg (aJ o)] [(0,oG cs N.length 2),(1,oM m),(2,zQ N)] 3 (iG 0) [(0,oG cs (N++[(⟨o,i,RU b p,lev⟩:C3)]).length 3),(1,oM (CW m i N.length)),(3,zQ (N++[⟨o,i,RU b p,lev⟩]))] 4:=by
 have hro:=h.room;refine pP func34 ?_;refine pO 11111111100 (s0 234 fI [(0,.ref 0 0),(3,.ptr (aJ o) 0),(6,.ref 3 0)] [(0,oG cs N.length 2),(1,oM m),(2,zQ N),(3,OG ⟨o,i,z4,1⟩)] 4 3) [hf 24 (IW h.chk),hf 29 (Ds fI h.cl),hf 31 (TP fI h.sm h.id),hlk 40 (lkP (m:=m) (k:=i) (v:=0) (b:=false) (by rw[h.fresh];rfl) (by rw[h.fresh];rfl)),hr 49 (show decide (200<=(N.length:Int))=false from C5 aa),hq 54 [Z8 cs m N,iG o.By] [hc (cf m),hc (az.al N)] h.card',hf 61 (OD fI h.sm h.by_ h.sig)] [hc (eB (gs:=aJ o) aH),hc (el N),hc (cf m),hc (az.imm N)] ?_;refine Ix 1111111110 (s0 234 fI [(0,.ref 0 0),(3,.ptr (aJ o) 0),(6,.ref 3 0)] [(0,oG cs N.length 2),(1,oM m),(2,zQ N),(3,OG ⟨o,i,z4,1⟩)] 4 3) ?_ λd=>?_;rotate_left
 .by_cases hk1:o.Kind=1
  .have e0:decide (0<(N.length:Int))=false:=by rw[h.create hk1];rfl
   exact yl 1111111110 [hr 65 (CO hk1),hr 72 e0] [hc (el N),hc (cf m),hc (az.imm N)] d
  .exact yl 1111111110 [hr 65 (C5 hk1)] [hc (el N),hc (cf m),hc (az.imm N)] d
 refine Ix 111111111111101 (s0 234 fI [(0,.ref 0 0),(3,.ptr (aJ o) 0),(6,.ref 3 0),(11,.ref 4 0),(12,.ref 5 0),(13,iG top)] (Z9 cs m N ⟨o,i,z4,lev⟩ p b) 6 3) ?_ λd=>?_;rotate_left
 .refine pN (λs:OS×OS×Int×Int×Int=>(s0 234 fI (aa7 o s.2.2.1 s.2.2.2.2) (Z9 cs m N ⟨o,i,z4,s.2.2.2.1⟩ s.1 s.2.1) 6 3)) 11111111111110122 h1 [ho 76 [Z8 cs m N,.agg (aJ o)] [hc (cf m),hc (az.al N)] h.lacks' (λg hg=>by cases hg)] [hc (el N),hc (cf m),hc (az.imm N)] (λB s w hs k5 j=>?_);unfold Z6 at hs;rcases bC hs with⟨c1,hs⟩|⟨c1,hs⟩
  .obtain⟨x,l,hs⟩:=bS hs;obtain⟨n,q,hn⟩:=h.par x (bO (Hb l).2);have ej:(m.get x).getD 0=(n:Int):=by rw[q];rfl
   rw[ej] at hs;obtain⟨y,a,hs⟩:=bS hs;obtain rfl:=Bo hs;exact jw [hr 83 c1,Az 84 (ac.ixZ l),Az 85 (ac.ptZ aW l),hlk 95 (Zz ej),Az 96 (az.ixrZ 2 a),hlk 102 (Zz ej),tN 103 [4] 7 [(4,oA s.1)] [.ref 4 0,iG (n:Int)] [(0,oA (yt s.1 n))] (W0 fI s.1 aa) ⟨⟨rfl,.inl rfl⟩,trivial⟩ ⟨⟨rfl,.inl rfl⟩,trivial⟩,Az 107 (az.fs0Z aap aaq 30 B5 a),tN 108 [5] 7 [(5,oA s.2.1)] [.ref 5 0,.agg (FSq y.past)] [(0,oA (RU s.2.1 y.past))] (TX fI s.2.1 y.past) ⟨⟨rfl,.inl rfl⟩,trivial⟩ ⟨⟨rfl,.inl rfl⟩,trivial⟩,Az 114 (az.fd0Z tZ 3 a),Az 121 (az.fd0Z tZ 34 a)] [hc (el N),hc (cf m),hc (az.imm N)] (k5 _ rfl)
  .obtain rfl:=Bo hs;have e:=j _ rfl;simp only[Fw] at e;obtain⟨rfl,rfl,rfl,rfl⟩:=e;exact yl 111111111111101 [hr 83 c1] [hc (el N),hc (cf m),hc (az.imm N)] d
 refine Ix 11111111111111101 (s0 234 fI [(0,.ref 0 0),(3,.ptr (aJ o) 0),(6,.ref 3 0),(11,.ref 4 0),(12,.ref 5 0),(13,iG top),(17,.ref 6 0)] (Z9 cs m N ⟨o,i,z4,lev⟩ p b++[(6,oA z4)]) 7 3) ?_ λd=>?_;rotate_left
 .refine pN (λk:Nat=>(s0 234 fI [(0,.ref 0 0),(3,.ptr (aJ o) 0),(6,.ref 3 0),(11,.ref 4 0),(12,.ref 5 0),(13,iG top),(17,.ref 6 0),(127,iG (k:Int))] (Z9 cs m N ⟨o,i,z4,lev⟩ p b++[(6,oA (ZA p b k))]) 7 3)) 1111111111111110122 Li [] [hc (el N),hc (cf m),hc (az.imm N)] (λB k v hs k5 j=>?_);rcases k with _|_|_|_|k
  .cases hs;exact jw [hV 136 (ju (P:=prog) (t:=34) p.a0 b.a0)] [hc (el N),hc (cf m),hc (az.imm N)] (k5 _ rfl)
  .cases hs;exact jw [hV 136 (ju (P:=prog) (t:=34) p.a1 b.a1)] [hc (el N),hc (cf m),hc (az.imm N)] (k5 _ rfl)
  .cases hs;exact jw [hV 136 (ju (P:=prog) (t:=34) p.a2 b.a2)] [hc (el N),hc (cf m),hc (az.imm N)] (k5 _ rfl)
  .cases hs;exact jw [hV 136 (ju (P:=prog) (t:=34) p.a3 b.a3)] [hc (el N),hc (cf m),hc (az.imm N)] (k5 _ rfl)
  .have e:ZA p b (k+1+1+1+1)=z4:=h2;rw[e];exact yl 11111111111111101 [hr 128 (show decide (((k+1+1+1+1:Nat):Int)<4)=false from C5 aa)] [hc (el N),hc (cf m),hc (az.imm N)] d
 refine Ix 11111111111111111111101 (s0 234 fI [(0,.ref 0 0),(3,.ptr (aJ o) 0),(6,.ref 3 0),(19,iG last),(20,bG fol)] [(0,oG cs N.length 2),(1,oM m),(2,zQ N),(3,OG ⟨o,i,RU b p,lev⟩)] 4 3) ?_ λd=>?_;rotate_left
 .refine pN (λs:Int×Bool×Int=>(s0 234 fI [(0,.ref 0 0),(3,.ptr (aJ o) 0),(6,.ref 3 0),(19,iG s.1),(20,bG s.2.1),(157,iG (ah N)),(158,iG s.2.2)] [(0,oG cs N.length 2),(1,oM m),(2,zQ N),(3,OG ⟨o,i,RU b p,lev⟩)] 4 3)) 1111111111111111111110122 h4 [hr 146 h3,tN 152 [3] 7 [(3,OG ⟨o,i,b,lev⟩)] [.ref 3 30,.agg (FSq p)] [(0,OG ⟨o,i,RU b p,lev⟩)] (RE fI ⟨o,i,b,lev⟩ p) ⟨⟨rfl,.inl rfl⟩,trivial⟩ ⟨⟨rfl,.inl rfl⟩,trivial⟩] [hc (el N),hc (cf m),hc (az.imm N)] (λB s w hs k5 j=>?_);obtain⟨la,r,k⟩:=s;unfold Z7 at hs;dsimp only at hs;rcases bC hs with⟨c1,hs⟩|⟨c1,hs⟩
  .obtain⟨y,a,hs⟩:=bS hs;obtain⟨n,hn⟩:∃n:Nat,k=(n:Int):=⟨k.toNat,by have:=(Hb a).1;omega⟩;rcases bC hs with⟨c2,hs⟩|⟨c2,hs⟩
   .obtain⟨hh,f,hs⟩:=bS hs;rw[hn] at f;have f:=TZ ⟨o,i,RU b p,lev⟩ (n:=n) (by have:=(cr (Hb a).2).1;omega) f;rw[<-hn] at f;cases hh
    .obtain rfl:=Bo hs;exact jw [hr 159 c1,Az 166 (az.ixrZ 2 a),Az 171 (az.fd0Z tZ 0 a),hr 174 c2,hq 178 [.ptr (d7 ⟨o,i,RU b p,lev⟩) 30,iG k] [] f] [hc (el N),hc (cf m),hc (az.imm N)] (k5 _ rfl)
    .obtain rfl:=Bo hs;cases r
     .exact jw [hr 159 c1,Az 166 (az.ixrZ 2 a),Az 171 (az.fd0Z tZ 0 a),hr 174 c2,hq 178 [.ptr (d7 ⟨o,i,RU b p,lev⟩) 30,iG k] [] f,Az 185 (az.fd0Z tZ 1 a),Az 193 (az.fd0Z tZ 1 a),hr 197 (rfl:decide (y.o.Seq=wI (o.Seq-1))=decide (y.o.Seq=wI (o.Seq-1)))] [hc (el N),hc (cf m),hc (az.imm N)] (k5 _ rfl)
     .exact jw [hr 159 c1,Az 166 (az.ixrZ 2 a),Az 171 (az.fd0Z tZ 0 a),hr 174 c2,hq 178 [.ptr (d7 ⟨o,i,RU b p,lev⟩) 30,iG k] [] f,Az 185 (az.fd0Z tZ 1 a)] [hc (el N),hc (cf m),hc (az.imm N)] (k5 _ rfl)
   .obtain rfl:=Bo hs;exact jw [hr 159 c1,Az 166 (az.ixrZ 2 a),Az 171 (az.fd0Z tZ 0 a),hr 174 c2] [hc (el N),hc (cf m),hc (az.imm N)] (k5 _ rfl)
  .obtain rfl:=Bo hs;have e:=j _ rfl;simp only[Fw] at e;obtain⟨rfl,rfl⟩:=e;exact yl 11111111111111111111101 [hr 159 c1] [hc (el N),hc (cf m),hc (az.imm N)] d
 refine pO 111111111111111111111100 (s0 234 fI [(0,.ref 0 0),(3,.ptr (aJ o) 0),(6,.ref 3 0),(19,iG last),(20,bG fol)] [(0,oG cs N.length 2),(1,oM m),(2,zQ N),(3,OG ⟨o,i,RU b p,lev⟩)] 4 3) [] [hc (el N),hc (cf m),hc (az.imm N)] ?_;refine Ix 11111111111111111111110 (s0 234 fI [(0,.ref 0 0),(3,.ptr (aJ o) 0),(6,.ref 3 0)] [(0,oG cs N.length 2),(1,oM m),(2,zQ N),(3,OG ⟨o,i,RU b p,lev⟩)] 4 3) ?_ λd=>?_;rotate_left
 .by_cases hs1:1<o.Seq
  .obtain rfl:=h6 hs1;exact yl 11111111111111111111110 [hr 203 h5,hr 207 (CO hs1)] [hc (el N),hc (cf m),hc (az.imm N)] d
  .exact yl 11111111111111111111110 [hr 203 h5,hr 207 (C5 hs1)] [hc (el N),hc (cf m),hc (az.imm N)] d
 exact mt .ret (s0 234 fI [(4,iG 0)] [(0,oG cs (N++[(⟨o,i,RU b p,lev⟩:C3)]).length 3),(1,oM (CW m i N.length)),(3,zQ (N++[⟨o,i,RU b p,lev⟩]))] 4 3) [iG 0] [hmu [1] 4 (aa6 h.fresh N.length),Tn 231 az 392 N ⟨o,i,RU b p,lev⟩ aa] [hc (el (N++[⟨o,i,RU b p,lev⟩])),hc (cf (CW m i N.length)),hc (az.imm (N++[⟨o,i,RU b p,lev⟩]))] (ρ:=rI 3++[(3,5)]) (kd:=[(3,.row)])
end
theorem ZB(l:Mw):∀g∈l.flatMap bv,∃v,g= .lit v:=Gj (λx g hg=>by simp only[bv,EZ,Lx,or_false] at hg;rcases hg with rfl|rfl|rfl|rfl|rfl<;>exact⟨_,rfl⟩) l
theorem W8{cs:Mw}(h:xf cs):jg prog gl 39 [aE bv cs] [] 0 (.ref 0 0) [(0,oG cs 0 2),(1,oM ⟨[],0⟩),(2,zQ [])] 3:=by
 have hcl:Fl cs=some cs:=by unfold Fl aT;rw[Bz (by have:=h.1;simp;omega)];rfl
 refine pP func39 ?_;exact mt .ret (s0 15 gl [(2,.ref 0 0)] [(0,oG cs 0 2),(1,oM ⟨[],0⟩),(2,zQ [])] 3 0) [.ref 0 0] [ho 5 [aE bv cs] [] (tn gl hcl) (ZB _),hz 13 [0] (wS (i:=0) (c:=3) aH (Lh gl h) (aG 20 _ aH) (bT.imm cs) B5 (by rfl) (w5 (zr wZ)))] [hc (bT.al cs),hc (cf ⟨[],0⟩),hc (az.imm [])]
abbrev frG(r:AQ):Fr:=[(1,.ptr (aI r) 0),(3,.ref 0 0)]
structure Adh (r:AQ) (ms:Nat->Jn) (N:Jk):Prop where
 srt:xf r.Cards
 sml:r.L.length<=1000
 len:N.length=r.L.length
 m0:ms 0=⟨[],0⟩
 step:∀(k:Nat) (o:Bj),r.L[k]?=some o->jg prog fI 34 [.ref 0 0,.agg (aJ o)] [(0,oG r.Cards k 2),(1,oM (ms k)),(2,zQ (N.take k))] 3 (iG 0) [(0,oG r.Cards (k+1) 3),(1,oM (ms (k+1))),(3,zQ (N.take (k+1)))] 4
def AjD(n k:Nat):Option (Nat⊕Unit):=if k<n then some (.inl (k+1))else if k=n then some (.inr ())else none
theorem CX(h:n<=1000):AB (AjD n) 0=some ():=T.eq (T.loop (λk=>k<=n) (λk=>n-k) aa aa λk hk=>by
 unfold AjD;split
 .exact .some ⟨aa,aa⟩
 .rw[Bz aa];exact .some rfl)
theorem ZC{r:AQ}{ms:Nat->Jn}(h:Adh r ms N):jg prog fI 44 [.agg (aI r)] [] 0 (.ref 0 0) [(0,oG r.Cards r.L.length 2),(1,oM (ms r.L.length)),(2,zQ (N.take r.L.length))] 3:=by
 have hn:=h.sml;refine pP func44 ?_;refine Ix 111101 (s0 26 fI (frG r) [(0,oG r.Cards r.L.length 2),(1,oM (ms r.L.length)),(2,zQ (N.take r.L.length))] 3 0) ?_ λa=>?_
 .exact mt .ret (s0 26 fI [(2,.ref 0 0)] [(0,oG r.Cards r.L.length 2),(1,oM (ms r.L.length)),(2,zQ (N.take r.L.length))] 3 0) [.ref 0 0] [] [hc (rfl:r.L.length=r.L.length),hc (cf (ms r.L.length)),hc (az.imm (N.take r.L.length))]
 have hw:jg prog fI 39 [aE bv r.Cards] [] 0 (.ref 0 0) [(0,oG r.Cards 0 2),(1,oM (ms 0)),(2,zQ [])] 3:=by rw[h.m0];exact W8 fI h.srt
 refine pN (λk:Nat=>(s0 26 fI [(1,.ptr (aI r) 0),(3,.ref 0 0),(4,iG (k:Int))] [(0,oG r.Cards k 2),(1,oM (ms k)),(2,zQ (N.take k))] 3 0)) 11110122 (CX hn) [tN 7 [] 1 [] [aE bv r.Cards] [ob 0 105 [aE bv r.Cards,.mref 2,.rsl 3 0 0],(1,oM (ms 0)),(2,zQ [])] hw trivial ⟨⟨rfl,.inl rfl⟩,⟨rfl,rfl,rfl,rfl,.inr ⟨rfl,cf _⟩⟩,⟨rfl,.inr ⟨rfl,az.imm []⟩⟩,trivial⟩] [hc (eB (gs:=aI r) aH),hc (rfl:0=0),hc (cf (ms 0)),hc (az.imm [])] (λB k v hs k5 b=>?_) [] [(0,1),(1,2),(2,3)] [(2,.row)];unfold AjD at hs;split at hs
 .rename_i hk;obtain rfl:=Bo hs;obtain⟨o,ho⟩:∃o,r.L[k]?=some o:=⟨_,EH hk⟩;have hz:aS r.L (k:Int)=some o:=by rw[au];exact ho
  exact jw [hr 14 (show decide ((k:Int)<(r.L.length:Int))=true from CO aa),Az 21 (eJ.ixZ hz),Az 22 (eJ.ptZ GN hz),tN 23 [0,1,2] 3 [(0,oG r.Cards k 2),(1,oM (ms k)),(2,zQ (N.take k))] [.ref 0 0,.agg (aJ o)] [(0,oG r.Cards (k+1) 3),(1,oM (ms (k+1))),(2,none),(3,zQ (N.take (k+1)))] (h.step k o ho) ⟨⟨rfl,.inl rfl⟩,⟨rfl,rfl,rfl,rfl,.inr ⟨rfl,cf _⟩⟩,⟨rfl,.inr ⟨rfl,az.imm _⟩⟩,trivial⟩ ⟨⟨rfl,.inl rfl⟩,⟨rfl,rfl,rfl,rfl,.inr ⟨rfl,cf _⟩⟩,⟨rfl,.inr ⟨rfl,az.imm _⟩⟩,trivial⟩,hbb 16 (Xl (q:=k) aa)] [hc (rfl:k+1=k+1),hc (cf (ms (k+1))),hc (az.imm (N.take (k+1)))] (k5 _ rfl) [] [(0,0),(1,1),(2,3)] [(2,.row)]
 .rename_i hk;split at hs
  .rename_i he;subst he;obtain rfl:=Bo hs;exact yl 111101 [hr 14 (show decide ((r.L.length:Int)<(r.L.length:Int))=false from C5 aa)] [hc (rfl:r.L.length=r.L.length),hc (cf (ms r.L.length)),hc (az.imm (N.take r.L.length))] a [] [(0,0),(1,1),(2,2)] [(2,.row)]
  .cases hs
end
section
variable {α β ρ:Type}
theorem cL{c:Bool}{a b:α}:(bif c then some a else some b)=some (bif c then a else b):=by cases c<;>rfl
theorem T.bindc{x:Option α}{f:α->Option β}{Q:β->Prop}(h:T x λ_=>True)(k:∀v,x= .some v->T (f v) Q):T (x.bind f) Q:=by obtain⟨v,e,_⟩:=h;exact .bind ⟨v,e,k v e⟩
theorem T.for1{step:Int->Option (Int⊕ρ)}{Q:ρ->Prop}(n:Nat)(J:Fv)(hn:n<2305843009213693952)(h0:J 1)(h:∀k,1<=k->k<n->J k->T (step (k:Int)) (Rd (λs'=>s'=((k+1:Nat):Int)/\J (k+1)) Q))(he:∀k,n<=k->k<=n+1->J k->T (step (k:Int)) (Rd (λ_=>False) Q)):T (AB step 1) Q:=by
 refine T.loop (λs=>∃k:Nat,1<=k/\k<=n+1/\s=(k:Int)/\J k) (λs=>n+1-s.toNat) (by grind) cq ?_;rintro i ⟨k,h1,hk,hik,hj⟩;subst hik;rcases It k n with hlt|hge
 .refine(h k h1 hlt hj).mono λr hr=>?_;cases r with
  |inl s'=>refine⟨⟨k+1,aa,aa,hr.1,hr.2⟩,?_⟩;rw[hr.1];simp;omega
  |inr r=>exact hr
 .refine(he k hge hk hj).mono λr hr=>?_;cases r with
  |inl s'=>exact hr.elim
  |inr r=>exact hr
theorem T.search{step:Int->Option (Int⊕(Unit⊕ρ))}(l:List α)(p:α->Bool)(g:Nat->α->ρ)(hn:l.length<2305843009213693952)(h:∀(k:Nat) (x:α),l[k]?= .some x->k<l.length->step (k:Int)= .some (bif p x then .inr (.inr (g k x))else .inl ((k+1:Nat):Int)))(he:step (l.length:Int)= .some (.inr (.inl ()))):T (AB step 0) (λr=>(r= .inl ()/\∀x∈l,p x=false)\/∃k x,l[k]?= .some x/\p x=true/\r= .inr (g k x)/\∀(j:Nat) (y:α),j<k->l[j]?= .some y->p y=false):=by
 refine T.forI l.length (λk=>∀(j:Nat) (y:α),j<k->l[j]?= .some y->p y=false) hn (by grind) (λk hk hj=>?_) λhj=>?_
 .have hx:l[k]?= .some (l[k]'hk):=EH hk;rw[h k _ hx hk];refine .some ?_;cases hp:p l[k] with
  |true=>exact .inr ⟨k,_,hx,hp,rfl,hj⟩
  |false=>constructor<;>grind
 .rw[he];refine .some (.inl ⟨rfl,λx hx=>?_⟩);grind [G9]
end
theorem gT(n a b:Int):fB n a b=some (decide (a<=n/\n<=b)):=by grind [fB]
theorem Cq(n:Nat):AL n=some (decide (n<2305843009213693951)):=by unfold AL;congr 2;grind
def l7(i:Ab):Bool:=decide (1<=i.By/\i.By<=12/\1<=i.Seq/\i.Seq<=2147483647/\i.Sum<2305843009213693951)
def Cr(n:Nat):Bool:=decide (1<=n/\n<2305843009213693951)
theorem mY(i:Ab):iM i=some (l7 i):=by grind [iM,l7,gT,Cq]
theorem kS(n:Nat):Je n=some (Cr n):=by grind [Je,Cr]
def yZ(b:Hf):Bool:=Cr b.To&&Cr b.Eph&&decide (b.Body<2305843009213693951)&&decide (b.Tag<2305843009213693951)
theorem Cs{l:List Hf}(hn:l.length<=1000000):T (qw l) λb=>b=l.all yZ:=by
 unfold qw;refine .bind ((T.search l (λb=> !yZ b) (λ_ _=>false) aa (λk x hx hk=>?_) ?_).mono ?_)
 .unfold qv;rw[eA hk,ax,au,hx];simp only[aL,kS,Cq];grind [yZ,aq]
 .unfold qv;rw[eF,A7]
 .rintro r (⟨rfl,h⟩|⟨k,x,hx,hp,rfl,_⟩)
  .refine .some (Eq.symm (Gu.2 λx hx=>?_));have:=h x hx;simpa using this
  .refine .some (Eq.symm (Bool.eq_false_iff.2 λh=>?_));have:=Gu.1 h x (bO hx);rw[this] at hp;cases hp
theorem Ip{p:α->Bool}{step:Int->Option (Int⊕(Unit⊕Bool))}{next:Unit->Fp}{rest:Bool}(l:List α)(hl:l.length<=1000000)(h:∀(k:Nat) (x:α),l[k]?=some x->x∈l->k<l.length->step (k:Int)=some (bif p x then .inl ((k+1:Nat):Int)else .inr (.inr false)))(he:step (l.length:Int)=some (.inr (.inl ())))(hn:T (next ()) λb=>b=rest):T ((AB step 0).bind λx=>ma x next (λq=>some q)) λb=>b=(l.all p&&rest):=by
 refine .bind ((T.search l (λx=> !p x) (λ_ _=>false) aa (λk x hx hk=>?_) he).mono ?_)
 .grind
 .rintro r (⟨rfl,hr⟩|⟨k,x,hx,hp,rfl,_⟩)
  .have:l.all p=true:=by grind
   rw[this,Bool.true_and];exact hn
  .have:l.all p=false:=by grind
   rw[this,Bool.false_and];exact .some rfl
theorem Mq{p:α->Bool}{step:Int->Option (Int⊕(Unit⊕Bool))}{next:Unit->Fp}{rest:Bool}(l:List α)(hl:l.length<=1000000)(h:∀(k:Nat) (x:α),l[k]?=some x->x∈l->k<l.length->step (k:Int)=some (bif p x then .inr (.inr true)else .inl ((k+1:Nat):Int)))(he:step (l.length:Int)=some (.inr (.inl ())))(hn:T (next ()) λb=>b=rest):T ((AB step 0).bind λx=>ma x next (λq=>some q)) λb=>b=(l.any p||rest):=by
 refine .bind ((T.search l p (λ_ _=>true) aa (λk x hx hk=>?_) he).mono ?_)
 .grind
 .rintro r (⟨rfl,hr⟩|⟨k,x,hx,hp,rfl,_⟩)
  .have:l.any p=false:=by grind
   rw[this,Bool.false_or];exact hn
  .have:l.any p=true:=by grind
   rw[this,Bool.true_or];exact .some rfl
def yb(o:Bj):Bool:=o.Guards.all (λz=>decide (1<=z/\z<=12))&&(o.Refs.all (λn=>decide (n<2305843009213693951))&&(o.Past.all l7&&(o.Path.all (λn=>Cr n.Pub&&n.Boxes.all yZ)&&(o.Hist.all (λx=>l7 x.Of)&&o.Boxes.all yZ))))
theorem KA{o:Bj}(h:Be o):T (vw o) λb=>b=yb o:=by
 have n1:=h.nPast;have n2:=h.nPath;have a:=h.nRefs;have c:=h.nGuards;have d:=h.nHist;have f:=h.nBoxes;unfold vw yb;refine Ip o.Guards aa (λk x hx hm hk=>?_) (by unfold qB;rw[eF,A7]) (Ip o.Refs aa (λk x hx hm hk=>?_) (by unfold qA;rw[eF,A7]) (Ip o.Past aa (λk x hx hm hk=>?_) (by unfold qz;rw[eF,A7]) (Ip o.Path aa (λk x hx hm hk=>?_) (by unfold qy;rw[eF,A7]) (Ip o.Hist aa (λk x hx hm hk=>?_) (by unfold qx;rw[eF,A7]) (by grind [Cs])))))
 .grind [qB,eA,au,aq,gT]
 .grind [qA,eA,au,aq,Cq]
 .grind [qz,eA,au,aq,mY]
 .have e:=(Cs (l:=x.Boxes) (by have:=(h.path x hm).n;omega)).eq;unfold qy;grind [eA,au,aq,kS]
 grind [qx,eA,au,aq,mY]
def Ct(o:Bj):Bool:=o.Path.any (λn=>decide (12<n.Boxes.length))||(o.Hist.any (λn=>decide (208<n.Body.length))||(decide (12<o.Past.length\/5<o.Path.length\/208<o.Body.length\/8<o.Refs.length\/20<o.Hist.length\/6<o.Guards.length)||(if o.Kind=7 then !decide (1<=o.Body.length/\o.Body.length<=20)else if o.Kind=9 then decide (o.Boxes.length≠o.Guards.length)else if o.Kind=10 then !decide (1<=o.Boxes.length/\o.Boxes.length<=6)else if o.Kind=11 then decide (o.Boxes.length≠1)else false)))
theorem Iq(l:List α)(n:Nat):decide ((n:Int)<ah l)=decide (n<l.length):=decide_eq_decide.2 (by unfold ah;omega)
theorem NZ{o:Bj}(h:Be o):T (z6 o) λb=>b=Ct o:=by
 have n1:=h.nPast;have n2:=h.nPath;have a:=h.nHist;unfold z6 Ct;refine Mq o.Path aa (λk x hx hm hk=>?_) (by unfold tV;rw[eF,A7]) (Mq o.Hist aa (λk x hx hm hk=>?_) (by unfold tU;rw[eF,A7]) ?_)
 .grind [tV,au,aq,ah]
 .grind [tU,au,aq,ah]
 .have a1:decide ((12:Int)<ah o.Past)=decide (12<o.Past.length):=Iq o.Past 12;have a2:decide ((5:Int)<ah o.Path)=decide (5<o.Path.length):=Iq o.Path 5;have a3:decide ((208:Int)<ah o.Body)=decide (208<o.Body.length):=Iq o.Body 208;have a4:decide ((8:Int)<ah o.Refs)=decide (8<o.Refs.length):=Iq o.Refs 8;have a5:decide ((20:Int)<ah o.Hist)=decide (20<o.Hist.length):=Iq o.Hist 20;have a6:decide ((6:Int)<ah o.Guards)=decide (6<o.Guards.length):=Iq o.Guards 6;have b1:decide ((1:Int)<=ah o.Body/\ah o.Body<=20)=decide (1<=o.Body.length/\o.Body.length<=20):=decide_eq_decide.2 (by unfold ah;omega);have b2:decide ((1:Int)<=ah o.Boxes/\ah o.Boxes<=6)=decide (1<=o.Boxes.length/\o.Boxes.length<=6):=decide_eq_decide.2 (by unfold ah;omega);have b3:decide (ah o.Boxes≠ah o.Guards)=decide (o.Boxes.length≠o.Guards.length):=decide_eq_decide.2 (by unfold ah;omega);have b4:decide (ah o.Boxes≠1)=decide (o.Boxes.length≠1):=decide_eq_decide.2 (by unfold ah;omega);rw[a1,a2,a3,a4,a5,a6];simp only[gT,aL,b1,b2,b3,b4,cL];refine⟨_,rfl,?_⟩;grind
def Ac9(o:Bj):Bool:=(mz o).getD false
theorem Cu(o:Bj):mz o=some (Ac9 o):=by
 have:T (mz o) λ_=>True:=by unfold mz;repeat'(first|exact T.some trivial|(refine T.bindc ?_ λv _=>?_)|(refine T.ite (λ_=>?_) λ_=>?_))
 obtain⟨b,e,_⟩:=this;unfold Ac9;rw[e];rfl
def gU(o:Bj):Bool:=(Ge o).getD false
theorem jF(o:Bj):Ge o=some (gU o):=by
 have:T (Ge o) λ_=>True:=by unfold Ge;simp only[gT,mY,kS];repeat'(first|exact T.some trivial|(refine T.bindc ?_ λv _=>?_)|(refine T.ite (λ_=>?_) λ_=>?_))
 obtain⟨b,e,_⟩:=this;unfold gU;rw[e];rfl
def dt(a b:Ab):Bool:=if a.By≠b.By then decide (a.By<b.By)else if a.Seq≠b.Seq then decide (a.Seq<b.Seq)else decide (a.Sum<b.Sum)
theorem pJ(a b:Ab):oU a b=some (dt a b):=by unfold oU dt;rw[show decide ((a.Sum:Int)<(b.Sum:Int))=decide (a.Sum<b.Sum) from decide_eq_decide.2 aa];grind
structure Gd (o:Bj):Prop where
 kind:1<=o.Kind/\o.Kind<=13
 bare:Ac9 o=true
 numbers:gU o=true
 items:yb o=true
 long:Ct o=false
 past:∀(k:Nat) (a b:Ab),o.Past[k]?=some a->o.Past[k+1]?=some b->dt a b=true
 guards:∀(k:Nat) (a b:Int),o.Guards[k]?=some a->o.Guards[k+1]?=some b->a<b
 create:o.Past=[]↔o.Kind=1
theorem F7(h:1<=k)(h2:k<2305843009213693952):wI ((k:Int)-1)=((k-1:Nat):Int):=by grind [bM]
theorem Cv{o:Bj}(h:Be o):T (qE o) λe=>e=0->Gd o:=by
 have n1:=h.nPast;have f:=h.nGuards;unfold qE;rw[cL,aL];refine .ite (by grind [T.some]) λhk=>?_;rw[Cu,aL];refine .ite (by grind [T.some]) λhb=>?_;rw[jF,aL];refine .then (v:= !(gU o)|| !(yb o)) ?_ ?_
 .cases hn:gU o with
  |false=>exact .some rfl
  |true=>exact .then (KA h) (.some aC)
 refine .ite (by grind [T.some]) λhn=>?_;refine .then (NZ h) (.ite (by grind [T.some]) λhl=>?_);refine .bind (T.for1 o.Past.length (λk=>∀(j:Nat) (a b:Ab),j+1<k->o.Past[j]?=some a->o.Past[j+1]?=some b->dt a b=true) aa (by grind) (λk h1 hk hj=>?_) λk hge _ hj=>?_)
 .obtain⟨a0,e0⟩:∃a0,o.Past[k-1]?=some a0:=⟨_,EH aa⟩;obtain⟨a1,e1⟩:∃a1,o.Past[k]?=some a1:=⟨_,EH hk⟩;unfold qD;rw[eA hk,ax,F7 h1 aa,au,au,e0,e1,aq aa];simp only[aL,pJ];refine .ite (λ_=> .some (.some (by grind))) λc=> .some ⟨rfl,λj a b d ha hb'=>?_⟩;grind
 unfold qD;rw[show decide ((k:Int)<ah o.Past)=false from C5 (by unfold ah;omega),A7];refine .some ?_;have hpast:∀(j:Nat) (a b:Ab),o.Past[j]?=some a->o.Past[j+1]?=some b->dt a b=true:=by grind
 clear hj;refine .bind (T.for1 o.Guards.length (λk=>∀(j:Nat) (a b:Int),j+1<k->o.Guards[j]?=some a->o.Guards[j+1]?=some b->a<b) aa (by grind) (λk h1 hk hj=>?_) λk hge _ hj=>?_)
 .obtain⟨a0,e0⟩:∃a0,o.Guards[k-1]?=some a0:=⟨_,EH aa⟩;obtain⟨a1,e1⟩:∃a1,o.Guards[k]?=some a1:=⟨_,EH hk⟩;unfold qC;rw[eA hk,ax,F7 h1 aa,au,au,e0,e1,aq aa];simp only[aL];refine .dec (λ_=> .some (.some (by grind))) λc=> .some ⟨rfl,λj a b d ha hb'=>?_⟩;grind
 unfold qC;rw[show decide ((k:Int)<ah o.Guards)=false from C5 (by unfold ah;omega),A7];refine .some ?_;have hguards:∀(j:Nat) (a b:Int),o.Guards[j]?=some a->o.Guards[j+1]?=some b->a<b:=λj a b ha hb'=>hj j a b (by grind) ha hb';rw[cL,cL,cL,aL];refine .ite (by grind [T.some]) λhc=> .some λ_=>⟨?_,?_,?_,?_,hl,hpast,hguards,?_⟩
 .grind
 .simpa using hb
 .grind
 .grind
 .have e:ah o.Past=0↔o.Past=[]:=by unfold ah;simp_all
  grind
theorem KB{p:Nat}{b:CY}{s:X5}(hp:fS p)(hS:fS s.S)(hb:b.length<=1073741824):T (jJ p b s) λ_=>True:=by
 unfold jJ;have e:fV=some 2305843009213693950:=rfl;simp only[e,aL];refine .bindc ?_ λj _=>?_
 .grind [T.some]
 .refine .ite (λ_=> .some trivial) λ_=>?_;refine .bind ((ka _ hS).mono (by grind [T.bind,T.mono,QE,ka,wL,T.some]))
section
variable {K:Type} [DecidableEq K]
theorem gb{k:K}:∀{l:List K} {n:Nat},bu k l=some n->l[n]?=some k/\∀j,j<n->l[j]?≠some k
 |[],n,h=>by cases h
 |x::r,n,h=>by
  unfold bu at h;split at h
  .grind
  .rename_i e;rw[DG] at h;obtain⟨a,h',rfl⟩:=h;obtain⟨h1,h2⟩:=gb h';grind
theorem jv{k:K}:∀{l:List K},bu k l=none↔k∉l
 |[]=>by simp[bu]
 |x::r=>by
  unfold bu;by_cases h:k=x
  .simp[h]
  .simp[h,jv (l:=r)]
theorem y0{k:K}{l:List K}(h:l[n]?=some k)(h2:∀j,j<n->l[j]?≠some k):bu k l=some n:=by
 cases hk:bu k l with
 |none=>grind [jv]
 |some m=>obtain⟨h3,h4⟩:=gb hk;grind
end
def gO(g:AQ)(id:Ab):Int:=match bu id g.IDs with
 |none=> -1
 |some k=>(k:Int)
theorem dC(hn:g.IDs.length<=1000000)(id:Ab):fC g id=some (gO g id):=by
 unfold fC;refine T.eq (.bind ((T.search g.IDs (λx=>decide (x=id)) (λk _=>(k:Int)) aa (λk x hx hk=>?_) ?_).mono ?_))
 .grind [qF,eA,au,aq]
 .grind [qF,eF]
 .rintro r (⟨rfl,h⟩|⟨k,x,hx,hp,rfl,h⟩)
  .have:bu id g.IDs=none:=by grind [jv]
   refine .some ?_;grind [gO]
  .have hp:=DD hp;subst hp;have:bu x g.IDs=some k:=by grind [y0]
   refine .some ?_;grind [gO]
def UW:DP:=⟨0,0,0,0,0⟩
def mZ(g:AQ)(d:Int):DP×Bool:=match g.Cards.find? (λc=>decide (c.Device=d)) with
 |none=>(UW,false)
 |some c=>(c,true)
theorem Cw(hn:g.Cards.length<=1000000)(d:Int):vz g d=some (mZ g d):=by
 unfold vz;refine T.eq (.bind (T.forA g.Cards.length (λk acc=>acc=UW/\∀(j:Nat) (c:DP),j<k->g.Cards[j]?=some c->c.Device≠d) aa ⟨rfl,(by grind)⟩ (λk acc hk hj=>?_) λacc hj=>?_))
 .obtain⟨c,hc⟩:∃c,g.Cards[k]?=some c:=⟨_,EH hk⟩;unfold tX;dsimp only;rw[eA hk,ax,au,hc,aL];refine .dec (λh=>?_) λh=> .some ⟨aq aa,hj.1,λj c' a b=>?_⟩
  .refine .some (.some ?_);grind [mZ,List.find?_eq_some_iff_getElem]
  grind
 .unfold tX;dsimp only;rw[eF,A7];refine .some (.some ?_);unfold mZ;have:g.Cards.find? (λc=>decide (c.Device=d))=none:=by grind [G9]
  rw[this];rfl
def QF(l:Bh)(n:Int):Bool:=l.any λx=>decide (x=n)
theorem cX{l:Bh}(hn:l.length<=1000000)(n:Int):fb l n=some (QF l n):=by unfold fb QF;refine T.eq ((Mq l hn (rest:=false) (next:=λ_=>some false) (λk x hx hm hk=>?_) ?_ (.some rfl)).mono λv hv=>by simpa using hv);all_goals grind [xq,eA,au,aq,eF]
def nA(l:A3)(n:Ab):Bool:=l.any λx=>decide (x=n)
theorem kf{l:A3}(hn:l.length<=1000000)(n:Ab):jL l n=some (nA l n):=by unfold jL nA;refine T.eq ((Mq l hn (rest:=false) (next:=λ_=>some false) (λk x hx hm hk=>?_) ?_ (.some rfl)).mono λv hv=>by simpa using hv);all_goals grind [qJ,eA,au,aq,eF]
def Pm(g:AQ)(i k:Nat):Bool:=((g.In[i]?).bind λr=>r[k]?).getD false
structure Fq (g:AQ):Prop where
 nL:g.L.length<=200
 nI:g.IDs.length=g.L.length
 nU:g.Up.length=g.L.length
 nN:g.In.length=g.L.length
 nC:g.Cards.length<=1000
 cards:∀c∈g.Cards,DW c.Device/\DW c.Member/\fS c.Sign
 up:∀(i:Nat) (u:Bh),g.Up[i]?=some u->u.length<=12/\∀x∈u,0<=x/\x<(i:Int)
 rows:∀(i:Nat) (r:List Bool),g.In[i]?=some r->r.length=g.L.length
 inlt:∀i k,Pm g i k=true->k<i/\i<g.L.length
 ops:∀(i:Nat) (o:Bj),g.L[i]?=some o->Be o/\Gd o/\fS o.Sig.S
 ids:∀(i:Nat) (o:Bj) (id:Ab),g.L[i]?=some o->g.IDs[i]?=some id->pV o=some id
 nd:g.IDs.Nodup
 one:∀(i k:Nat) (u:Bh),g.Up[i]?=some u->(k:Int)∈u->Pm g i k=true
 tr:∀(i j k:Nat) (u:Bh),Pm g i j=true->g.Up[j]?=some u->(k:Int)∈u->Pm g i k=true
 la:∀(i k:Nat),Pm g i k=true->∃u,g.Up[i]?=some u/\((k:Int)∈u\/∃j v,Pm g i j=true/\g.Up[j]?=some v/\(k:Int)∈v)
def HR(g:AQ)(up:Bh)(k:Nat):Prop:=(k:Int)∈up\/∃j:Nat,(j:Int)∈up/\Pm g j k=true
theorem yc(w:Fq g){up:Bh}(h1:up.length<=1000)(h2:∀x∈up,0<=x/\x<(g.L.length:Int)):T (jA g up) λr=>r.length=g.L.length/\∀k,k<g.L.length->(r[k]?=some true↔HR g up k):=by
 have nL:=w.nL;unfold jA;refine .bind (.make (by unfold ah;omega) (by unfold ah;omega) (by unfold ah;omega) ?_);have e0:wI (ah g.L-1)=(g.L.length:Int)-1:=bM (by unfold ah;omega) (by unfold ah;omega);rw[e0];have e1:(ah g.L).toNat=g.L.length:=by unfold ah;omega
 rw[e1];refine .bind (T.loop (λs=> -1<=s.2/\s.2<g.L.length/\s.1.length=g.L.length/\(∀k:Nat,k<g.L.length->s.2<k->(s.1[k]?=some true↔HR g up k))/\∀k:Nat,(k:Int)<=s.2->(s.1[k]?=some true↔∃j v,s.2<(j:Nat)/\HR g up j/\j<g.L.length/\g.Up[j]?=some v/\(k:Int)∈v)) (λs=>(s.2+1).toNat) ⟨by simp only;omega,by simp only;omega,aC,λk hk hi=>by simp only at hi;omega,λk hk=>?_⟩ (by grind) ?_)
 .simp only at hk⊢;constructor
  .intro h;rw[List.getElem?_replicate] at h;split at h<;>cases h
  .rintro⟨j,v,hj,_,hjl,_⟩;omega
 rintro⟨r,i⟩ ⟨p,i1,f,l,a⟩;simp only at p i1 f l a;unfold AJ;dsimp only;refine .dec (λhi=>?_) λhi=> .some (.some ⟨f,λk hk=>l k hk aa⟩);obtain⟨n,rfl⟩:∃n:Nat,i=(n:Int):=⟨i.toNat,aa⟩;have hn:n<g.L.length:=aa;rw[cX aa,aL];have hUp:∃u,g.Up[n]?=some u:=⟨_,EH (by rw[w.nU];exact hn)⟩;obtain⟨u,hu⟩:=hUp;obtain⟨u1,o⟩:=w.up n u hu;have hbeh:∀k,HR g up k↔((k:Int)∈up\/∃j v,HR g up j/\g.Up[j]?=some v/\(k:Int)∈v):=λk=>by
  constructor
  .rintro(h|⟨j,hj,c⟩)
   .exact .inl h
   .obtain⟨v,hv,hk|⟨m,v',h3,h4,h5⟩⟩:=w.la j k c
    .exact .inr ⟨j,v,.inl hj,hv,hk⟩
    .exact .inr ⟨m,v',.inr ⟨j,hj,h3⟩,h4,h5⟩
  .rintro(h|⟨j,v,hj|⟨m,hm,d⟩,hv,hk⟩)
   .exact .inl h
   .exact .inr ⟨j,hj,w.one j k v hv hk⟩
   .exact .inr ⟨m,hm,w.tr m j k v d hv hk⟩
 have hlt:∀(j:Nat) (v:Bh) (k:Nat),g.Up[j]?=some v->(k:Int)∈v->k<j:=λj v k hv hk=>by have:=(w.up j v hv).2 _ hk;omega
 refine .bind (T.mono (Q:=λs=>s.length=g.L.length/\(∀k:Nat,k≠n->s[k]?=r[k]?)/\(s[n]?=some true↔HR g up n)) ?_ ?_)
 .have key:(r[n]?=some true\/(n:Int)∈up)↔HR g up n:=by grind [Fq.nU]
  refine .ite (λhh=>?_) λhh=>?_
  .have hm:(n:Int)∈up:=by obtain⟨x,hx,hb⟩:=List.any_eq_true.1 hh;grind
   grind [T.set,EO]
  grind [QF,T.some]
 .rintro s ⟨s1,s2,s3⟩;obtain⟨b,hb⟩:∃b,s[n]?=some b:=⟨_,EH aa⟩;rw[au,hb,aL];have ew:wI ((n:Int)-1)=(n:Int)-1:=bM aa aa;refine .ite (λhbt=>?_) λhbf=>?_
  .have hbt:b=true:=hbt;subst hbt;have hbn:=s3.1 hb;refine .bind (T.mono (Q:=λt=>t.length=g.L.length/\∀k:Nat,t[k]?=some true↔(s[k]?=some true\/(k:Int)∈u)) (T.forA u.length (λm t=>t.length=g.L.length/\∀k:Nat,t[k]?=some true↔(s[k]?=some true\/∃j,j<m/\u[j]?=some (k:Int))) aa ⟨s1,λk=>aC⟩ (λm t hm hj=>?_) λt hj=>?_) ?_)
   .obtain⟨x,hx⟩:∃x,u[m]?=some x:=⟨_,EH hm⟩;have e:=o x (bO hx);unfold tT;dsimp only;rw[au,hu,aL,eA hm,ax,aL,au,hx,aL];refine .bind (.set e.1 (by grind) (.some ⟨aq aa,by grind,λk=>?_⟩));obtain⟨y,rfl⟩:∃y:Nat,x=(y:Int):=⟨x.toNat,aa⟩;simp only[EO];by_cases hk:k=y
    .grind
    .rw[List.getElem?_set_ne (Ne.symm hk),hj.2 k];grind
   .unfold tT;dsimp only;rw[au,hu,aL,eF,A7];refine .some ⟨hj.1,λk=>?_⟩;rw[hj.2 k];constructor
    .grind
    .rintro(h|h)
     .exact .inl h
     .obtain⟨j,hj'⟩:=G9 h;grind
   .rintro t ⟨q,t2⟩;refine .some ⟨⟨?_,?_,q,λk hk hik=>?_,λk hk=>?_⟩,?_⟩
    .grind
    .grind
    .replace hik:wI ((n:Int)-1)<k:=hik;rw[ew] at hik;show t[k]?=some true↔_;rw[t2 k];have hku:(k:Int)∉u:=λh=>by have:=o _ h;omega
     rcases Nat.lt_trichotomy k n with h|rfl|h
     all_goals grind
    .replace hk:(k:Int)<=wI ((n:Int)-1):=hk;rw[ew] at hk;show t[k]?=some true↔∃j v,wI ((n:Int)-1)<(j:Nat)/\_;rw[ew,t2 k,s2 k aa,a k aa];grind
    .show(wI ((n:Int)-1)+1).toNat<_;rw[ew];omega
  .have hbf:b=false:=hbf;subst hbf;have hbn:¬HR g up n:=λh=>by have:=s3.2 h;rw[hb] at this;cases this
   refine .some ⟨⟨?_,?_,s1,λk hk hik=>?_,λk hk=>?_⟩,?_⟩
   .grind
   .grind
   .grind
   .replace hk:(k:Int)<=wI ((n:Int)-1):=hk;rw[ew] at hk;show s[k]?=some true↔∃j v,wI ((n:Int)-1)<(j:Nat)/\_;rw[ew,s2 k aa,a k aa];grind
   .show(wI ((n:Int)-1)+1).toNat<_;rw[ew];omega
theorem Fq.op{g:AQ}(w:Fq g){i:Nat}(h:i<g.L.length):∃o,g.L[i]?=some o/\Be o/\Gd o:=by obtain⟨o,ho⟩:∃o,g.L[i]?=some o:=⟨_,EH h⟩;grind [ops]
theorem KC(w:Fq g){o:Bj}(hr:r.length=g.L.length):T (lA g o r) λ_=>True:=by
 have nL:=w.nL;unfold lA;refine .bind (T.forA g.L.length (λ_ _=>True) aa trivial (λk b hk _=>?_) λb _=>?_)
 .obtain⟨p,hp,_⟩:=w.op hk;obtain⟨x,hx⟩:∃x,r[k]?=some x:=⟨_,EH aa⟩;unfold jK;dsimp only;rw[eA hk,ax,au,au,hx,hp];simp only[aL];refine .bindc ?_ λj _=> .ite (λ_=> .some ⟨aq aa,trivial⟩) λ_=>?_
  .grind [T.some]
  .refine .ite (λ_=> .some (.some trivial)) λ_=> .bindc ?_ λj _=> .some ⟨aq aa,trivial⟩;grind [T.some]
 .unfold jK;dsimp only;rw[eF,A7];refine .some (.bindc ?_ λj _=> .some trivial);grind [T.some]
structure R6 (g:AQ) (o:Bj) (up:Bh):Prop where
 check:Gd o
 id:∃i,pV o=some i/\bu i g.IDs=none
 room:g.L.length<200
 card:∃c,mZ g o.By=(c,true)/\jJ c.Sign (qc o) o.Sig=some true
 create:o.Kind=1->g.L=[]
 upl:up.length=o.Past.length
 par:∀(k:Nat) (i:Ab),o.Past[k]?=some i->∃n:Nat,bu i g.IDs=some n/\up[k]?=some (n:Int)
 upb:∀x∈up,0<=x/\x<(g.L.length:Int)
 apart:∀i k:Nat,(i:Int)∈up->(k:Int)∈up->Pm g i k=false
 late:∀(i:Nat) (p:Bj),(i:Int)∈up->g.L[i]?=some p->p.At<=o.At
 right:∃r,jA g up=some r/\lA g o r=some true
theorem pK{o:Bj}(h:Ct o=false):o.Past.length<=12:=by grind [Ct]
theorem yd{d:Int}{c:DP}(h:mZ g d=(c,true)):c∈g.Cards/\c.Device=d:=by grind [mZ]
theorem wO(h:g.In[i]?=some r):Pm g i k=(r[k]?).getD false:=by unfold Pm;rw[h];rfl
theorem KD(w:Fq g){o:Bj}(ho:Be o)(hs:fS o.Sig.S):T (vA g o) λr=>r.1=0->R6 g o r.2:=by
 have nL:=w.nL;have nI:=w.nI;have nC:=w.nC;have nP:=ho.nPast;unfold vA;refine .bind ((Cv ho).mono λe he=> .dec (by grind [T.some]) λh=>?_);have hc:Gd o:=he (by simpa using h);obtain⟨i,ei,i1,B,C,D⟩:=wN ho;rw[ei,aL,dC aa,aL];refine .dec (by grind [T.some]) λhpl=>?_;have hk:bu i g.IDs=none:=by grind [gO]
 refine .dec (by grind [T.some]) λhroom=>?_;have hroom:g.L.length<200:=by unfold ah at hroom;omega
 rw[Cw aa,aL];refine .ite (by grind [T.some]) λf=>?_;obtain⟨c,hcd⟩:∃c,mZ g o.By=(c,true):=by grind
 rw[hcd];refine .then (uV ho) ?_;refine .bindc (by grind [Fq,KB,yd,yY]) λsg hsg=>?_;refine .ite (by grind [T.some]) λl=>?_;have hsg:jJ c.Sign (qc o) o.Sig=some true:=by grind
 rw[cL,aL];refine .ite (by grind [T.some]) λhcr=>?_;have hcr:o.Kind=1->g.L=[]:=λh1=>by rw[CO h1,ax] at hcr;have:=Lw hcr;unfold ah at this;exact List.eq_nil_of_length_eq_zero aa
 refine .bind (T.forA o.Past.length (λk acc=>acc.length=k/\(∀(j:Nat) (x:Ab),j<k->o.Past[j]?=some x->∃n:Nat,bu x g.IDs=some n/\acc[j]?=some (n:Int))/\∀x∈acc,0<=x/\x<(g.L.length:Int)) aa (by grind) (λk acc hk hj=>?_) λacc hj=>?_)
 .obtain⟨x,hx⟩:∃x,o.Past[k]?=some x:=⟨_,EH hk⟩;unfold qI;dsimp only;rw[eA hk,ax,au,hx,aL,dC aa,aL];refine .dec (λ_=> .some (.some (by grind))) λhp=>?_;have hkx:∃n,bu x g.IDs=some n:=by grind [gO]
  obtain⟨n,hn⟩:=hkx;have ep:gO g x=(n:Int):=by unfold gO;rw[hn]
  have hnl:n<g.L.length:=by have:=(cr (gb hn).1).1;omega
  rw[ep];refine .bind (.app cq (.some (by constructor<;>grind [aq])));all_goals grind
 unfold qI;dsimp only;rw[eF,A7];refine .some ?_;obtain⟨a1,a2,a3⟩:=hj;have hup:∀(k:Nat) (x:Ab),o.Past[k]?=some x->∃n:Nat,bu x g.IDs=some n/\acc[k]?=some (n:Int):=by grind
 clear a2;refine .bind (T.forI acc.length (λk=>(∀(j:Nat) (x y:Nat),j<k->acc[j]?=some (x:Int)->(y:Int)∈acc->Pm g x y=false)/\∀(j:Nat) (x:Nat) (p:Bj),j<k->acc[j]?=some (x:Int)->g.L[x]?=some p->p.At<=o.At) aa (by grind) (λk hk hj=>?_) λhj=>?_)
 .obtain⟨x,hx⟩:∃x,acc[k]?=some x:=⟨_,EH hk⟩;have s:=a3 x (bO hx);obtain⟨n,rfl⟩:∃n:Nat,x=(n:Int):=⟨x.toNat,aa⟩;have hnl:n<g.L.length:=aa;obtain⟨r,hr⟩:∃r,g.In[n]?=some r:=⟨_,EH (by rw[w.nN];exact hnl)⟩;obtain⟨p,hp,_⟩:=w.op hnl;unfold qH;rw[eA hk,ax];refine .bind (T.forI acc.length (λm=>∀(j:Nat) (y:Nat),j<m->acc[j]?=some (y:Int)->Pm g n y=false) aa (by grind) (λm hm hjm=>?_) λhjm=>?_)
  .obtain⟨y,hy⟩:∃y,acc[m]?=some y:=⟨_,EH hm⟩;have t:=a3 y (bO hy);obtain⟨q,rfl⟩:∃q:Nat,y=(q:Int):=⟨y.toNat,aa⟩;obtain⟨b,hb⟩:∃b,r[q]?=some b:=by grind [Fq.rows]
   unfold qG;rw[eA hm,ax,au,hx,aL,au,hr,aL,au,hy,aL,au,hb,aL];refine .ite (λ_=> .some (.some (.some (by grind)))) λhbf=> .some ⟨aq aa,λj z u hz=>?_⟩;rcases It j m with hlt|hge
   .exact hjm j z hlt hz
   .obtain rfl:j=m:=aa;rw[hy] at hz;obtain rfl:q=z:=by grind
    grind [wO]
  .unfold qG;rw[eF,A7];refine .some ?_;show T (ma _ _ _) _;dsimp only[ma];rw[au,hx,aL,au,hp,aL];refine .dec (λ_=> .some (.some (by grind))) λhat=> .some ⟨aq aa,λj a y d hx' hy=>?_,λj a A d hx' hp'=>?_⟩
   .rcases It j k with hlt|hge
    .exact hj.1 j a y hlt hx' hy
    .obtain rfl:j=k:=aa;rw[hx] at hx';obtain rfl:n=a:=by grind
     obtain⟨m,hm⟩:=G9 hy;grind
   .rcases It j k with hlt|hge
    .exact hj.2 j a A hlt hx' hp'
    .obtain rfl:j=k:=aa;rw[hx] at hx';obtain rfl:n=a:=by grind
     rw[hp] at hp';cases hp';omega
 unfold qH;rw[eF,A7];refine .some ?_;obtain⟨b1,b2⟩:=hj;obtain⟨r,hr,v,E⟩:=yc w (up:=acc) aa a3;obtain⟨b,hb,_⟩:=KC w (o:=o) v;show T (ma _ _ _) _;dsimp only[ma];rw[hr,aL,hb,aL];refine .ite (by grind [T.some]) λhbt=> .some λ_=>⟨hc,⟨i,ei,hk⟩,hroom,⟨c,hcd,hsg⟩,hcr,a1,hup,a3,λx y hx hy=>?_,λx p hx hp=>?_,⟨r,hr,?_⟩⟩
 .obtain⟨j,hj⟩:=G9 hx;grind
 .obtain⟨j,hj⟩:=G9 hx;grind
 grind
def pL(g:AQ)(o:Bj)(i:Ab)(up:Bh)(r:List Bool):AQ:=⟨g.Cards,g.L++[o],g.IDs++[i],g.Up++[up],g.In.map (·++[false])++[r++[false]]⟩
theorem je{l:List α}{x y:α}(h:(l++[x])[i]?=some y):(i<l.length/\l[i]?=some y)\/(i=l.length/\y=x):=by grind
theorem Ms{x y:α}(h:l[i]?=some y):(l++[x])[i]?=some y:=by grind
theorem F8{x:α}:(l++[x])[l.length]?=some x:=aC
theorem kU(w:Fq g){o:Bj}{id:Ab}{up:Bh}(hr:r.length=g.L.length)(i k:Nat):Pm (pL g o id up r) i k=true↔(i<g.L.length/\Pm g i k=true)\/(i=g.L.length/\r[k]?=some true):=by
 have nN:=w.nN;have e:(pL g o id up r).In=g.In.map (·++[false])++[r++[false]]:=rfl;have lm:(g.In.map (·++[false])).length=g.L.length:=by rw[Ho,nN]
 have snoc:∀(l:List Bool),((l++[false])[k]?).getD false=true↔l[k]?=some true:=by grind
 rcases Nat.lt_trichotomy i g.L.length with h|h|h
 .obtain⟨row,hrow⟩:∃row,g.In[i]?=some row:=⟨_,EH aa⟩;have h1:(pL g o id up r).In[i]?=some (row++[false]):=by grind
  rw[wO h1,snoc,wO hrow];constructor
  .grind
  .rintro(⟨_,h2⟩|⟨h2,_⟩);all_goals grind
 .grind [wO]
 .have h1:(pL g o id up r).In[i]?=none:=by grind
  grind [Pm]
theorem Wc(w:Fq g){o:Bj}(ho:Be o)(hs:fS o.Sig.S)(a:R6 g o up)(hid:pV o=some id)(hr:r.length=g.L.length)(hb:∀k,k<g.L.length->(r[k]?=some true↔HR g up k)):Fq (pL g o id up r):=by
 have nL:=w.nL;have nI:=w.nI;have nU:=w.nU;have nN:=w.nN;have inr:∀k,r[k]?=some true↔HR g up k:=λk=>by
  rcases It k g.L.length with h|h
  .exact hb k h
  .constructor
   .grind
   .rintro(h2|⟨j,h2,h3⟩)
    .have:=(a.upb _ h2).2;omega
    .have:=w.inlt j k h3;omega
 have upAt:∀(j:Nat) (v:Bh),j<g.L.length->((pL g o id up r).Up[j]?=some v↔g.Up[j]?=some v):=λj v hj=>by show(g.Up++[up])[j]?=some v↔_;rw[List.getElem?_append_left aa]
 obtain⟨c,e1,e2⟩:=a.id;rw[hid] at e1;cases e1;exact{
  nL:=by show(g.L++[o]).length<=200;have:=a.room;simp;omega
  nI:=by show(g.IDs++[id]).length=(g.L++[o]).length;simp;omega
  nU:=by show(g.Up++[up]).length=(g.L++[o]).length;simp;omega
  nN:=by show(g.In.map _++[_]).length=(g.L++[o]).length;simp;omega
  nC:=w.nC
  cards:=w.cards
  up:=λi u hu=>by
   rcases je hu with⟨_,h⟩|⟨h,rfl⟩
   .exact w.up i u h
   grind [R6,pK,Gd.long]
  rows:=λi row hrow=>by
   show row.length=(g.L++[o]).length;rcases je hrow with⟨_,h⟩|⟨h,rfl⟩
   all_goals grind [Fq.rows]
  inlt:=λi k h=>by
   show k<i/\i<(g.L++[o]).length;rcases(kU w hr i k).1 h with⟨h1,h2⟩|⟨h1,h2⟩
   .have:=w.inlt i k h2;simp;omega
   grind
  ops:=λi p hp=>by
   rcases je hp with⟨_,h⟩|⟨h,rfl⟩
   all_goals grind [Fq.ops,R6.check]
  ids:=λi p q hp hq=>by
   rcases je hp with⟨h0,h⟩|⟨h,rfl⟩
   .rcases je hq with⟨_,h'⟩|⟨h',_⟩
    all_goals grind [Fq.ids]
   .rcases je hq with⟨h',_⟩|⟨_,rfl⟩
    .omega
    .exact hid
  nd:=by show(g.IDs++[id]).Nodup;grind [Fq.nd,jv]
  one:=λi k u hu hk=>by
   rw[kU w hr];rcases je hu with⟨h0,h⟩|⟨h,rfl⟩
   .grind [Fq.one]
   .exact .inr ⟨aa,(inr k).2 (.inl hk)⟩
  tr:=λi j k v hij hv hk=>by
   rw[kU w hr];rcases(kU w hr i j).1 hij with⟨h1,h2⟩|⟨h1,h2⟩
   .have:=w.inlt i j h2;grind [Fq.tr]
   .have hj:=(cr h2).1;have b:=(upAt j v aa).1 hv;refine .inr ⟨h1,(inr k).2 ?_⟩;rcases(inr j).1 h2 with h3|⟨m,h3,h4⟩
    .exact .inr ⟨j,h3,w.one j k v b hk⟩
    .exact .inr (by grind [Fq.tr])
  la:=λi k hik=>by
   rcases(kU w hr i k).1 hik with⟨h1,h2⟩|⟨h1,h2⟩
   .grind [Fq.la,kU]
   .refine⟨up,by show(g.Up++[up])[i]?=some up;rw[h1,<-nU];exact F8,?_⟩;rcases(inr k).1 h2 with h3|⟨j,h3,h4⟩
    .exact .inl h3
    .obtain⟨v,hv,h5⟩:=w.la j k h4;have hj:=w.inlt j k h4;rcases h5 with h5|⟨m,v',h6,h7,h8⟩
     .exact .inr ⟨j,v,(kU w hr i j).2 (.inr ⟨h1,(inr j).2 (.inl h3)⟩),(upAt j v hj.2).2 hv,h5⟩
     .have hm:=w.inlt j m h6;exact .inr ⟨m,v',(kU w hr i m).2 (.inr ⟨h1,(inr m).2 (.inr ⟨j,h3,h6⟩)⟩),(upAt m v' aa).2 h7,h8⟩}
def Yr(g:AQ)(o:Bj)(r:AQ×Int):Prop:=(r.2≠0/\r.1=g)\/∃id up row,r.2=0/\R6 g o up/\pV o=some id/\jA g up=some row/\r.1=pL g o id up row
theorem QG(w:Fq g){o:Bj}(ho:Be o)(hs:fS o.Sig.S):T (AO g o) λr=>Fq r.1/\Yr g o r:=by
 have nL:=w.nL;have nI:=w.nI;have nU:=w.nU;have nN:=w.nN;unfold AO;refine .bind ((KD w ho hs).mono λv hv=> .dec (λh=> .some ⟨w,.inl ⟨h,rfl⟩⟩) λh=>?_);have a:=hv (by simpa using h);have ul:v.2.length<=12:=by rw[a.upl];exact pK a.check.long
 obtain⟨row,hrow,b,c⟩:=yc w (up:=v.2) aa a.upb;obtain⟨id,hid,_⟩:=a.id;rw[hrow,aL];refine .bind (.app cq (.bind (.app cq (.bind (.app cq ?_)))));rw[hid,aL];refine .bind (.app cq (.bind (.app cq (.bind (.app cq ?_)))));refine .then (T.forE g.In [] (λx=>[x++[false]]) 1 aa (λx _=>aC) (λk acc x hx hm hk hl=>?_) λacc=>?_) ?_
 .have:=w.rows k x hx;unfold xr;dsimp only;rw[eA hk,ax,au,hx,aL];refine .bind (.app cq (.bind (.bind (.app cq (.bind (.app (by simp at hl⊢;omega) (.some (.some ⟨aq aa,?_⟩))))))));simp
 .grind [xr,eF]
 .have el:([]:List (List Bool))++g.In.flatMap (λx=>[x++[false]])=g.In.map (·++[false]):=by rw[Ni];induction g.In<;>grind
  rw[el];refine .bind (.bind (.app cq (.bind (.app cq (.some (.some ?_))))));have e:(⟨g.Cards,[]++g.L++[o],[]++g.IDs++[id],[]++g.Up++[v.2],g.In.map (·++[false])++[row++[false]]⟩:AQ)=pL g o id v.2 row:=rfl;exact⟨e▸Wc w ho hs a hid b c,.inr (by grind)⟩
theorem oL{f:α->Fp}(hn:l.length<=1000000)(h:∀x∈l,f x=some false):AB (λs1:Int=>(bif s1<ah l then((aS l s1).bind λa=>(f a).bind λb=>bif b then(some (.inr (.inr s1)))else(some (.inl (wI (s1+1)))))else(some (.inr (.inl ()))):Option (Int⊕(Unit⊕Int)))) 0=some (.inl ()):=by
 refine T.eq (T.forI (Q:=λv:Unit⊕Int=>v= .inl ()) l.length (λ_=>True) aa trivial (λk hk _=>?_) λ_=>?_)
 .rw[eA hk,ax,au,EH hk,aL,h _ (List.getElem_mem hk),aL,A7];exact .some ⟨aq aa,trivial⟩
 .rw[eF,A7];exact .some rfl
theorem SO{may:α->Fp}(hn:l.length<=1000000)(h:∀x∈l,may x=some true):On l may=some true:=by unfold On Abd Wy;rw[show AB (KI l (λz=>SG z may)) 0=some (.inl ()) from oL hn (by grind [SG])];rfl
structure JO (o:Bj):Prop where
 dev:o.Device≠0->o.Kind=2\/o.Kind=3\/o.Kind=11\/o.Kind=13
 old:o.Old≠0->o.Kind=13
 mem:o.Member≠0->o.Kind=3\/o.Kind=5
 role:o.Role≠0->o.Kind=2\/o.Kind=5
 path:0<ah o.Path->GI o.Kind=some true
 ep:o.Epoch≠⟨0,0,0⟩->o.Kind=6
 n:o.N≠0->o.Kind=6
 refs:0<ah o.Refs->o.Kind=6
 body:0<ah o.Body->o.Kind=6\/o.Kind=7
 of_:o.Of≠⟨0,0,0⟩->o.Kind=7\/o.Kind=8\/o.Kind=12\/o.Kind=10\/o.Kind=11\/o.Kind=13
 gu:0<ah o.Guards->o.Kind=9
 wait:o.Wait≠0->o.Kind=9
 pub:o.Pub≠0->o.Kind=9
 need:o.Need≠0->o.Kind=9\/o.Kind=1
 box:0<ah o.Boxes->o.Kind=9\/o.Kind=10\/o.Kind=11
 hist:ah o.Hist≠0->o.Kind=2\/o.Kind=13
theorem ZD{o:Bj}(h:Ac9 o=true):JO o:=by
 have h:mz o=some true:=by rw[Cu,h]
 unfold mz at h;obtain⟨s,e1,h⟩:=bS h;obtain⟨t,e3,h⟩:=bS h;rcases bC h with⟨b3,h⟩|⟨b3,h⟩;· cases h
 obtain⟨u,e6,h⟩:=bS h;rcases bC h with⟨f,h⟩|⟨f,h⟩;· cases h
 obtain⟨w,e,h⟩:=bS h;rcases bC h with⟨g,h⟩|⟨g,h⟩;· cases h
 obtain⟨j12,i,h⟩:=bS h;rcases bC h with⟨a,h⟩|⟨a,h⟩;· cases h
 obtain⟨j,k,h⟩:=bS h;rcases bC h with⟨b,h⟩|⟨b,h⟩;· cases h
 obtain⟨l,m,h⟩:=bS h;rcases bC h with⟨c,h⟩|⟨c,h⟩;· cases h
 obtain⟨n,p,h⟩:=bS h;rcases bC h with⟨d,h⟩|⟨d,h⟩;· cases h
 obtain⟨q,r,h⟩:=bS h;obtain rfl:=Bo h;subst b3 f g a b c d;refine⟨λhd=>?_,λhd=>?_,λhd=>?_,λhd=>?_,λhd=>?_,λhd=>?_,λhd=>?_,λhd=>?_,λhd=>?_,λhd=>?_,λhd=>?_,λhd=>?_,λhd=>?_,λhd=>?_,λhd=>?_,λhd=>?_⟩
 .grind
 .grind
 .refine Classical.byContradiction λhc=>?_;try simp only[not_or] at hc
  simp[hd,hc] at e6
 .refine Classical.byContradiction λhc=>?_;try simp only[not_or] at hc
  simp[hd,hc] at e6
 .rw[CO hd,ax] at e;obtain⟨v,ev,e⟩:=bS e;grind
 .grind
 .grind
 .grind
 .grind
 .grind
 .grind
 .grind
 .grind
 .grind
 all_goals grind
theorem MU{kk:Nat}:∀{l:List (Nat×Bool)},(∀q∈l,q.2=true->q.1&&&kk=q.1)->La l&&&kk=La l
 |[],_=>by simp[La]
 |q::r,h=>by unfold La;rw[Nat.and_or_distrib_right,MU (l:=r) (by grind)];grind
theorem IY(ha:a<1048576)(hb:b<1048576)(h:a&&&b=a):wH (a:Int) (b:Int)=0:=by
 unfold wH;have e:BitVec.ofInt IntKind.i64.bits (a:Int)&&&BitVec.ofInt IntKind.i64.bits (b:Int)=BitVec.ofInt IntKind.i64.bits (a:Int):=by grind
 have e2:BitVec.ofInt IntKind.i64.bits (a:Int)&&& ~~~BitVec.ofInt IntKind.i64.bits (b:Int)=0:=by grind
 rw[e2];rfl
theorem Hg{n a b:Int}(h:a<=n/\n<=b):xj n a b=true:=by grind [xj]
theorem kW{i:Ab}(h:l7 i=true):Rz i=true:=by have h:=DD h;unfold Rz WV;grind [Hg]
theorem GC(h:Cr n=true):Z5 n=true:=by have h:=DD h;grind [Z5]
theorem Vl{a:Bool}{x:Fp}:((bif a then x else some false)=some true)↔(a=true/\x=some true):=by cases a<;>simp
structure Ow (o:Bj):Prop where
 by_:1<=o.By/\o.By<=12
 seq:1<=o.Seq/\o.Seq<=2147483647
 at_:0<=o.At/\o.At<=2147483647
 k1:o.Kind=1->0<=o.Need/\o.Need<=20
 k2:o.Kind=2->(1<=o.Device/\o.Device<=12)/\1<=o.Role/\o.Role<=3
 k3:o.Kind=3->((1<=o.Device/\o.Device<=12)/\o.Member=0)\/(o.Device=0/\1<=o.Member/\o.Member<=8)
 k5:o.Kind=5->(1<=o.Member/\o.Member<=8)/\1<=o.Role/\o.Role<=3
 k6:o.Kind=6->l7 o.Epoch=true/\0<=o.N/\o.N<=2147483647
 k9:o.Kind=9->(1<=o.Need/\o.Need<=ah o.Guards)/\(0<=o.Wait/\o.Wait<=2147483647)/\Cr o.Pub=true
 k11:o.Kind=11->l7 o.Of=true/\1<=o.Device/\o.Device<=12
 k13:o.Kind=13->l7 o.Of=true/\(1<=o.Device/\o.Device<=12)/\1<=o.Old/\o.Old<=12
 kr:o.Kind=7\/o.Kind=8\/o.Kind=10\/o.Kind=12->l7 o.Of=true
theorem T1{o:Bj}(h:gU o=true):Ow o:=by
 have h:Ge o=some true:=by rw[jF,h]
 unfold Ge at h;obtain⟨a,e3,h⟩:=bS h;rcases bC h with⟨b3,h⟩|⟨b3,h⟩;· cases h
 subst b3;rw[gT,gT,gT,aL,aL,aL] at e3;simp only[gT,mY,show Je o.Pub=some (Cr o.Pub) from kS o.Pub,aL] at h;have e1:1<=o.By/\o.By<=12:=by grind
 have e2:1<=o.Seq/\o.Seq<=2147483647:=by grind
 have e4:0<=o.At/\o.At<=2147483647:=by grind
 refine⟨e1,e2,e4,λhk=>?_,λhk=>?_,λhk=>?_,λhk=>?_,λhk=>?_,λhk=>?_,λhk=>?_,λhk=>?_,λhk=>?_⟩
 .simpa[hk,Vl] using h
 .simpa[hk,Vl] using h
 .grind
 .simpa[hk,Vl] using h
 .simpa[hk,Vl] using h
 .simpa[hk,Vl] using h
 .simpa[hk,Vl] using h
 .simpa[hk,Vl] using h
 .rcases hk with hk|hk|hk|hk<;>simpa[hk,Vl] using h
def pT(K:Int):Nat:=(nG.getD K.toNat 0).toNat
theorem vj:pT 1=2064:=B5
theorem kk2:pT 2=32793:=B5
theorem zS:pT 3=21:=B5
theorem yu:pT 4=16:=B5
theorem zT:pT 5=12:=B5
theorem zU:pT 6=480:=B5
theorem zt:pT 7=640:=B5
theorem zu:pT 8=512:=B5
theorem Aw:pT 9=31744:=B5
theorem ki:pT 10=8704:=B5
theorem kC:pT 11=8705:=B5
theorem km:pT 12=512:=B5
theorem kX:pT 13=33299:=B5
theorem ic(h:1<=K/\K<=13):K=1\/K=2\/K=3\/K=4\/K=5\/K=6\/K=7\/K=8\/K=9\/K=10\/K=11\/K=12\/K=13:=aa
theorem RK(h:GI K=some true):K=1\/K=2\/K=3\/K=4\/K=13:=by grind [GI]
theorem W9{o:Bj}(b:JO o):∀q∈rU o,q.2=true->q.1&&&pT o.Kind=q.1:=by
 intro q hq hb;simp only[rU,EZ,Lx,or_false] at hq;rcases hq with rfl|rfl|rfl|rfl|rfl|rfl|rfl|rfl|rfl|rfl|rfl|rfl|rfl|rfl|rfl|rfl
 .grind [JO.dev,kk2,zS,kC,kX]
 .grind [JO.old,kX]
 .grind [JO.mem,zS,zT]
 .grind [JO.role,kk2,zT]
 .grind [RK,JO.path,vj,kk2,zS,yu,kX]
 .grind [JO.ep,zU]
 .grind [JO.n,zU]
 .grind [JO.body,zU,zt]
 .grind [JO.refs,zU]
 .grind [JO.of_,zt,zu,ki,kC,km,kX]
 .grind [JO.gu,Aw]
 .grind [JO.need,vj,Aw]
 .grind [JO.wait,Aw]
 .grind [JO.box,Aw,ki,kC]
 all_goals grind [JO.pub,kk2,Aw,kX,JO.hist]
theorem ZE{o:Bj}(f:Ow o)(a:1<=o.Kind/\o.Kind<=13):∀q∈OC o,pT o.Kind&&&q.1≠0->q.2=true:=by
 intro q hq hne;simp only[OC,EZ,Lx,or_false] at hq;rcases hq with rfl|rfl|rfl|rfl|rfl|rfl|rfl|rfl|rfl|rfl
 .rcases ic a with hk|hk|hk|hk|hk|hk|hk|hk|hk|hk|hk|hk|hk
  .simp[hk,vj] at hne
  .grind [GH,Hg,Ow.k2]
  .grind [Ow,GH,Hg]
  .simp[hk,yu] at hne
  .simp[hk,zT] at hne
  .simp[hk,zU] at hne
  .simp[hk,zt] at hne
  .simp[hk,zu] at hne
  .simp[hk,Aw] at hne
  .simp[hk,ki] at hne
  all_goals grind [Ow,GH,Hg,km]
 .rcases ic a with hk|hk|hk|hk|hk|hk|hk|hk|hk|hk|hk|hk|hk
  .simp[hk,vj] at hne
  .simp[hk,kk2] at hne
  .simp[hk,zS] at hne
  .simp[hk,yu] at hne
  .simp[hk,zT] at hne
  .simp[hk,zU] at hne
  .simp[hk,zt] at hne
  .simp[hk,zu] at hne
  .simp[hk,Aw] at hne
  .simp[hk,ki] at hne
  all_goals grind [Ow,kC,km,Hg]
 .rcases ic a with hk|hk|hk|hk|hk|hk|hk|hk|hk|hk|hk|hk|hk
  .simp[hk,vj] at hne
  .simp[hk,kk2] at hne
  .grind [Ow,GB,Hg]
  .simp[hk,yu] at hne
  .grind [GB,Hg,Ow.k5]
  .simp[hk,zU] at hne
  .simp[hk,zt] at hne
  all_goals grind [zu,Aw,ki,kC,km,kX]
 .rcases ic a with hk|hk|hk|hk|hk|hk|hk|hk|hk|hk|hk|hk|hk
  .simp[hk,vj] at hne
  .exact Hg (f.k2 hk).2
  .simp[hk,zS] at hne
  .simp[hk,yu] at hne
  .exact Hg (f.k5 hk).2
  .simp[hk,zU] at hne
  .simp[hk,zt] at hne
  all_goals grind [zu,Aw,ki,kC,km,kX]
 .rcases ic a with hk|hk|hk|hk|hk|hk|hk|hk|hk|hk|hk|hk|hk
  .simp[hk,vj] at hne
  .simp[hk,kk2] at hne
  .simp[hk,zS] at hne
  .simp[hk,yu] at hne
  .simp[hk,zT] at hne
  .exact Hg (f.k6 hk).2
  .simp[hk,zt] at hne
  all_goals grind [zu,Aw,ki,kC,km,kX]
 .rcases ic a with hk|hk|hk|hk|hk|hk|hk|hk|hk|hk|hk|hk|hk
  .simp[hk,vj] at hne
  .simp[hk,kk2] at hne
  .simp[hk,zS] at hne
  .simp[hk,yu] at hne
  .simp[hk,zT] at hne
  .simp[hk,zU] at hne
  .simp[hk,zt] at hne
  .simp[hk,zu] at hne
  .exact Hg (f.k9 hk).2.1
  all_goals grind [ki,kC,km,kX]
 .rcases ic a with hk|hk|hk|hk|hk|hk|hk|hk|hk|hk|hk|hk|hk
  .grind [Ow,Sk,Sl,Hg]
  .simp[hk,kk2] at hne
  .simp[hk,zS] at hne
  .simp[hk,yu] at hne
  .simp[hk,zT] at hne
  .simp[hk,zU] at hne
  .simp[hk,zt] at hne
  .simp[hk,zu] at hne
  .grind [Sk,Sl,Hg,Ow.k9]
  all_goals grind [ki,kC,km,kX]
 .grind [Ow,vj,kk2,zS,yu,zT,kW,zt,zu,Aw,ki,kC,km,kX]
 .grind [vj,kk2,zS,yu,zT,zU,kW,Ow.kr,Aw,Ow.k11,Ow.k13]
 grind [Ow,vj,kk2,zS,yu,zT,zU,zt,zu,GC,ki,kC,km,kX]
theorem IZ{b:Hf}(h:yZ b=true):wB b=some true:=by unfold yZ at h;simp only[bA] at h;obtain⟨⟨⟨h1,h2⟩,h3⟩,h4⟩:=h;have e3:WV b.Body=true:=CO (by have:=DD h3;omega);have e4:WV b.Tag=true:=CO (by have:=DD h4;omega);grind [wB,rV,GA,GC]
theorem T2{o:Bj}(sm:Be o)(h:Ct o=false):FX o=some false:=by
 have n2:=sm.nPath;have a:=sm.nHist;unfold Ct at h;simp only[Bool.or_eq_false_iff] at h;obtain⟨h1,h2,h3,h4⟩:=h;have h3:=Lw h3;have a1:On o.Path (λz=>wE z)=some true:=by grind [SO,wE,ah]
 have a2:On o.Hist (λz=>wF z)=some true:=by grind [SO,wF,ah]
 grind [Be,ah,FX,ib,Hg]
theorem Ax(x y:Int):f8 x y=some (if x<y then-1 else if y<x then 1 else 0):=by grind [f8,FI]
theorem MV(x y:Nat):fQ x y=some (if x<y then-1 else if y<x then 1 else 0):=by grind [fQ,g9]
theorem CZ{l:Bh}{k:Nat}(hl:l.length<=3)(hk:l[k]?=some (-1))(h:∀j,j<k->l[j]?=some 0):iy l=some (-1):=by
 unfold iy;refine T.eq (.bind ((T.search l (λy=>decide (y≠0)) (λ_ y=>y) aa (λk x hx hk=>?_) ?_).mono ?_))
 .grind [fm,eA,au,aq]
 .unfold fm;rw[eF,A7]
 .rintro r (⟨rfl,h0⟩|⟨k',x,hx,hp,rfl,h0⟩)
  .have:=h0 (-1) (bO hk);simp at this
  .refine .some ?_;grind
theorem MW{a b:Ab}(h:dt a b=true):pE a b=some true:=by
 unfold pE;rw[Ax,Ax,MV];simp only[aL];unfold dt at h;by_cases h1:a.By=b.By
 .rw[BW (by simp[h1])] at h;by_cases h2:a.Seq=b.Seq
  .rw[BW (by simp[h2])] at h;have h3:=DD h;rw[CZ (k:=2) aC (by simp[h3]) (by grind)];rfl
  .rw[Bz h2] at h;have h3:=DD h;rw[CZ (k:=1) aC (by simp[h3]) (by grind)];rfl
 .rw[Bz h1] at h;have h3:=DD h;rw[CZ (k:=0) aC (by simp[h3]) (by grind)];rfl
theorem RL{o:Bj}(h:Gd o)(sm:Be o):Abm o (pT o.Kind):=by
 have n1:=sm.nPast;have n2:=sm.nPath;have c:=sm.nRefs;have d:=sm.nGuards;have e:=sm.nHist;have g:=sm.nBoxes;have a:=h.kind;have kb:pT o.Kind<1048576:=by rcases ic a with hk|hk|hk|hk|hk|hk|hk|hk|hk|hk|hk|hk|hk<;>simp[hk,vj,kk2,zS,yu,zT,zU,zt,zu,Aw,ki,kC,km,kX]
 have b:=ZD h.bare;have f:=T1 h.numbers;have it:=h.items;unfold yb at it;simp only[bA,Gu] at it;obtain⟨i,t2,j,k,l,m⟩:=it;have hor:=MU (W9 b);exact{
  lo:=C5 aa
  hi:=C5 aa
  kind:=by rcases ic a with hk|hk|hk|hk|hk|hk|hk|hk|hk|hk|hk|hk|hk<;>(rw[hk];decide)
  kb:=kb
  bits:=by grind [IY,Nat.and_le_right]
  rg:={
   by_:=Hg f.by_
   seq:=Hg f.seq
   at_:=Hg f.at_
   ents:=ZE f a
   guards:=by grind [SO,uR,ib,Hg]
   refs:=SO aa λx hx=>by rw[GA];exact congrArg some (CO (by have:=DD (t2 x hx);omega))
   past:=by grind [SO,pS,kW]
   path:=by grind [SO,I9.n,Be.path,uP,rV,GC,SO,IZ]
   boxes:=by grind [SO,IZ]
   hist:=by grind [SO,uQ,pS,kW]}
  long:=T2 sm h.long
  nPast:=aa
  nGuards:=aa
  past:=by grind [MW,Gd.past]
  guards:=h.guards
  create:=decide_eq_decide.2 (by have:=h.create;unfold ah;simp_all)}
theorem kY(h:l.length*b<=140737488355328):aT b [] l=some l:=by grind [aT]
theorem I0{x:α}(h:l[k]?=some x):ji l (k:Int) x=some l:=by have hk:=(cr h).1;unfold ji;rw[Bz ⟨aa,aa⟩,EO];congr 1;apply List.ext_getElem?;grind
theorem RM{o:Bj}(sm:Be o):pG o=some o:=by
 have n1:=sm.nPast;have n2:=sm.nPath;have b:=sm.nRefs;have c:=sm.nGuards;have d:=sm.nHist;have e:=sm.nBoxes;have f:=sm.nBody;unfold pG cU Fk dK fF dx gt fu;rw[kY aa,kY aa,kY aa,kY aa,kY aa,kY aa,kY aa];simp only[aL];have l0:AB (jD o.Path) (o.Path,0)=some o.Path:=by
  refine T.eq (T.forA o.Path.length (λ_ a=>a=o.Path) aa rfl (λk a hk ha=>?_) λa ha=>?_)
  .subst ha;unfold jD;dsimp only;have hx:=EH hk;have hb:=(sm.path _ (List.getElem_mem hk)).n;rw[eA hk,ax,au,hx,aL];unfold dx;rw[kY aa,aL,aL,I0 hx];exact .some ⟨aq aa,rfl⟩
  .subst ha;unfold jD;dsimp only;rw[eF,A7];exact .some rfl
 have l1:AB (jC o.Hist) (o.Hist,0)=some o.Hist:=by
  refine T.eq (T.forA o.Hist.length (λ_ a=>a=o.Hist) aa rfl (λk a hk ha=>?_) λa ha=>?_)
  .subst ha;unfold jC;dsimp only;have hx:=EH hk;have hb:=(sm.hist _ (List.getElem_mem hk)).n;rw[eA hk,ax,au,hx,aL];unfold Fk;rw[kY aa,aL,aL,I0 hx];exact .some ⟨aq aa,rfl⟩
  .subst ha;unfold jC;dsimp only;rw[eF,A7];exact .some rfl
 rw[l0,l1];rfl
def gW(s:OS)(j:Nat):Bool:=match j/64 with
 |0=>s.a0.testBit (j%64)
 |1=>s.a1.testBit (j%64)
 |2=>s.a2.testBit (j%64)
 |3=>s.a3.testBit (j%64)
 |_=>false
theorem xg(h:i<64):(gM a b).testBit i=(a.testBit i||b.testBit i):=by unfold gM;rw[Nat.testBit_or,show(18446744073709551616:Nat)=2^64 from rfl,Nat.testBit_mod_two_pow,Nat.testBit_mod_two_pow];simp[h]
theorem RN(h:i<64):(bD a b).testBit i=(a.testBit i&&b.testBit i):=by unfold bD;rw[Nat.testBit_and,show(18446744073709551616:Nat)=2^64 from rfl,Nat.testBit_mod_two_pow,Nat.testBit_mod_two_pow];simp[h]
theorem Ay(hk:k<64)(h:i<64):(IK 1 k).testBit i=decide (k=i):=by unfold IK;rw[Nat.min_eq_left aa,Nat.one_mul,show(18446744073709551616:Nat)=2^64 from rfl,Nat.testBit_mod_two_pow,Nat.testBit_two_pow];simp[h]
theorem RP(s t:OS)(j:Nat):gW (RU s t) j=(gW s j||gW t j):=by have h:=Nat.mod_lt j (show 64>0 by decide);unfold gW RU;split<;>first|exact xg h|rfl
theorem T3{s:OS}(hn:n<256)(hj:j<256):gW (yt s n) j=(gW s j||decide (j=n)):=by
 have h:=Nat.mod_lt j (show 64>0 by decide);have h':=Nat.mod_lt n (show 64>0 by decide);have e:∀q:Nat,n/64=q->j/64=q->decide (n%64=j%64)=decide (j=n):=by grind
 have e':n/64≠j/64->decide (j=n)=false:=by grind
 have h4:n/64=0\/n/64=1\/n/64=2\/n/64=3:=aa;have h5:j/64=0\/j/64=1\/j/64=2\/j/64=3:=aa;unfold gW yt;rcases h4 with e1|e1|e1|e1
 .rcases h5 with e2|e2|e2|e2
  .grind [xg,Ay]
  .grind
  all_goals grind
 .rcases h5 with e2|e2|e2|e2
  .grind
  .grind [xg,Ay]
  all_goals grind
 .rcases h5 with e2|e2|e2|e2
  .grind
  .grind
  .grind [xg,Ay]
  grind
 .rcases h5 with e2|e2|e2|e2
  .grind
  .grind
  .grind
  grind [xg,Ay]
theorem OK(ha:a<18446744073709551616)(h:∀i,i<64->a.testBit i=false):a=0:=by
 apply Nat.eq_of_testBit_eq;intro i;rw[Nat.zero_testBit];rcases It i 64 with hi|hi
 .exact h i hi
 .exact Nat.testBit_lt_two_pow (Nat.lt_of_lt_of_le ha (JF (by grind) (Nat.pow_le_pow_right B5 hi)))
theorem T4(a b:Nat):bD a b<18446744073709551616:=by grind [bD,Nat.and_le_left]
theorem RQ{b:OS}(h:∀j,j<256->¬(gW p j=true/\gW b j=true)):ZA p b 4=z4:=by
 have w:∀(q:Nat) (x y:Nat),q<4->(∀i,i<64->gW p (64*q+i)=x.testBit i/\gW b (64*q+i)=y.testBit i)->bD x y=0:=by grind [OK,T4,RN]
 have d:∀(q i:Nat),i<64->(64*q+i)/64=q/\(64*q+i)%64=i:=λq i hi=>aa;show(⟨bD p.a0 b.a0,bD p.a1 b.a1,bD p.a2 b.a2,bD p.a3 b.a3⟩:OS)=⟨0,0,0,0⟩;rw[w 0 p.a0 b.a0 B5 λi hi=>by unfold gW;rw[(d 0 i hi).1,(d 0 i hi).2];exact⟨rfl,rfl⟩];rw[w 1 p.a1 b.a1 B5 λi hi=>by unfold gW;rw[(d 1 i hi).1,(d 1 i hi).2];exact⟨rfl,rfl⟩];rw[w 2 p.a2 b.a2 B5 λi hi=>by unfold gW;rw[(d 2 i hi).1,(d 2 i hi).2];exact⟨rfl,rfl⟩];rw[w 3 p.a3 b.a3 B5 λi hi=>by unfold gW;rw[(d 3 i hi).1,(d 3 i hi).2];exact⟨rfl,rfl⟩]
theorem Xa{s:OS}(hn:n<256):iX s (n:Int)=some (gW s n):=by
 have hd:wI (Int.tdiv (n:Int) 64)=((n/64:Nat):Int):=by grind [bM]
 have ht:Int.tmod (n:Int) 64=((n%64:Nat):Int):=by rw[Int.tmod_eq_emod_of_nonneg aa];rfl
 have hcn:wJ ((n%64:Nat):Int)=some (n%64):=by grind [wJ]
 have h:=Nat.mod_lt n (show 64>0 by decide);have key:∀y:Nat,decide (((bD (Jt y (n%64)) 1:Nat):Int)=((1:Nat):Int))=y.testBit (n%64):=by grind [bD,Jt]
 unfold iX;rw[hd,ht,hcn,au];have h4:n/64=0\/n/64=1\/n/64=2\/n/64=3:=aa;unfold gW;grind
def lvN(N:Jk)(j:Int):Int:=((N[j.toNat]?).map (·.level)).getD 0
def lvF(N:Jk)(u:Bh):Int:=u.foldl (λa j=>E1 a (lvN N j+1)) 1
theorem Abn{j:Int}:lvF N (u++[j])=E1 (lvF N u) (lvN N j+1):=by unfold lvF;rw[O8];rfl
theorem Adi{y:C3}(h:∀x∈u,0<=x/\x<(N.length:Int)):lvF (N++[y]) u=lvF N u:=by
 have key:∀(l:Bh) (a:Int),(∀x∈l,0<=x/\x<(N.length:Int))->l.foldl (λa j=>E1 a (lvN (N++[y]) j+1)) a=l.foldl (λa j=>E1 a (lvN N j+1)) a:=by
  intro l;induction l with
  |nil=>exact λa _=>rfl
  |cons x r ih=>
   intro a hh;have e:lvN (N++[y]) x=lvN N x:=by have:=hh x aC;grind [lvN]
   grind
 exact key u 1 h
structure OI (g:AQ) (m:Jn) (N:Jk):Prop where
 len:N.length=g.L.length
 nd:∀(k:Nat) (y:C3),N[k]?=some y->g.L[k]?=some y.o/\g.IDs[k]?=some y.id/\(∀j,j<256->gW y.past j=Pm g k j)/\0<=y.level/\y.level<=(k:Int)+1
 get:∀x,m.get x=(bu x g.IDs).map (λn=>(n:Int))
 lv:∀(k:Nat) (y:C3) (u:Bh),N[k]?=some y->g.Up[k]?=some u->y.level=lvF N u
theorem MX{a b:Int}(h1:a<=c)(h2:b<=c):E1 a b<=c:=by unfold E1;split<;>omega
theorem T5{a b:Int}(h1:c<=a):c<=E1 a b:=by unfold E1;split<;>omega
theorem ZF{o:Bj}(w:Fq g)(pg:OI g m N)(a:R6 g o up)(sm:Be o):T (AB (Z6 m N o.Past) (z4,z4,0,1,0)) λr=>(∀j:Nat,j<256->(gW r.1 j=true↔(j:Int)∈up))/\(∀j:Nat,j<256->(gW r.2.1 j=true↔∃n:Nat,(n:Int)∈up/\Pm g n j=true))/\r.2.2.1<=o.At/\0<=r.2.2.2/\r.2.2.2<=(N.length:Int)+1/\r.2.2.2=lvF N up:=by
 have f:=T1 a.check.numbers;have n1:=sm.nPast;have nL:=w.nL;have nI:=w.nI;have pl:=pg.len;refine T.loop (λs=>∃k:Nat,s.2.2.2.2=(k:Int)/\k<=o.Past.length/\(∀j:Nat,j<256->(gW s.1 j=true↔∃i,i<k/\up[i]?=some (j:Int)))/\(∀j:Nat,j<256->(gW s.2.1 j=true↔∃i n:Nat,i<k/\up[i]?=some (n:Int)/\Pm g n j=true))/\s.2.2.1<=o.At/\0<=s.2.2.2.1/\s.2.2.2.1<=(N.length:Int)+1/\s.2.2.2.1=lvF N (up.take k)) (λs=>o.Past.length-s.2.2.2.2.toNat) ⟨0,rfl,aa,λj hj=>?_,λj hj=>?_,f.at_.1,B5,by show(1:Int)<=_;omega,rfl⟩ (by show o.Past.length-_<_;omega) ?_
 .grind [gW]
 .grind [gW]
 rintro⟨p,b,z,lev,i⟩ ⟨k,rfl,hk,q1,h,c,d,e,t⟩;dsimp only at q1 h c d e t;unfold Z6;dsimp only;refine .dec (λhlt=>?_) λhge=>?_
 .unfold ah at hlt;have hk2:k<o.Past.length:=aa;have hx:=EH hk2;obtain⟨n,hn,hu⟩:=a.par k _ hx;have eg:m.get o.Past[k]=some (n:Int):=by rw[pg.get,hn];rfl
  have hnl:n<g.IDs.length:=(cr (gb hn).1).1;have hy:N[n]?=some (N[n]'aa):=EH _;obtain⟨l,u,q,v,x⟩:=pg.nd n _ hy;generalize N[n]'aa=y at hy l u q v x;have hmem:(n:Int)∈up:=bO hu;have hat:=a.late n _ hmem l;have ew:wI (y.level+1)=y.level+1:=bM aa aa;rw[au,hx,aL,eg];dsimp only[MZ];rw[au,hy,aL,ew,aq aa];refine .some ⟨⟨k+1,rfl,aa,λj hj=>?_,λj hj=>?_,MX c hat,T5 d,MX e aa,?_⟩,?_⟩
  .dsimp only;rw[EO,T3 aa hj,Bool.or_eq_true,q1 j hj,decide_eq_true_eq];grind
  .dsimp only;rw[RP,Bool.or_eq_true,h j hj,q j hj];grind
  all_goals grind [Hp,lvN,Abn]
 .unfold ah at hge;obtain rfl:k=o.Past.length:=aa;have ul:=a.upl;refine .some ⟨λj hj=>?_,λj hj=>?_,c,d,e,by grind⟩;all_goals grind [G9]
def RR(g:AQ)(o:Bj)(r:List Bool):Prop:=(∀(k:Nat) (p:Bj),g.L[k]?=some p->r[k]?=some true->p.By=o.By->p.Seq<o.Seq)/\(o.Seq=1\/∃(k:Nat) (p:Bj),g.L[k]?=some p/\r[k]?=some true/\p.By=o.By/\p.Seq=wI (o.Seq-1))
theorem Xb(w:Fq g){o:Bj}(hr:r.length=g.L.length):T (lA g o r) λv=>v=true->RR g o r:=by
 have nL:=w.nL;unfold lA;refine .bind (T.forA g.L.length (λk b=>(∀(j:Nat) (p:Bj),j<k->g.L[j]?=some p->r[j]?=some true->p.By=o.By->p.Seq<o.Seq)/\(b=true->∃(j:Nat) (p:Bj),g.L[j]?=some p/\r[j]?=some true/\p.By=o.By/\p.Seq=wI (o.Seq-1))) aa (by grind) (λk b hk a=>?_) λb a=>?_)
 .have hp:=EH hk;obtain⟨x,hx⟩:∃x,r[k]?=some x:=⟨_,EH aa⟩;generalize g.L[k]=p at hp;have more:∀(c:Prop),(c->p.Seq<o.Seq)->((r[k]?=some true/\p.By=o.By)->c)->∀(j:Nat) (q:Bj),j<k+1->g.L[j]?=some q->r[j]?=some true->q.By=o.By->q.Seq<o.Seq:=by grind
  unfold jK;dsimp only;rw[eA hk,ax,au,au,hx,hp];simp only[aL];cases x with
  |false=>exact .some (by constructor<;>grind [aq])
  |true=>
   simp only[Bool.not_true,A7,aL];by_cases hb:p.By=o.By
   .rw[C5 (by grind),A7];refine .dec (λhs=> .some (.some λh=>by cases h)) λhs=>?_;have hm:=more True (λ_=>aa) λ_=>trivial;cases b with
    |true=>exact .some ⟨aq aa,hm,a.2⟩
    |false=>exact .some (by constructor<;>grind [aq])
   .rw[CO hb,ax];exact .some (by constructor<;>grind [aq])
 .unfold jK;dsimp only;rw[eF,A7];refine .some ?_;show T (ma _ _ _) _;dsimp only[ma];have h1:∀(k:Nat) (p:Bj),g.L[k]?=some p->r[k]?=some true->p.By=o.By->p.Seq<o.Seq:=by grind
  by_cases hs:o.Seq=1
  .rw[CO hs];exact .some λ_=>⟨h1,.inl hs⟩
  .rw[C5 hs];exact .some λhb=>⟨h1,.inr (a.2 hb)⟩
theorem ZG{o:Bj}{A:OS}(w:Fq g)(pg:OI g m N)(f:Ow o)(hA:∀j:Nat,j<g.L.length->(gW A j=true↔r[j]?=some true))(hR:RR g o r):T (AB (Z7 N o A) (0,false,0)) λv=>v.1<o.Seq/\(1<o.Seq->v.2=true):=by
 have nL:=w.nL;have pl:=pg.len;have fs:=f.seq;refine T.loop (λs=>∃k:Nat,s.2.2=(k:Int)/\k<=N.length/\s.1<o.Seq/\∀(j:Nat) (p:Bj),j<k->g.L[j]?=some p->r[j]?=some true->p.By=o.By->p.Seq=wI (o.Seq-1)->s.2.1=true) (λs=>N.length-s.2.2.toNat) ⟨0,rfl,aa,by show(0:Int)<_;omega,λj p hj=>absurd hj (Nat.not_lt_zero _)⟩ (by show N.length-_<_;omega) ?_;rintro⟨la,b,i⟩ ⟨k,rfl,hk,q1,e⟩;dsimp only at q1 e;unfold Z7;dsimp only;refine .dec (λhlt=>?_) λhge=>?_
 .unfold ah at hlt;have hk2:k<N.length:=aa;have hy:=EH hk2;obtain⟨c,_⟩:=pg.nd k _ hy;generalize N[k]=y at hy c;rw[au,hy,aL,aq aa];have dn:N.length-(((k+1:Nat):Int)).toNat<N.length-((k:Int)).toNat:=aa;have more:∀a:Bool,(b=true->a=true)->(r[k]?=some true->y.o.By=o.By->y.o.Seq=wI (o.Seq-1)->a=true)->∀(j:Nat) (p:Bj),j<k+1->g.L[j]?=some p->r[j]?=some true->p.By=o.By->p.Seq=wI (o.Seq-1)->a=true:=λa h1 h2 j p hj hp h3 h4 h5=>by
   rcases It j k with hjk|hjk
   .exact h1 (e j p hjk hp h3 h4 h5)
   .obtain rfl:j=k:=aa;rw[c] at hp;cases hp;exact h2 h3 h4 h5
  refine .dec (λhb=>?_) λhb=> .some ⟨⟨k+1,rfl,aa,q1,more b id λ_ h=>absurd h hb⟩,dn⟩;rw[Xa aa,aL];refine .ite (λhh=>?_) λhh=> .some ⟨⟨k+1,rfl,aa,q1,more b id λh=>?_⟩,dn⟩
  .have d:=(hA k aa).1 hh;refine .some ⟨⟨k+1,rfl,aa,?_,more _ (λh=>by rw[h];rfl) λ_ _ h=>by rw[CO h];cases b<;>rfl⟩,dn⟩;have:=hR.1 k _ c d hb;grind [E1]
  .rw[(hA k aa).2 h] at hh;cases hh
 .unfold ah at hge;refine .some ⟨q1,λh1=>?_⟩;rcases hR.2 with h|⟨j,p,h2,h3,h4,h5⟩
  all_goals grind
end Go.Proofs.YtlijnaneopediaaGreatDoor
