/- Texts. -/
import Derived.Test.YtdpdicldkohflaaGreatDoorV3
namespace Go.Proofs.YtdpdicldkohflaaGreatDoor
set_option linter.unusedSectionVars false
set_option linter.unusedVariables false
set_option linter.unusedSimpArgs false
open Go.RowKit Tryz
variable (gl:CB)
variable {α:Type}{R:Ad}{a b i j k n:Nat}{id x:Ab}{l:List α}{P:Bu}{fn:Func}{t:Bk}{g:Ba}{m:I1}{p:ON}{r:List Bool}{K:Int}
section
attribute [local irreducible] Tr dz Gp
def Af3(R:Ad)(o:Bq):Int:=bif o.Guards.any λd=> !PL R d then 17 else 0
def Aee(R:Ad)(o:Bq):Int:=bif (Dq R o).2≠0 then(Dq R o).2 else bif DE R o.Device≠(Dq R o).1 then 16 else bif DY R o.Device then 0 else 17
def AjV(R:Ad)(o:Bq)(w:Int):Bool:=bif PL R o.Old then(bif DE R o.Old≠w then true else bif DY R o.Device then decide (DE R o.Device≠w)else true)else true
def Aef(R:Ad)(o:Bq):Int:=bif (Dq R o).2≠0 then(Dq R o).2 else bif AjV R o (Dq R o).1 then 17 else bif (ZH R (Dq R o).1 o.Device).2=0 then(bif o.At<(ZH R (Dq R o).1 o.Device).1 then 27 else 0)else(ZH R (Dq R o).1 o.Device).2
theorem AhO(R:Ad){o:Bq}(hg:o.Guards.length<=1000000)(m:Int):ba prog gl 440 [.ptr (CM R) 0,.agg (aJ o),iG m] (iG (Af3 R o)):=Y2 gl (by grind [WF,Abu,Oa,PL,Af3])
theorem AhP(hR:Bj R)(o:Bq)(m:Int):TG prog gl 443 [.ref 0 0,.agg (aJ o),iG m] (BW f0 R) 14 14 (iG (Aee R o)) (BW f0 R):=by
 refine dFP func443 ?_;have hg:=Ul gl hR o;unfold Aee;generalize Dq R o=we at hg⊢;obtain⟨w,e⟩:=we;dsimp only at hg⊢;have hre:bB (iG e):=mN _;have hr16:bB (iG 16):=mN _;have hr17:bB (iG 17):=mN _;have hr0:bB (iG 0):=mN _;cases c1:decide (e≠0) with
 |true=>exact Hh f0 _ hR [hrr 12 f0 15 [.agg (aJ o)] hR hg,hr 17 c1] (Ht R hre)
 |false=>
  cases c2:decide (DE R o.Device≠w) with
  |true=>exact Hh f0 _ hR [hrr 12 f0 15 [.agg (aJ o)] hR hg,hr 17 c1,hof gl 23 hR o.Device 15,hr 25 c2] (Ht R hr16)
  |false=>
   cases c3:DY R o.Device with
   |true=>exact Hh f0 _ hR [hrr 12 f0 15 [.agg (aJ o)] hR hg,hr 17 c1,hof gl 23 hR o.Device 15,hr 25 c2,hfr gl 30 hR c3 15] (Ht R hr0)
   |false=>exact Hh f0 _ hR [hrr 12 f0 15 [.agg (aJ o)] hR hg,hr 17 c1,hof gl 23 hR o.Device 15,hr 25 c2,hfr gl 30 hR c3 15] (Ht R hr17)
theorem AhQ(hR:Bj R)(o:Bq)(m:Int):TG prog gl 444 [.ref 0 0,.agg (aJ o),iG m] (BW f0 R) 14 14 (iG (Aef R o)) (BW f0 R):=by
 refine dFP func444 ?_;have hg:=Ul gl hR o;have hin:=Ahx R o.Old;unfold Aef;generalize Dq R o=we at hg⊢;obtain⟨w,e⟩:=we;dsimp only at hg⊢;have hre:bB (iG e):=mN _;have hr17:bB (iG 17):=mN _;have hr27:bB (iG 27):=mN _;have hr0:bB (iG 0):=mN _;cases c1:decide (e≠0) with
 |true=>exact Hh f0 _ hR [hrr 13 f0 15 [.agg (aJ o)] hR hg,hr 18 c1] (Ht R hre)
 |false=>
  unfold AjV;cases c2:PL R o.Old with
  |false=>rw[c2] at hin;exact Hh f0 _ hR [hrr 13 f0 15 [.agg (aJ o)] hR hg,hr 18 c1,KJ 27 hin] (Ht R hr17)
  |true=>
   rw[c2] at hin;cases c3:decide (DE R o.Old≠w) with
   |true=>exact Hh f0 _ hR [hrr 13 f0 15 [.agg (aJ o)] hR hg,hr 18 c1,KJ 27 hin,hof gl 33 hR o.Old 15,hr 35 c3] (Ht R hr17)
   |false=>
    cases c4:DY R o.Device with
    |false=>exact Hh f0 _ hR [hrr 13 f0 15 [.agg (aJ o)] hR hg,hr 18 c1,KJ 27 hin,hof gl 33 hR o.Old 15,hr 35 c3,hfr gl 40 hR c4 15] (Ht R hr17)
    |true=>
     cases c5:decide (DE R o.Device≠w) with
     |true=>exact Hh f0 _ hR [hrr 13 f0 15 [.agg (aJ o)] hR hg,hr 18 c1,KJ 27 hin,hof gl 33 hR o.Old 15,hr 35 c3,hfr gl 40 hR c4 15,hof gl 46 hR o.Device 15,hr 48 c5] (Ht R hr17)
     |false=>
      have hd:=AjU gl hR w o.Device;generalize ZH R w o.Device=de at hd⊢;obtain⟨a,e2⟩:=de;dsimp only[Be,ax] at hd⊢;have hre2:bB (iG e2):=mN _;cases c6:decide (e2=0) with
      |false=>exact Hh f0 _ hR [hrr 13 f0 15 [.agg (aJ o)] hR hg,hr 18 c1,KJ 27 hin,hof gl 33 hR o.Old 15,hr 35 c3,hfr gl 40 hR c4 15,hof gl 46 hR o.Device 15,hr 48 c5,hrr 55 f0 15 [iG w,iG o.Device] hR hd,hr 59 c6] (Ht R hre2)
      |true=>
       cases c7:decide (o.At<a) with
       |true=>exact Hh f0 _ hR [hrr 13 f0 15 [.agg (aJ o)] hR hg,hr 18 c1,KJ 27 hin,hof gl 33 hR o.Old 15,hr 35 c3,hfr gl 40 hR c4 15,hof gl 46 hR o.Device 15,hr 48 c5,hrr 55 f0 15 [iG w,iG o.Device] hR hd,hr 59 c6,hr 64 c7] (Ht R hr27)
       |false=>have:e2=0:=DS c6;subst this;exact Hh f0 _ hR [hrr 13 f0 15 [.agg (aJ o)] hR hg,hr 18 c1,KJ 27 hin,hof gl 33 hR o.Old 15,hr 35 c3,hfr gl 40 hR c4 15,hof gl 46 hR o.Device 15,hr 48 c5,hrr 55 f0 15 [iG w,iG o.Device] hR hd,hr 59 c6,hr 64 c7] (Ht R hr0)
def AcE(R:Ad)(o:Bq)(m:Int):Int:=if o.Kind=2 then AfY R o m else if o.Kind=3 then Aed R o m else if o.Kind=5 then AfZ R o m else if o.Kind=6 then Af0 R m else if o.Kind=8 then Af1 R o m else if o.Kind=9 then Af3 R o else if o.Kind=10 then AbA R o m else if o.Kind=11 then Aee R o else if o.Kind=12 then AbA R o m else if o.Kind=13 then Aef R o else 0
def Uo(R:Ad)(o:Bq):Int:=if o.Kind=1 then(bif DE R o.By=0 then 17 else bif 0<(R.was.es.length:Int)then 5 else 0)else bif PL R o.By then AcE R o (DE R o.By)else 15
abbrev tAs:Bk:=383
theorem An9{z:Int}(hz:z=(k:Int))(hk:k<14):fh prog tAs (.ptr IU 0) z=some (.ptr IU k):=by
 subst hz;rcases(by omega:k=0\/k=1\/k=2\/k=3\/k=4\/k=5\/k=6\/k=7\/k=8\/k=9\/k=10\/k=11\/k=12\/k=13) with rfl|rfl|rfl|rfl|rfl|rfl|rfl|rfl|rfl|rfl|rfl|rfl|rfl|rfl
 all_goals kernel_rfl
abbrev Al9(R:Ad)(o:Bq)(i:Ab)(r:Int):Prop:=TG prog fI 227 [.ref 0 0,.agg (aJ o),.agg (aj i)] (BW f0 R) 14 14 (iG r) (BW f0 R)
theorem Aoa{o:Bq}{m:Int}:∀x∈[G.agg (aJ o),iG m],bB x:=λx hx=>by
 simp only[EY,LD,or_false] at hx;rcases hx with rfl|rfl
 .exact aG 20 _ aH
 .exact mN _
abbrev hla(d:Nat){R:Ad}(hR:Bj R){f:FuncId}{o:Bq}{m r:Int}(h:ba prog fI f [.ptr (CM R) 0,.agg (aJ o),iG m] (iG r))(hc:aK prog f=true:=by kernel_rfl):HP:=hrl d f0 16 hR h Aoa (lR _) (hc:=hc)
theorem Af4(hR:Bj R){o:Bq}{i:Ab}(hg:o.Guards.length<=1000000):Al9 R o i (Uo R o):=by
 refine dFP func227 ?_;have hi0:∀r:Int,bB (iG r):=λr=>mN _;have hin:=Ahx R o.By;unfold Uo;split
 .rename_i hk;have a1:decide (o.Kind=1)=true:=C5 hk;have hle:decide (0<((UF Jo bG R.was).length:Int))=decide (0<(R.was.es.length:Int)):=by rw[GJ]
  have c:=hi0 17;have h5:=hi0 5;have h0:=hi0 0;cases c1:decide (DE R o.By=0) with
  |true=>exact Hh f0 _ hR [hr 9 a1,hof fI 14 hR o.By 16,hr 15 c1] (Ht R c)
  |false=>
   cases c2:decide (0<(R.was.es.length:Int)) with
   |true=>exact Hh f0 _ hR [hr 9 a1,hof fI 14 hR o.By 16,hr 15 c1,hr 22 (hle.trans c2)] (Ht R h5)
   |false=>exact Hh f0 _ hR [hr 9 a1,hof fI 14 hR o.By 16,hr 15 c1,hr 22 (hle.trans c2)] (Ht R h0)
 .rename_i hk1;have a1:decide (o.Kind=1)=false:=Dk hk1;cases hb:PL R o.By with
  |false=>rw[hb] at hin;have d:=hi0 15;exact Hh f0 _ hR [hr 9 a1,KJ 29 hin] (Ht R d)
  |true=>
   rw[hb] at hin;rw[ax];have h0:=hi0 0;by_cases hlo:o.Kind<0
   .have:AcE R o (DE R o.By)=0:=by unfold AcE;repeat rw[BU aa]
    rw[this];exact Hh f0 _ hR [hr 9 a1,KJ 29 hin,hr 33 (C5 hlo)] (Ht R h0)
   by_cases hhi:14<=o.Kind
   .have:AcE R o (DE R o.By)=0:=by unfold AcE;repeat rw[BU aa]
    rw[this];exact Hh f0 _ hR [hr 9 a1,KJ 29 hin,hr 33 (Dk hlo),hr 37 (show decide (14<=o.Kind)=true from C5 hhi)] (Ht R h0)
   have a33:decide (o.Kind<0)=false:=Dk hlo;have a37:decide (14<=o.Kind)=false:=Dk hhi;unfold AcE;obtain⟨k,hk,b⟩:∃k:Nat,o.Kind=(k:Int)/\k<14:=⟨o.Kind.toNat,aa,aa⟩;have a:=An9 hk b;rcases(by omega:k=0\/k=1\/k=2\/k=3\/k=4\/k=5\/k=6\/k=7\/k=8\/k=9\/k=10\/k=11\/k=12\/k=13) with rfl|rfl|rfl|rfl|rfl|rfl|rfl|rfl|rfl|rfl|rfl|rfl|rfl|rfl
   .repeat rw[BU aa]
    exact Hh f0 _ hR [hr 9 a1,KJ 29 hin,hr 33 a33,hr 37 a37,AH 42 a] (Ht R h0)
   .exact absurd hk hk1
   .rw[BB aa];have hr0:=hi0 (AfY R o (DE R o.By));exact Hh f0 _ hR [hr 9 a1,KJ 29 hin,hr 33 a33,hr 37 a37,AH 42 a,AH 48 a,hof fI 55 hR o.By 16,hla 56 hR (AhI fI R o (DE R o.By))] (Ht R hr0)
   .repeat rw[BU aa]
    rw[BB aa];have hr0:=hi0 (Aed R o (DE R o.By));exact Hh f0 _ hR [hr 9 a1,KJ 29 hin,hr 33 a33,hr 37 a37,AH 42 a,AH 48 a,hof fI 55 hR o.By 16,hla 56 hR (AhJ fI R o (DE R o.By))] (Ht R hr0)
   .repeat rw[BU aa]
    exact Hh f0 _ hR [hr 9 a1,KJ 29 hin,hr 33 a33,hr 37 a37,AH 42 a] (Ht R h0)
   .repeat rw[BU aa]
    rw[BB aa];have hr0:=hi0 (AfZ R o (DE R o.By));exact Hh f0 _ hR [hr 9 a1,KJ 29 hin,hr 33 a33,hr 37 a37,AH 42 a,AH 48 a,hof fI 55 hR o.By 16,hla 56 hR (AhK fI R o (DE R o.By))] (Ht R hr0)
   .repeat rw[BU aa]
    rw[BB aa];have hr0:=hi0 (Af0 R (DE R o.By));exact Hh f0 _ hR [hr 9 a1,KJ 29 hin,hr 33 a33,hr 37 a37,AH 42 a,AH 48 a,hof fI 55 hR o.By 16,hla 56 hR (AhL fI R o (DE R o.By))] (Ht R hr0)
   .repeat rw[BU aa]
    exact Hh f0 _ hR [hr 9 a1,KJ 29 hin,hr 33 a33,hr 37 a37,AH 42 a] (Ht R h0)
   .repeat rw[BU aa]
    rw[BB aa];have hr0:=hi0 (Af1 R o (DE R o.By));exact Hh f0 _ hR [hr 9 a1,KJ 29 hin,hr 33 a33,hr 37 a37,AH 42 a,AH 48 a,hof fI 55 hR o.By 16,hla 56 hR (AhM fI R o (DE R o.By))] (Ht R hr0)
   .repeat rw[BU aa]
    rw[BB aa];have hr0:=hi0 (Af3 R o);exact Hh f0 _ hR [hr 9 a1,KJ 29 hin,hr 33 a33,hr 37 a37,AH 42 a,AH 48 a,hof fI 55 hR o.By 16,hla 56 hR (AhO fI R hg (DE R o.By))] (Ht R hr0)
   .repeat rw[BU aa]
    rw[BB aa];have hr0:=hi0 (AbA R o (DE R o.By));exact Hh f0 _ hR [hr 9 a1,KJ 29 hin,hr 33 a33,hr 37 a37,AH 42 a,AH 48 a,hof fI 55 hR o.By 16,hla 56 hR (Adq fI R o (DE R o.By))] (Ht R hr0)
   .repeat rw[BU aa]
    rw[BB aa];have hr0:=hi0 (Aee R o);exact Hh f0 _ hR [hr 9 a1,KJ 29 hin,hr 33 a33,hr 37 a37,AH 42 a,AH 48 a,hof fI 55 hR o.By 16,hrr 56 f0 16 [.agg (aJ o),iG (DE R o.By)] hR (AhP fI hR o (DE R o.By))] (Ht R hr0)
   .repeat rw[BU aa]
    rw[BB aa];have hr0:=hi0 (AbA R o (DE R o.By));exact Hh f0 _ hR [hr 9 a1,KJ 29 hin,hr 33 a33,hr 37 a37,AH 42 a,AH 48 a,hof fI 55 hR o.By 16,hla 56 hR (Adq fI R o (DE R o.By))] (Ht R hr0)
   .repeat rw[BU aa]
    rw[BB aa];have hr0:=hi0 (Aef R o);exact Hh f0 _ hR [hr 9 a1,KJ 29 hin,hr 33 a33,hr 37 a37,AH 42 a,AH 48 a,hof fI 55 hR o.By 16,hrr 56 f0 16 [.agg (aJ o),iG (DE R o.By)] hR (AhQ fI hR o (DE R o.By))] (Ht R hr0)
structure Gi where
 op:Ab->Option Bq
 bef:Ab->Ab->Bool
 lev:Ab->Int
 cards:Mj
 card:Int->Option DQ
def Gi.o(I:Gi)(x:Ab):Bq:=(I.op x).getD ip
def XP:DQ:=⟨0,0,0,0,0⟩
structure Nk (gl:CB) (gg:Az) (I:Gi):Prop where
 op:∀x,ba prog gl 59 [.ptr (Ag gg) 0,.agg (aj x)] (.tup [.agg (aJ (I.o x)),bG (I.op x).isSome])
 bef:∀x y,ba prog gl 21 [.ptr (Ag gg) 0,.agg (aj x),.agg (aj y)] (bG (I.bef x y))
 lev:∀x,ba prog gl 37 [.ptr (Ag gg) 0,.agg (aj x)] (iG (I.lev x))
 cards:ba prog gl 105 [.ptr (Ag gg) 0] (aE bv I.cards)
 card:∀d,ba prog gl 78 [.ptr (Ag gg) 0,iG d] (.tup [.agg (bv ((I.card d).getD XP)),bG (I.card d).isSome])
def AbB(I:Gi)(x:Bq)(d:Int):Bool:=bif x.Kind=13 then decide (d=x.Old)else bif x.Device≠0 then decide (d=x.Device)else bif(I.card d).isSome then decide (((I.card d).getD XP).Member=x.Member)else false
def AjW(I:Gi)(a b:Bq):Bool:=bif a.Kind=3 then AbB I a b.By else bif a.Kind=13 then(bif decide (b.Kind=12)&&decide (a.Of=b.Of)then false else AbB I a b.By)else bif a.Kind=12 then(decide (b.Kind=13)&&decide (b.Of=a.Of)&&decide (a.At<=b.At))else false
def I9(I:Gi)(x y:Ab):Bool:=(I.op x).isSome&&(I.op y).isSome&& !decide (x=y)&& !I.bef y x&& !I.bef x y&&AjW I (I.o x) (I.o y)
section
variable {gl:CB} {gg:Az} {I:Gi} (h:Nk gl gg I)
include h
theorem Af5(x:Bq)(d:Int):ba prog gl 350 [.ptr (Ag gg) 0,.agg (aJ x),iG d] (bG (AbB I x d)):=by
 have hc:=h.card d;unfold AbB;refine Gh func350 ?_;cases b1:decide (x.Kind=13) with
 |true=>exact Ar [hr 11 b1] []
 |false=>
  cases b2:decide (x.Device≠0) with
  |true=>exact Ar [hr 11 b1,hr 18 b2] []
  |false=>
   cases b3:(I.card d).isSome with
   |false=>rw[b3] at hc;exact Ar [hr 11 b1,hr 18 b2,hf 26 hc] []
   |true=>rw[b3] at hc;exact Ar [hr 11 b1,hr 18 b2,hf 26 hc] []
theorem aaj(x y:Ab):ba prog gl 283 [.ptr (Ag gg) 0,.agg (aj x),.agg (aj y)] (bG (I9 I x y)):=by
 have h1:=h.op x;have h2:=h.op y;have h3:=h.bef y x;have h4:=h.bef x y;have hg:=Af5 h (I.o x) (I.o y).By;unfold I9;generalize I.o x=a at h1 hg⊢;generalize I.o y=b at h2 hg⊢;refine Gh func283 ?_;cases c1:(I.op x).isSome with
 |false=>rw[c1] at h1;exact Ar [hf 15 h1,hf 21 h2] []
 |true=>
  rw[c1] at h1;cases c2:(I.op y).isSome with
  |false=>rw[c2] at h2;exact Ar [hf 15 h1,hf 21 h2] []
  |true=>
   rw[c2] at h2;cases c3:decide (x=y) with
   |true=>exact Ar [hf 15 h1,hf 21 h2,hV 33 (dU x y c3)] []
   |false=>
    cases c4:I.bef y x with
    |true=>rw[c4] at h3;exact Ar [hf 15 h1,hf 21 h2,hV 33 (dU x y c3),hf 39 h3] []
    |false=>
     rw[c4] at h3;cases c5:I.bef x y with
     |true=>rw[c5] at h4;exact Ar [hf 15 h1,hf 21 h2,hV 33 (dU x y c3),hf 39 h3,hf 45 h4] []
     |false=>
      rw[c5] at h4;unfold AjW;cases k3:decide (a.Kind=3) with
      |true=>
       have k13:decide (a.Kind=13)=false:=by rw[DS k3];rfl
       exact Ar [hf 15 h1,hf 21 h2,hV 33 (dU x y c3),hf 39 h3,hf 45 h4,hr 50 k3,hr 54 k13,hf 74 hg] []
      |false=>
       cases k13:decide (a.Kind=13) with
       |true=>
        cases j12:decide (b.Kind=12) with
        |false=>exact Ar [hf 15 h1,hf 21 h2,hV 33 (dU x y c3),hf 39 h3,hf 45 h4,hr 50 k3,hr 51 k13,hr 54 k13,hr 58 j12,hf 74 hg] []
        |true=>
         cases jo:decide (a.Of=b.Of) with
         |true=>exact Ar [hf 15 h1,hf 21 h2,hV 33 (dU x y c3),hf 39 h3,hf 45 h4,hr 50 k3,hr 51 k13,hr 54 k13,hr 58 j12,hV 65 (dU a.Of b.Of jo)] []
         |false=>exact Ar [hf 15 h1,hf 21 h2,hV 33 (dU x y c3),hf 39 h3,hf 45 h4,hr 50 k3,hr 51 k13,hr 54 k13,hr 58 j12,hV 65 (dU a.Of b.Of jo),hf 74 hg] []
       |false=>
        cases k12:decide (a.Kind=12) with
        |false=>exact Ar [hf 15 h1,hf 21 h2,hV 33 (dU x y c3),hf 39 h3,hf 45 h4,hr 50 k3,hr 51 k13,hr 77 k12] []
        |true=>
         cases j13:decide (b.Kind=13) with
         |false=>exact Ar [hf 15 h1,hf 21 h2,hV 33 (dU x y c3),hf 39 h3,hf 45 h4,hr 50 k3,hr 51 k13,hr 77 k12,hr 80 j13] []
         |true=>
          cases jo:decide (b.Of=a.Of) with
          |false=>exact Ar [hf 15 h1,hf 21 h2,hV 33 (dU x y c3),hf 39 h3,hf 45 h4,hr 50 k3,hr 51 k13,hr 77 k12,hr 80 j13,hV 86 (dU b.Of a.Of jo)] []
          |true=>exact Ar [hf 15 h1,hf 21 h2,hV 33 (dU x y c3),hf 39 h3,hf 45 h4,hr 50 k3,hr 51 k13,hr 77 k12,hr 80 j13,hV 86 (dU b.Of a.Of jo)] []
end
def PR(c k:Nat):Nat:=c+k
theorem AhR(hR:Bj R)(c:Nat):Aa9 (kO [] [] 0 14 c) (BW f0 R) (BW (PR c) R):=λi o h0=>by
 rw[Hm] at h0;obtain⟨k,hk,e,h⟩:=LU h0;subst e;have hκ:∀k,(∃ob,Bw f0 R k=some ob)->kO [] [] 0 14 c (f0 k)=some (PR c k):=λk ⟨ob,h⟩=>by have:=D3 h;show(bif Nat.blt k 0 then _ else bif Nat.blt k (0+14)then some (c+(k-0))else none)=_;rw[show Nat.blt k 0=false from by cases hb:Nat.blt k 0 with|false=>rfl|true=>simp_all,show Nat.blt k (0+14)=true from N8 aa];rfl
 obtain⟨a,h1,h2⟩:=PK hκ hR k o h;grind [JW]
theorem Af6{κ:Nat->Fo}:InP κ [] [] []:=λk o0 h=>by cases h
def hrn(d c:Nat)(args:Bn){P:Bu}{gl:CB}{fid:FuncId}{args0:Bn}{R:Ad}(hR:Bj R)(hM:TG P gl fid args0 [] 0 0 (.ref 0 0) (BW f0 R))(hc:aK P fid=true:=by kernel_rfl)(hgs:args.map (qg (vi []) 20)=args0:=by kernel_rfl):HP:=
 hfm d [] 0 14 c [] args (BW (PR c) R) hM Af6 (AhR hR c) hc rfl rfl hgs
def Te(I:Gi)(id:Ab)(R:Ad)(x:Ab):Ad:=bif I.bef x id then VA R (I.o x) x else R
def XQ(I:Gi)(l:Bb)(id:Ab):Ad:=l.foldl (Te I id) (Hd I.cards)
structure Aeg (gl:CB) (l:Bc) (I:Gi):Prop where
 g:Nk gl l.g I
 c:Aec I.cards
 o:∀x∈l.row,VB (I.o x) x
 n:l.row.length<=1000
theorem AhS{I:Gi}(hR:Bj R)(hx:VB (I.o x) x):Bj (Te I id R x):=by grind [Te,R2]
theorem Ads{I:Gi}{id:Ab}:∀{l:Bb} {R:Ad},Bj R->(∀x∈l,VB (I.o x) x)->Bj (l.foldl (Te I id) R)
 |[],R,h,_=>h
 |x::r,R,h,hx=>Ads (l:=r) (AhS h (hx x aC)) (by grind)
theorem AcF{I:Gi}(hc:Aec I.cards){l:Bb}(h:∀x∈l,VB (I.o x) x)(id:Ab):Bj (XQ I l id):=Ads (LF hc.r) h
section
variable {gl:CB}
end
abbrev BA(l:Bb):Option Ob:=some ⟨25,l.flatMap aj,none⟩
def Ama(ρ:DF)(f f':Nat->Nat):Bool:=L0.all λk=>match HC ρ (f k) with|some j=>Nat.beq j (f' k)|none=>false
theorem AhT{ρ:DF}{f f':Nat->Nat}(h:Ama ρ f f'=true)(hk:k<14):HC ρ (f k)=some (f' k):=by have:=GK.1 h k (by have:k∈List.range 14:=List.mem_range.2 hk;exact this);grind [bc]
abbrev rlC(ρ:DF)(f f':Nat->Nat){R:Ad}(hR:Bj R)(h:Ama ρ f f'=true:=by kernel_rfl):List HP:=L0.map λk=>hc (PK (κ:=HC ρ) (f:=f) (f':=f') (λk ⟨ob,hk⟩=>AhT h (D3 hk)) hR k)
abbrev kd1:List (Nat×Rk):=(0,.row)::L0.map λk=>(k+1,.any)
abbrev stO(l:Bb)(c:Nat)(R:Ad):aQ:=(0,BA l)::BW (PR c) R
abbrev ρe0:DF:=[(0,0),(1,2),(2,3),(3,4),(4,5),(5,6),(6,7),(7,8),(8,9),(9,10),(10,11),(11,12),(12,13),(13,14),(14,15),(15,1)]
abbrev ρe1:DF:=[(0,0),(1,1),(2,2),(3,3),(4,4),(5,5),(6,6),(7,7),(8,8),(9,9),(10,10),(11,11),(12,12),(13,13),(14,14),(15,15)]
abbrev ρe2:DF:=[(0,0),(1,1),(2,2),(3,3),(4,4),(5,5),(6,18),(7,19),(8,20),(9,21),(10,22),(11,23),(12,24),(13,25),(14,26),(15,15)]
abbrev ρe3:DF:=[(0,0),(1,1),(2,2),(3,3),(4,4),(5,5),(6,6),(7,7),(8,8),(9,9),(10,10),(11,11),(12,12),(13,13),(14,14)]
section
variable {gl:CB}
theorem AhU{gg:Az}{I:Gi}(h:Nk gl gg I)(hc:Aec I.cards){al:Bc}(hal:al.g=gg){l:Bb}(hl:∀x∈l,VB (I.o x) x)(hn:l.length<=1000)(id:Ab):TG prog gl 285 [.ptr (BX al) 0,.rsl 0 0 l.length,.agg (aj id)] [(0,BA l)] 1 1 (.ref 1 0) (stO l 1 (XQ I l id)):=by
 subst hal;have hQ:∀k,Bj (XQ I (l.take k) id):=λk=>AcF hc (λx hx=>hl x (List.mem_of_mem_take hx)) id;refine dFP func285 ?_;refine dLl (l:=l) aa (λk:Nat=>(s0 46 gl [(0,.ptr (BX al) 0),(5,.ref 15 0),(7,.ref 1 0),(18,.rsl 0 0 l.length),(19,iG (ah l)),(20,iG (k:Int))] (stO l 1 (XQ I (l.take k) id)++[(15,O7 id)]) 16 1)) 1110122 [hf 16 h.cards,hrn 17 2 [aE bv I.cards] (LF hc.r) (AfX gl hc)] (Go.Proofs.YtdpdicldkohflaaGreatDoor.hc (el l)::Go.Proofs.YtdpdicldkohflaaGreatDoor.hc (ac.imm l)::rlC ρe0 (PR 2) (PR 1) (hQ 0)) (λB k x hx hz k5=>?_) (λB=>?_) [] ρe0 kd1
 .have hlt:=(cr hx).1;have hq:=hQ k;have a:=hl x (bO hx);have hb:=h.bef x id;unfold XQ at k5 hq⊢;rw[Jk,hx,Option.toList_some,No,List.foldl_cons,List.foldl_nil] at k5;generalize (l.take k).foldl (Te I id) (Hd I.cards)=Q at hq k5⊢;unfold Te at k5;cases c1:I.bef x id with
  |false=>rw[c1] at hb k5;exact jw [hr 21 (C7 hx),AH 22 (ac.ixrZ 0 hz),AH 23 (ac.pt0Z aW hz),hf 30 hb,hbb 44 (Xl (q:=k) aa)] (Go.Proofs.YtdpdicldkohflaaGreatDoor.hc (el l)::Go.Proofs.YtdpdicldkohflaaGreatDoor.hc (ac.imm l)::rlC ρe1 (PR 1) (PR 1) hq) k5 [] ρe1 kd1
  |true=>rw[c1] at hb k5;have b:=R2 hq a;exact jw [hr 21 (C7 hx),AH 22 (ac.ixrZ 0 hz),AH 23 (ac.pt0Z aW hz),hf 30 hb,hf 37 (h.op x),hrw 43 (PR 1) 18 [.agg (aJ (I.o x)),.agg (aj x)] hq b (AfW gl hq a),hbb 44 (Xl (q:=k) aa)] (Go.Proofs.YtdpdicldkohflaaGreatDoor.hc (el l)::Go.Proofs.YtdpdicldkohflaaGreatDoor.hc (ac.imm l)::rlC ρe2 (fW (PR 1) 18) (PR 1) b) k5 [] ρe2 kd1
 .rw[EG];exact ZT [hr 21 (DZ (s:=l))] (Go.Proofs.YtdpdicldkohflaaGreatDoor.hc (ac.imm l)::rlC ρe3 (PR 1) (PR 1) (AcF hc hl id)) ρe3 kd1
def Lv(I:Gi)(vd:FM Ab Bool)(out:Bb)(x:Ab):Bb:=bif A7 (vd.get x)then out else bif Uo (XQ I out x) (I.o x)=0 then out++[x]else out
def JN(I:Gi)(al:Bc):Bb:=al.row.foldl (Lv I al.void) []
theorem Aeh{I:Gi}{vd:FM Ab Bool}{out:Bb}{y:Ab}(h:y∈Lv I vd out x):y∈out\/y=x:=by grind [Lv]
theorem Aei{I:Gi}{vd:FM Ab Bool}{out:Bb}:(Lv I vd out x).length<=out.length+1:=by grind [Lv]
theorem XR{I:Gi}{vd:FM Ab Bool}:∀{l out:Bb},(∀y∈l.foldl (Lv I vd) out,y∈out\/y∈l)/\(l.foldl (Lv I vd) out).length<=out.length+l.length
 |[],out=>(by grind)
 |x::r,out=>by obtain⟨h1,h2⟩:=XR (I:=I) (vd:=vd) (l:=r) (out:=Lv I vd out x);grind [Aeh,Aei]
end
theorem Af7{κ:Nat->Fo}(l:Bb):InP κ [0] [(0,BA l)] [(0,BA l)]:=λk o0 h=>by
 rw[Bf] at h;split at h
 .rename_i e;subst e;exact⟨0,o0,rfl,by rw[Bf,BB rfl];exact h,by cases h;exact⟨rfl,.inr ⟨rfl,ac.imm l⟩⟩⟩
 .cases h
theorem AhV{c:Nat}(h:PR c a=PR c b):a=b:=Nat.add_left_cancel h
theorem Adt(hR:Bj R)(l:Bb)(c:Nat):Aa9 (kO [(0,BA l)] [0] 1 14 c) (stO l 1 R) ((0,BA l)::BW (PR c) R):=λi o h0=>by
 rw[Bf] at h0;split at h0
 .rename_i e;subst e;exact⟨0,o,rfl,by grind,by cases h0;exact⟨rfl,.inr ⟨rfl,ac.imm l⟩⟩⟩
 .rw[Hm] at h0;obtain⟨k,hk,e,h⟩:=LU h0;subst e;have hκ:∀k,(∃ob,Bw (PR 1) R k=some ob)->kO [(0,BA l)] [0] 1 14 c (PR 1 k)=some (PR c k):=λk ⟨ob,h⟩=>by have:=D3 h;unfold kO PR;rw[show Nat.blt (1+k) 1=false from by cases hb:Nat.blt (1+k) 1 with|false=>rfl|true=>simp_all,show Nat.blt (1+k) (1+14)=true from N8 aa,Nat.add_sub_cancel_left];rfl
  obtain⟨d,h1,h2⟩:=PK hκ hR k o h;refine⟨PR 1 k,d,hκ k ⟨d,h1⟩,?_,h2⟩;show ag ((0,BA l)::BW (PR 1) R) (PR 1 k)=_;rw[Bf,BU (by unfold PR;omega),Hm,LT (λa _ b _ e=>AhV e) hk];exact h1
abbrev oGd(al:Bc)(I:Gi)(k:Nat):Bb:=(al.row.take k).foldl (Lv I al.void) []
abbrev Amb(al:Bc)(l:Bb)(k:Nat):St:=(s0 49 fI [(0,.ptr (BX al) 0),(3,.rsl 0 0 l.length),(11,aE aj al.row),(12,iG (ah al.row)),(13,iG (k:Int))] [(0,BA l)] 1 0)
theorem Adu{al:Bc}{I:Gi}(h:Aeg fI al I):iV prog fI 177 [.ptr (BX al) 0] 25 (JN I al).length ((JN I al).flatMap aj):=by
 have hn:=h.n;refine OW func177 ?_;refine dLl (l:=al.row) aa (λk:Nat=>Amb al (oGd al I k) k) [1,1,0,1,2,2] [] [hc (ac.imm [])] (λB k x hx hz k5=>?_) (λB=>?_)
 .have hlt:=(cr hx).1;have hsub:=XR (I:=I) (vd:=al.void) (l:=al.row.take k) (out:=[]);have a:=h.o x (bO hx);have hle:(oGd al I k).length<=1000:=LC hsub.2 (by rw[MG];simp;omega);have hO:∀y∈oGd al I k,VB (I.o y) y:=λy hy=>by
   rcases hsub.1 y hy with h1|h1
   .cases h1
   .exact h.o y (List.mem_of_mem_take h1)
  unfold oGd at k5 hle hO⊢;rw[Jk,hx,Option.toList_some,No,List.foldl_cons,List.foldl_nil] at k5;generalize (al.row.take k).foldl (Lv I al.void) []=l at k5 hle hO⊢;have hd:=AhU h.g h.c (al:=al) rfl hO hle x;have hq:=AcF h.c hO x;unfold Lv at k5;have hw:=SC al.void x;cases c1:A7 (al.void.get x) with
  |true=>rw[c1] at k5 hw;exact jw [hr 14 (C7 hx),AH 15 (ac.ixZ hz),AH 16 (ac.ptZ aW hz),hf 23 (h.g.op x),hm 31 hw,hbb 47 (Xl (q:=k) aa)] [hc (el l),hc (ac.imm l)] k5
  |false=>
   rw[c1,Be] at k5;rw[c1] at hw;have hm:=Af4 (i:=x) hq a.g;generalize XQ I l x=R at hd hq hm k5;cases c2:decide (Uo R (I.o x)=0) with
   |false=>rw[c2] at k5;exact jw [hr 14 (C7 hx),AH 15 (ac.ixZ hz),AH 16 (ac.ptZ aW hz),hf 23 (h.g.op x),Go.Proofs.YtdpdicldkohflaaGreatDoor.hm 31 hw,hfm 37 [0] 1 14 3 [(0,BA l)] [.ptr (BX al) 0,.rsl 0 0 l.length,.agg (aj x)] ((0,BA l)::BW (PR 3) R) hd (Af7 l) (Adt hq l 3),hrr 40 (PR 3) 17 [.agg (aJ (I.o x)),.agg (aj x)] hq hm,hr 41 c2,hbb 47 (Xl (q:=k) aa)] [hc (el l),hc (ac.imm l)] k5
   |true=>rw[c2] at k5;exact jw [hr 14 (C7 hx),AH 15 (ac.ixZ hz),AH 16 (ac.ptZ aW hz),hf 23 (h.g.op x),Go.Proofs.YtdpdicldkohflaaGreatDoor.hm 31 hw,hfm 37 [0] 1 14 3 [(0,BA l)] [.ptr (BX al) 0,.rsl 0 0 l.length,.agg (aj x)] ((0,BA l)::BW (PR 3) R) hd (Af7 l) (Adt hq l 3),hrr 40 (PR 3) 17 [.agg (aJ (I.o x)),.agg (aj x)] hq hm,hr 41 c2,Tn 46 ac 24 l x aa,hbb 47 (Xl (q:=k) aa)] [hc (el (l++[x])),hc (ac.imm (l++[x]))] k5
 .unfold JN;show Gp _ _ _ _ _ _ (Amb al ((al.row.take al.row.length).foldl (Lv I al.void) []) _);rw[EG];generalize al.row.foldl (Lv I al.void) []=l;exact EI [hr 14 (DZ (s:=al.row))] (ac.imm l)
def XS(I:Gi)(x y z:Ab):Bool:=bif decide (z=x)||I.bef z x then I9 I y z else false
def D4(I:Gi)(row:Bb)(x y:Ab):Bool:= !decide (x=y)&&row.any (XS I x y)
section
variable {gl:CB} {al:Bc} {I:Gi} (h:Nk gl al.g I)
include h
theorem Af8(x y z:Ab):ba prog gl 351 [.agg (aj z),.ptr (aj x) 0,.ptr [.ptr (BX al) 0] 0,.ptr (aj y) 0] (bG (XS I x y z)):=by
 have hb:=h.bef z x;have hk:=aaj h y z;unfold XS;refine Gh func351 ?_;cases c1:decide (z=x) with
 |true=>exact Ar [hV 8 (dU z x c1),hf 25 hk] []
 |false=>
  cases c2:I.bef z x with
  |true=>rw[c2] at hb;exact Ar [hV 8 (dU z x c1),hf 16 hb,hf 25 hk] []
  |false=>rw[c2] at hb;exact Ar [hV 8 (dU z x c1),hf 16 hb] []
theorem AbC(hn:al.row.length<=1000)(x y:Ab):ba prog gl 284 [.ptr (BX al) 0,.agg (aj x),.agg (aj y)] (bG (D4 I al.row x y)):=by
 have hv:Ud prog gl 351 [] [.ptr (aj x) 0,.ptr [.ptr (BX al) 0] 0,.ptr (aj y) 0] (λz:Ab=>[.agg (aj z)]) (λb:Bool=>bG b) (λz=>some (XS I x y z)):=⟨aH,bf,eB aH,λz r e=>by cases e;exact Af8 h x y z⟩;have hc:=kP gl hv (Abu (s:=al.row) (p:=XS I x y) aa λ_ _=>rfl);unfold D4;refine Gh func284 ?_;refine pO [1,0] (s0 18 gl [(3,.ptr [.ptr (BX al) 0] 0),(4,.ptr (aj x) 0),(5,.ptr (aj y) 0)] [] 0 0) [] [Go.Proofs.YtdpdicldkohflaaGreatDoor.hc (eB (gs:=[.ptr (BX al) 0]) aH),Go.Proofs.YtdpdicldkohflaaGreatDoor.hc (eB (gs:=aj x) aH),Go.Proofs.YtdpdicldkohflaaGreatDoor.hc (eB (gs:=aj y) aH)] ?_ [] [];cases c1:decide (x=y) with
 |true=>exact Ar [hV 9 (dy x y (r:=false) (by rw[c1];rfl))] []
 |false=>exact Ar [hV 9 (dy x y (r:=true) (by rw[c1];rfl)),hf 16 hc] []
end
end
def unS(fn:Func):Func:={fn with body:=some (match ai fn with| .seq a (.scope c)=> .seq a c|c=>c)}
def Aiy:Code->Bool
 | .seq _ (.scope _)=>true
 |_=>false
theorem Ae3{Q Q':Exit->St->Prop}{J:St}(hi:Aiy (ai fn)=true)(hQ:∀l s,¬Q (.goto l) s)(b:Q=Q')(h:Gp P (unS fn) Q' [] false [1] J):Gp P fn Q [] false [1] J:=by
 subst b;obtain⟨a,c,hc⟩:∃a c,ai fn= .seq a (.scope c):=by unfold Aiy at hi;grind
 have e:ai (unS fn)= .seq a c:=by grind [unS,ai]
 unfold Gp at h⊢;rw[e] at h;rw[hc];exact Pn (Tr.mono h λe s hx=>by
  cases e with
  |goto l=>obtain⟨s',_,h2⟩:Z1 P Q (.goto l) s:=hx;exact(hQ l s' h2).elim
  |_=>exact⟨rfl,hx⟩)
theorem AdQ{r:G}:tH P fn r=tH P (unS fn) r:=by funext e s;unfold tH unS;rfl
section
attribute [local irreducible] Tr dz Gp
def AjX(p:Ab->Bool)(l:Bb)(j:Nat):Option (Nat⊕Bool):=match l[j]? with
 |none=>some (.inr false)
 |some y=>bif p y then some (.inr true)else some (.inl (j+1))
theorem AjY{p:Ab->Bool}{l:Bb}(hn:l.length<=1000):AQ (AjX p l) 0=some (l.any p):=T.eq (T.loop (λj=>j<=l.length/\∀y∈l.take j,p y=false) (λj=>l.length-j) ⟨aa,aC⟩ aa λj ⟨hj,hI⟩=>by
 unfold AjX;cases hx:l[j]? with
 |none=>have:l.length<=j:=List.getElem?_eq_none_iff.1 hx;refine .some ?_;show false=l.any p;grind
 |some y=>
  have hlt:=(cr hx).1;dsimp only;cases hp:p y with
  |true=>exact .some (show true=l.any p from(by grind))
  |false=>refine .some ⟨⟨aa,λz hz=>?_⟩,aa⟩;grind [Jk])
def Ss(sen:FM Int Int)(d:Int):Int:=(sen.get d).getD 0
def upB(sen:FM Int Int)(l:Bb)(b:Int)(k:Nat)(x:Ab):JJ:=bif b<0 then some (k:Int)else(aS l b).bind λy=>bif Ss sen x.By<Ss sen y.By then some (k:Int)else some b
def Af9(I:Gi)(row l:Bb)(sen:FM Int Int)(s:Nat×Int):Option ((Nat×Int)⊕Int):=match l[s.1]? with
 |none=>bif Nat.beq s.1 l.length then some (.inr s.2)else none
 |some x=>bif l.any (D4 I row x)then(upB sen l s.2 s.1 x).bind λb=>some (.inl (s.1+1,b))else some (.inr (s.1:Int))
section
variable {gl:CB} {al:Bc} {I:Gi} (h:Nk gl al.g I)
theorem Aax(m:FM Int Int)(k:Int):∀σ,bL prog σ 349 false (FM.g Jo iG m) (iG k)=some (iG (Ss m k)):=FM.look1 (et:=3) OY aH aH m k rfl
abbrev AiJ(al:Bc)(l:Bb)(sen:FM Int Int)(k:Nat)(b:Int):Fr:=[(0,.ptr (BX al) 0),(1,aE aj l),(2,FM.g Jo iG sen),(7,iG b),(12,aE aj l),(13,iG (ah l)),(14,iG (k:Int))]
include h
theorem Aga(hn:al.row.length<=1000){l:Bb}(hl:l.length<=1000){sen:FM Int Int}{r:Int}(hr0:AQ (Af9 I al.row l sen) (0,-1)=some r):ba prog gl 280 [.ptr (BX al) 0,aE aj l,FM.g Jo iG sen] (iG r):=by
 refine Gh func280 ?_;refine pO [1] (s0 50 gl [(0,.ptr (BX al) 0),(1,aE aj l),(2,FM.g Jo iG sen)] [] 0 0) [] [] ?_ [] [];refine Ae3 (Q':=tH prog (unS Tryz.f280) (iG r)) aH (λl s hx=>by unfold tH at hx;rcases hx.1 with e|e<;>cases e) AdQ ?_;refine pN (λs:Nat×Int=>(s0 50 gl (AiJ al l sen s.1 s.2) [] 0 0)) 11110122 hr0 [] [] (λB s v hs k5 f=>?_) [] [];obtain⟨k,b⟩:=s;unfold Af9 at hs;dsimp only at hs;split at hs
 .rename_i hx;cases c0:Nat.beq k l.length with
  |false=>rw[c0] at hs;cases hs
  |true=>rw[c0] at hs;obtain rfl:=Bo hs;obtain rfl:=bc c0;obtain rfl:=f _ rfl;exact Ar [hr 15 (DZ (s:=l))] []
 .rename_i x hx;have hz:=Bt hx;have hw:=λy=>AbC h hn x y;refine pN (λj:Nat=>(s0 50 gl ([(8,iG (k:Int)),(9,.ref 0 0),(19,aE aj l),(20,iG (ah l)),(21,iG (j:Int))]++AiJ al l sen k b) [(0,O7 x)] 1 0)) 11110122110210122 (AjY (p:=D4 I al.row x) hl) [hr 15 (C7 hx),AH 17 (ac.ixZ hz),AH 18 (ac.ptZ aW hz)] [] (λn j v2 c m i=>?_) [] [(0,0)];unfold AjX at c;split at c
  .rename_i hy;obtain rfl:=Bo c;have ha:=i _ rfl;rw[<-ha] at hs;obtain rfl:=Bo hs;obtain rfl:=f _ rfl;have hle:l.length<=j:=List.getElem?_eq_none_iff.1 hy;exact Ar [hr 22 (show decide ((j:Int)<ah l)=false from Dk (by unfold ah;omega))] []
  .rename_i y hy;have a:=Bt hy;have hw:=hw y;cases c1:D4 I al.row x y with
   |false=>rw[c1] at c hw;obtain rfl:=Bo c;exact jw [hr 22 (C7 hy),AH 23 (ac.ixZ a),AH 24 (ac.ptZ aW a),hf 28 hw,hbb 46 (Xl (q:=j) (by have:=(cr hy).1;omega))] [] (m _ rfl) [] [(0,0)]
   |true=>
    rw[c1] at c hw;obtain rfl:=Bo c;have ha:=i _ rfl;rw[<-ha,ax] at hs;obtain⟨b',hb',hs⟩:=bS hs;obtain rfl:=Bo hs;have k5:=k5 _ rfl;have hkk:k<1000:=by have:=(cr hx).1;omega
    unfold upB at hb';cases c2:decide (b<0) with
    |true=>rw[c2] at hb';obtain rfl:=Bo hb';exact jw [hr 22 (C7 hy),AH 23 (ac.ixZ a),AH 24 (ac.ptZ aW a),hf 28 hw,hr 30 c2,hbb 48 (Xl (q:=k) aa)] [] k5 [] []
    |false=>
     rw[c2,Be] at hb';obtain⟨z,d,hb'⟩:=bS hb';cases c3:decide (Ss sen x.By<Ss sen z.By) with
     |true=>rw[c3] at hb';obtain rfl:=Bo hb';exact jw [hr 22 (C7 hy),AH 23 (ac.ixZ a),AH 24 (ac.ptZ aW a),hf 28 hw,hr 30 c2,hm 35 (Aax sen x.By),AH 39 (ac.ixZ d),AH 41 (ac.fdZ tZ 0 d),hm 42 (Aax sen z.By),hr 43 c3,hbb 48 (Xl (q:=k) aa)] [] k5 [] []
     |false=>rw[c3] at hb';obtain rfl:=Bo hb';exact jw [hr 22 (C7 hy),AH 23 (ac.ixZ a),AH 24 (ac.ptZ aW a),hf 28 hw,hr 30 c2,hm 35 (Aax sen x.By),AH 39 (ac.ixZ d),AH 41 (ac.fdZ tZ 0 d),hm 42 (Aax sen z.By),hr 43 c3,hbb 48 (Xl (q:=k) aa)] [] k5 [] []
end
abbrev oA(s:ON):Option Ob:=some ⟨136,FSq s,none⟩
def Rf(s t:ON):ON:=⟨gM s.a0 t.a0,gM s.a1 t.a1,gM s.a2 t.a2,gM s.a3 t.a3⟩
def wiA(s t:ON):Nat->ON
 |0=>s
 |1=>⟨gM s.a0 t.a0,s.a1,s.a2,s.a3⟩
 |2=>⟨gM s.a0 t.a0,gM s.a1 t.a1,s.a2,s.a3⟩
 |3=>⟨gM s.a0 t.a0,gM s.a1 t.a1,gM s.a2 t.a2,s.a3⟩
 |_=>Rf s t
def Zx(k:Nat):Option (Nat⊕Unit):=if k<4 then some (.inl (k+1))else some (.inr ())
theorem Li:AQ Zx 0=some ():=T.eq (T.loop (λ_=>True) (λk=>4-k) trivial Cd λk _=>by
 unfold Zx;split
 .exact .some ⟨trivial,aa⟩
 .exact .some rfl)
theorem TX(s t:ON):jg prog gl 81 [.ref 0 0,.agg (FSq t)] [(0,oA s)] 1 (.tup []) [(0,oA (Rf s t))] 1:=by
 refine pP func81 ?_;refine pN (λk:Nat=>(s0 20 gl [(0,.ref 0 0),(3,.ptr (FSq t) 0),(5,iG (k:Int))] [(0,oA (wiA s t k))] 1 1)) 11122 Li [] [hc (eB (gs:=FSq t) aH)] (λB k v hs k5 a=>?_) [] [(0,0)] [];rcases k with _|_|_|_|k
 .cases hs;exact jw [hV 16 (jc (P:=prog) (t:=23) s.a0 t.a0)] [] (k5 _ rfl) [] [(0,0)] []
 .cases hs;exact jw [hV 16 (jc (P:=prog) (t:=23) s.a1 t.a1)] [] (k5 _ rfl) [] [(0,0)] []
 .cases hs;exact jw [hV 16 (jc (P:=prog) (t:=23) s.a2 t.a2)] [] (k5 _ rfl) [] [(0,0)] []
 .cases hs;exact jw [hV 16 (jc (P:=prog) (t:=23) s.a3 t.a3)] [] (k5 _ rfl) [] [(0,0)] []
 .exact Hf .normal (s0 20 gl [] [(0,oA (Rf s t))] 1 1) [] [hr 6 (show decide (((k+1+1+1+1:Nat):Int)<4)=false from Dk aa)] []
abbrev OG(x:Dd):Option Ob:=some ⟨138,d7 x,none⟩
theorem RE(x:Dd)(t:ON):jg prog gl 81 [.ref 0 30,.agg (FSq t)] [(0,OG x)] 1 (.tup []) [(0,OG {x with past:=Rf x.past t})] 1:=by
 refine pP func81 ?_;refine pN (λk:Nat=>(s0 20 gl [(0,.ref 0 30),(3,.ptr (FSq t) 0),(5,iG (k:Int))] [(0,OG {x with past:=wiA x.past t k})] 1 1)) 11122 Li [] [hc (eB (gs:=FSq t) aH)] (λB k v hs k5 a=>?_) [] [(0,0)] [];rcases k with _|_|_|_|k
 .cases hs;exact jw [hV 16 (jc (P:=prog) (t:=23) x.past.a0 t.a0)] [] (k5 _ rfl) [] [(0,0)] []
 .cases hs;exact jw [hV 16 (jc (P:=prog) (t:=23) x.past.a1 t.a1)] [] (k5 _ rfl) [] [(0,0)] []
 .cases hs;exact jw [hV 16 (jc (P:=prog) (t:=23) x.past.a2 t.a2)] [] (k5 _ rfl) [] [(0,0)] []
 .cases hs;exact jw [hV 16 (jc (P:=prog) (t:=23) x.past.a3 t.a3)] [] (k5 _ rfl) [] [(0,0)] []
 .exact Hf .normal (s0 20 gl [] [(0,OG {x with past:=Rf x.past t})] 1 1) [] [hr 6 (show decide (((k+1+1+1+1:Nat):Int)<4)=false from Dk aa)] []
def yt(s:ON)(n:Nat):ON:=match n/64 with
 |0=>{s with a0:=gM s.a0 (HB 1 (n%64))}
 |1=>{s with a1:=gM s.a1 (HB 1 (n%64))}
 |2=>{s with a2:=gM s.a2 (HB 1 (n%64))}
 |_=>{s with a3:=gM s.a3 (HB 1 (n%64))}
theorem W0(s:ON)(h:n<256):jg prog gl 73 [.ref 0 0,iG (n:Int)] [(0,oA s)] 1 (.tup []) [(0,oA (yt s n))] 1:=by
 have hm:u9 (n:Int) 64=some ((n%64:Nat):Int):=by grind [u9]
 have hcn:wJ ((n%64:Nat):Int)=some (n%64):=by grind [wJ]
 have hq:∀q:Nat,n/64=q->Gg (n:Int) 64=some (q:Int):=by grind [Gg,Mx]
 refine pP func73 ?_;have h4:n/64=0\/n/64=1\/n/64=2\/n/64=3:=aa;rcases h4 with e|e|e|e
 .rw[show yt s n={s with a0:=gM s.a0 (HB 1 (n%64))} by grind [yt]];exact Hf .normal (s0 16 gl [] [(0,oA {s with a0:=gM s.a0 (HB 1 (n%64))})] 1 1) [] [hbb 6 (Tt (hq 0 e)),hbb 11 (KO hm),hV 12 (sM (P:=prog) (t:=23) 1 hcn),hV 13 (jc (P:=prog) (t:=23) s.a0 (HB 1 (n%64)))] []
 .rw[show yt s n={s with a1:=gM s.a1 (HB 1 (n%64))} by grind [yt]];exact Hf .normal (s0 16 gl [] [(0,oA {s with a1:=gM s.a1 (HB 1 (n%64))})] 1 1) [] [hbb 6 (Tt (hq 1 e)),hbb 11 (KO hm),hV 12 (sM (P:=prog) (t:=23) 1 hcn),hV 13 (jc (P:=prog) (t:=23) s.a1 (HB 1 (n%64)))] []
 .rw[show yt s n={s with a2:=gM s.a2 (HB 1 (n%64))} by grind [yt]];exact Hf .normal (s0 16 gl [] [(0,oA {s with a2:=gM s.a2 (HB 1 (n%64))})] 1 1) [] [hbb 6 (Tt (hq 2 e)),hbb 11 (KO hm),hV 12 (sM (P:=prog) (t:=23) 1 hcn),hV 13 (jc (P:=prog) (t:=23) s.a2 (HB 1 (n%64)))] []
 .rw[show yt s n={s with a3:=gM s.a3 (HB 1 (n%64))} by grind [yt]];exact Hf .normal (s0 16 gl [] [(0,oA {s with a3:=gM s.a3 (HB 1 (n%64))})] 1 1) [] [hbb 6 (Tt (hq 3 e)),hbb 11 (KO hm),hV 12 (sM (P:=prog) (t:=23) 1 hcn),hV 13 (jc (P:=prog) (t:=23) s.a3 (HB 1 (n%64)))] []
theorem OH{σ ρ:Type}{step:σ->Option (σ⊕ρ)}{s:σ}{r:ρ}(h:step s=some (.inr r)):AQ step s=some r:=by grind [AQ,FU,KN]
theorem RF{st:St}{l:Bn}(h:ag st.σ j=some ⟨t,l,none⟩)(k:Nat):Le P st {st with σ:=(j,some ⟨t,l.take k,none⟩)::st.σ}:=by
 rintro cx a w ⟨β,r⟩;have hs:∀i o,ag ((j,some ⟨t,l.take k,none⟩)::st.σ) i=some o->∃c,ag st.σ i=some c/\((i=j/\o=⟨t,l.take k,none⟩/\c=⟨t,l,none⟩)\/o=c):=by grind
 have hs':∀i o,ag st.σ i=some o->∃c,ag ((j,some ⟨t,l.take k,none⟩)::st.σ) i=some c:=by grind
 have hA:Av cx.S0 β ((j,some ⟨t,l.take k,none⟩)::st.σ)=Av cx.S0 β st.σ:=by grind
 refine⟨β,{size:=r.size,defers:=r.defers,loose:=r.loose,rnd:=r.rnd,fr:=λi=>?_,ob:=λi o hi=>?_,inj:=λi d o c b C D h1 h2 h3 h4=>?_,own:=λi o b C h1 h2=>?_,sep:=λi o b C h1 h2=>?_,fresh:=r.fresh,glob:=λg m hl=>?_,keep:=r.keep,old:=r.old,pin:=r.pin}⟩
 .grind
 .show RO P β (Av cx.S0 β ((j,some ⟨t,l.take k,none⟩)::st.σ)) w i o;rw[hA];obtain⟨c,h1,⟨rfl,rfl,rfl⟩|rfl⟩:=hs i o hi
  .rcases r.ob _ _ h1 with⟨e1,e2,e3⟩|⟨b,x,o,e1,_⟩|⟨b,C,cur,e1,e2,e3,e4,e5,e6,e7⟩
   .grind
   .cases e1
   .have e6:l.length<=cur.size:=e6;have e7:∀(j:Nat) (g:G),l[j]?=some g->∃u,cur[j]?=some u/\u.oneCell'=true/\RV β (Av cx.S0 β st.σ) w g u:=e7;refine .inr (.inr ⟨b,C,cur,e1,e2,e3,e4,e5,?_,λx g hg=>e7 x g ?_⟩);all_goals grind
  .exact r.ob _ _ h1
 .obtain⟨e,h1',_⟩:=hs i o h1;obtain⟨f,h2',_⟩:=hs d c h2;grind
 .grind
 all_goals grind
def hcl(c:Nat){P:Bu}{σ:aQ}{t:Bk}{g:G}{i:Nat}{ob:Ob}(h:rF P σ t g=some (i,ob)):HP:=⟨some (.e 999999998 (.tup []) i ob),rF P (UK σ (fR g)) t g=some (i,ob),(Ae0 Hg).symm.trans h⟩
section
variable {P:Bu} [M:Mix P] {st:St} {Q:Exit->St->Prop} {fn:Func} {Bs:List (St->Prop)} {m:Bool} {p:Br}
theorem dSh(j:Nat){l:Bn}(k:Nat)(h:Gp P fn Q Bs m p {st with σ:=(j,some ⟨t,l.take k,none⟩)::st.σ})(hj:ag st.σ j=some ⟨t,l,none⟩:=by rfl):Gp P fn Q Bs m p st:=by
 unfold Gp LE at h⊢;cases m with
 |true=>exact pQ (RF hj k) _ _ h
 |false=>exact Tr.le h (RF hj k)
end
abbrev Lj(g:Az):G:= .clo (.func 161) [] [.ptr [.ptr (Ag g) 0] 0]
def Ajt{α:Type}(l:List α)(i:Int):Option (Int⊕Unit):=bif i<ah l then(aS l i).bind λ_=>some (.inl (wI (i+1)))else some (.inr ())
theorem W3{l:List α}(h:l.length<1000000000):AQ (Ajt l) (wI (0+1))=some ():=by refine T.eq (T.loop (λi=>∃k:Nat,i=((k+1:Nat):Int)/\k<=l.length) (λi=>l.length+2-i.toNat) ⟨0,rfl,aa⟩ (by grind) ?_);rintro i ⟨k,rfl,hk⟩;unfold Ajt;refine .dec (λhh=>?_) λhh=> .some rfl;unfold ah at hh;have ew:wI (((k+1:Nat):Int)+1)=((k+1+1:Nat):Int):=aq aa;refine .bind (.ix aa (x:=l[k+1]) (by grind) (.some ⟨⟨k+1,ew,aa⟩,?_⟩));grind
def zI:List Value:=[.int .i64 0,.int .i64 0,.int .u64 0]
abbrev W4(l:Bb):Bn:=(l.flatMap aj).take 0++(bN zI (l.length*3)).map .lit++(l.flatMap aj).drop (0+l.length*3)
theorem clr{l:Bb}(h:0<l.length):rF prog [ob 0 25 (l.flatMap aj)] 29 (.rsl 0 (0+(0:Int).toNat*3) (l.length-(0:Int).toNat))=some (0,⟨25,W4 l,none⟩):=by have e1:dp prog 29=some 25:=aH;have e2:jj prog 25=some zI:=aH;have e3:bw prog 25=some 3:=aH;have e4:ag [ob 0 25 (l.flatMap aj)] 0=some ⟨25,l.flatMap aj,none⟩:=rfl;show rF prog _ _ (.rsl 0 0 l.length)=_;unfold rF;rw[e1];simp only[e2,e3,e4];rw[BB ⟨rfl,h,Cd,by grind [A3.len,ac],rfl⟩]
theorem RH(l:Bb):∀g∈W4 l,bB g:=by grind [A3.imm,ac,mN]
theorem W5{g:Az}(h:(g.at_.get x).isSome=true):ba prog gl 161 [.agg (aj x),.ptr [.ptr (Ag g) 0] 0] (bG true):=jk gl (by unfold df;rw[h])
theorem aa4(g:Az):Ud prog gl 161 [] [.ptr [.ptr (Ag g) 0] 0] (λx:Ab=>[.agg (aj x)]) (λx:Bool=>bG x) (λx=>df x g):=⟨aH,bf,aY (aG 20 _ aH) bf,λx r h=>jk gl h⟩
theorem ixL{g:Az}{l:Bb}(h:∀x∈l,(g.at_.get x).isSome=true):Y0 l (λx=>df x g)=some (if l.length=0 then-1 else 0):=by
 unfold Y0;cases l with
 |nil=>rfl
 |cons a r=>
  have e:AQ (JX (a::r) (λx=>df x g)) 0=some (.inr 0):=by grind [OH,JX,df,ah,aS]
  rw[e];rfl
theorem TY{g:Az}{l:Bb}(h:∀x∈l,(g.at_.get x).isSome=true)(hl:l.length<1000000000):jg prog gl 160 [.rsl 0 0 l.length,Lj g] [ob 0 25 (l.flatMap aj)] 1 (.rsl 0 0 0) [ob 0 25 []] 1:=by
 refine pP func160 ?_;have hi:=gS gl (aa4 gl g) (ixL h);by_cases h0:l.length=0
 .rw[BB h0] at hi;obtain rfl:=List.length_eq_zero_iff.1 h0;exact Hf .ret (s0 42 gl [(4,.rsl 0 0 0)] [ob 0 25 []] 1 1) [.rsl 0 0 0] [hq 10 [aE aj [],Lj g] [hc (ac.al [])] hi] [hc (rfl:0=0),hc (ac.imm [])]
 .rw[BU h0] at hi;refine pN (λj:Int=>(s0 42 gl [(0,.rsl 0 0 l.length),(1,Lj g),(5,iG 0),(6,iG j)] [ob 0 25 (l.flatMap aj)] 1 1)) 11110122 (W3 (l:=l) hl) [hq 10 [aE aj l,Lj g] [hc (ac.al l)] hi] [hc (el l),hc (aG 20 (Lj g) aH),hc (ac.imm l)] (λB j w hs k5 b=>?_);unfold Ajt at hs;rcases bC hs with⟨b1,hs⟩|⟨b1,hs⟩
  .obtain⟨y,a,hs⟩:=bS hs;obtain rfl:=Bo hs;exact jw [hr 19 b1,AH 24 (ac.ixrZ 0 a),AH 25 (ac.pt0Z aW a),hf 28 (W5 gl (h y (bO (G9 a).2)))] [hc (el l),hc (aG 20 (Lj g) aH),hc (ac.imm l)] (k5 _ rfl)
  .obtain rfl:=Bo hs;refine pO 1111110 (J:=(s0 42 gl [(0,.rsl 0 0 l.length),(5,iG 0)] [ob 0 25 (W4 l)] 1 1)) [hr 19 b1,AH 38 (ac.sufZ 0 (l:=l) (i:=0) (y:=l) rfl),hcl 1 (clr (l:=l) (Nat.pos_of_ne_zero h0))] [hc (el l),hc (RH l)] ?_;refine dSh 0 0 ?_;exact Hf .ret (s0 42 gl [(4,.rsl 0 0 0)] [ob 0 25 []] 1 1) [.rsl 0 0 0] [AH 41 (ac.preZ 0 (l:=l) (i:=0) (y:=[]) rfl)] [hc (rfl:0=0),hc (ac.imm [])]
theorem Zy(l:Bb):∀g∈l.flatMap aj,∃v,g= .lit v:=by grind [aj]
theorem RI{g:Az}{o:Bq}(h:∀x∈o.Past,(g.at_.get x).isSome=true)(hl:o.Past.length<1000000000):iV prog gl 80 [.ptr (Ag g) 0,.agg (aJ o)] 25 0 []:=by
 have hcl:cU o.Past=some o.Past:=by grind [cU,aT]
 refine OW func80 ?_;refine pO [1,0] (s0 10 gl [(2,.ptr [.ptr (Ag g) 0] 0),(3,.ptr (aJ o) 0)] [] 0 0) [] [hc (eB (gs:=[.ptr (Ag g) 0]) aH),hc (eB (gs:=aJ o) aH)] ?_;exact EI [ho 7 [aE aj o.Past] [] (jY gl hcl) (Zy _),tN 9 [0] 1 [ob 0 25 (o.Past.flatMap aj)] [.rsl 0 0 o.Past.length,Lj g] [ob 0 25 []] (TY gl h hl) ⟨⟨rfl,.inr ⟨rfl,ac.imm _⟩⟩,trivial⟩ ⟨⟨rfl,.inr ⟨rfl,ac.imm []⟩⟩,trivial⟩] (ac.imm [])
def hmu(R:Br)(c:Nat){P:Bu}{σ:aQ}{t:Bk}{gm gk g:G}{i:Nat}{ob:Ob}(h:dZ P σ t gm gk g=some (i,ob)):HP:=⟨some (.e 999999998 (.lit undef) i ob),dZ P (UK σ (fR gm)) t gm gk g=some (i,ob),(aba Hg).symm.trans h⟩
abbrev mE(m:I1):oE:=m.es.map λe=>(ga e.1,iG e.2.1,e.2.2)
abbrev gMp(m:I1):G:= .mp ((mE m).map (·.1)) ((mE m).map (·.2.1)) ((mE m).map (·.2.2)) m.clk
abbrev oM(m:I1):Option Ob:=some ⟨131,[],some (.map (mE m) m.clk)⟩
abbrev oG(cs:Mj)(n:Nat)(j:Nat):Option Ob:=some ⟨134,[aE bv cs,.mref 1,.rsl j 0 n],none⟩
abbrev zQ(N:IX):Option Ob:=some ⟨138,N.flatMap d7,none⟩
theorem RJ(m:I1):FM.g ga iG m=gMp m:=by unfold FM.g gMp mE;simp only[Hi];rfl
theorem lkP{m:I1}{k:Ab}{b:Bool}{v:Int}(h1:(m.get k).getD 0=v)(h2:(m.get k).isSome=b):bL prog [(1,oM m)] 131 true (.mref 1) (.agg (aj k))=some (.tup [iG v,bG b]):=by
 subst h1 h2;have hm:(mE m).map (·.1)=(m.es.map (·.1)).map ga:=by rw[Hi,Hi];rfl
 have hz:((prog.info? 3).bind (·.zero)).map db=some (iG 0):=aH;obtain⟨z,hz,hv⟩:=DP.1 hz;unfold bL;rw[show pB prog 131=some (25,3) from by kernel_rfl,show cD (.agg (aj k))=some (ga k) from rfl];dsimp only;rw[show Lw [(1,oM m)] (.mref 1)=some (1,131,mE m,m.clk) from rfl];dsimp only;rw[jt.chk,ax,hm,jt.key];grind [FM.get,fz]
theorem Zz{k:Ab}{v:Int}(h1:(m.get k).getD 0=v):bL prog [(1,oM m)] 131 false (.mref 1) (.agg (aj k))=some (iG v):=by
 subst h1;have hm:(mE m).map (·.1)=(m.es.map (·.1)).map ga:=by rw[Hi,Hi];rfl
 have hz:((prog.info? 3).bind (·.zero)).map db=some (iG 0):=aH;obtain⟨z,hz,hv⟩:=DP.1 hz;unfold bL;rw[show pB prog 131=some (25,3) from by kernel_rfl,show cD (.agg (aj k))=some (ga k) from rfl];dsimp only;rw[show Lw [(1,oM m)] (.mref 1)=some (1,131,mE m,m.clk) from rfl];dsimp only;rw[jt.chk,ax,hm,jt.key];grind [FM.get,fz]
def CW(m:I1)(k:Ab)(n:Int):I1:=⟨m.es++[(k,n,m.clk)],m.clk+1⟩
theorem aa6{k:Ab}(h:m.get k=none)(n:Int):dZ prog [(1,oM m)] 131 (.mref 1) (.agg (aj k)) (iG n)=some (1,⟨131,[],some (.map (mE (CW m k n)) (CW m k n).clk)⟩):=by
 have hm:(mE m).map (·.1)=(m.es.map (·.1)).map ga:=by rw[Hi,Hi];rfl
 unfold dZ;rw[show pB prog 131=some (25,3) from by kernel_rfl,show cD (.agg (aj k))=some (ga k) from rfl,show Lw [(1,oM m)] (.mref 1)=some (1,131,mE m,m.clk) from rfl];dsimp only;rw[jt.chk,ax,hm,jt.key];grind [fz,CW,FM.get]
def hlk(d:Nat){P:Bu}{σ:aQ}{t:Bk}{ok:Bool}{i:Nat}{gk g:G}(h:bL P σ t ok (.mref i) gk=some g):HP:=⟨some (.m d g),bL P σ t ok (.mref i) gk=some g,h⟩
structure AdV (cs:Mj) (m:I1) (N:IX) (o:Bq) (i:Ab) (c:DQ) (kk:Nat):Prop where
 chk:Abe o kk
 sm:Bg o
 cl:pG o=some o
 id:Rs o=some i
 fresh:m.get i=none
 room:N.length<200
 card:hY ⟨cs,m,N⟩ o.By=some (c,true)
 by_:o.By=c.Device
 sig:lq c.Sign (qc o) o.Sig=some true
 create:o.Kind=1->N=[]
 nPast:o.Past.length<1000000000
 par:∀x∈o.Past,∃n:Nat,m.get x=some (n:Int)/\n<200
abbrev z4:ON:=⟨0,0,0,0⟩
def Z6(m:I1)(N:IX)(l:Bb)(s:ON×ON×Int×Int×Int):Option ((ON×ON×Int×Int×Int)⊕(ON×ON×Int×Int)):=
 bif s.2.2.2.2<ah l then(aS l s.2.2.2.2).bind λx=>(aS N ((m.get x).getD 0)).bind λy=>some (.inl (yt s.1 ((m.get x).getD 0).toNat,Rf s.2.1 y.past,Ft s.2.2.1 y.o.At,Ft s.2.2.2.1 (wI (y.level+1)),wI (s.2.2.2.2+1)))else some (.inr (s.1,s.2.1,s.2.2.1,s.2.2.2.1))
def ZA(s t:ON):Nat->ON
 |0=>s
 |1=>⟨bD s.a0 t.a0,s.a1,s.a2,s.a3⟩
 |2=>⟨bD s.a0 t.a0,bD s.a1 t.a1,s.a2,s.a3⟩
 |3=>⟨bD s.a0 t.a0,bD s.a1 t.a1,bD s.a2 t.a2,s.a3⟩
 |_=>⟨bD s.a0 t.a0,bD s.a1 t.a1,bD s.a2 t.a2,bD s.a3 t.a3⟩
def Z7(N:IX)(o:Bq)(A:ON)(s:Int×Bool×Int):Option ((Int×Bool×Int)⊕(Int×Bool)):=
 bif s.2.2<ah N then(aS N s.2.2).bind λy=>bif y.o.By=o.By then(iX A s.2.2).bind λh=>bif h then some (.inl (Ft s.1 y.o.Seq,(bif s.2.1 then true else decide (y.o.Seq=wI (o.Seq-1))),wI (s.2.2+1)))else some (.inl (s.1,s.2.1,wI (s.2.2+1)))else some (.inl (s.1,s.2.1,wI (s.2.2+1)))else some (.inr (s.1,s.2.1))
section
variable {cs:Mj} {m:I1} {N:IX} {o:Bq} {i:Ab} {c:DQ} {kk:Nat}
abbrev Z8(cs:Mj)(m:I1)(N:IX):G:= .ptr [aE bv cs,gMp m,aE d7 N] 0
theorem AdV.card'(h:AdV cs m N o i c kk):ba prog fI 78 [Z8 cs m N,iG o.By] (.tup [.agg (bv c),bG true]):=by have:=uN fI h.card;grind [Ag,RJ]
theorem AdV.lacks'(h:AdV cs m N o i c kk):iV prog fI 80 [Z8 cs m N,.agg (aJ o)] 25 0 []:=by have:=RI fI (g:=⟨cs,m,N⟩) (o:=o) (λx hx=>by obtain⟨n,hn,_⟩:=h.par x hx;show(m.get x).isSome=true;rw[hn];rfl) h.nPast;grind [Ag,RJ]
theorem cf(m:I1):∀e∈mE m,bB e.2.1:=by grind [mN]
abbrev aa7(o:Bq)(a k:Int):Fr:=[(0,.ref 0 0),(3,.ptr (aJ o) 0),(6,.ref 3 0),(11,.ref 4 0),(12,.ref 5 0),(13,iG a),(80,aE aj o.Past),(81,iG (ah o.Past)),(82,iG k)]
abbrev Z9(cs:Mj)(m:I1)(N:IX)(x:Dd)(p b:ON):aQ:=[(0,oG cs N.length 2),(1,oM m),(2,zQ N),(3,OG x),(4,oA p),(5,oA b)]
theorem TZ(x:Dd){n:Nat}(hn:n<256){r:Bool}(h:iX x.past (n:Int)=some r):ba prog fI 68 [.ptr (d7 x) 30,iG (n:Int)] (bG r):=by
 have hm:u9 (n:Int) 64=some ((n%64:Nat):Int):=by grind [u9]
 have hcn:wJ ((n%64:Nat):Int)=some (n%64):=by grind [wJ]
 have hq:∀q:Nat,n/64=q->Gg (n:Int) 64=some (q:Int):=by grind [Gg,Mx]
 have hd:wI (Int.tdiv (n:Int) 64)=((n/64:Nat):Int):=by grind [bM]
 have ht:Int.tmod (n:Int) 64=((n%64:Nat):Int):=by rw[Int.tmod_eq_emod_of_nonneg aa];rfl
 unfold iX at h;rw[hd,ht,hcn] at h;refine Gh func68 ?_;have h4:n/64=0\/n/64=1\/n/64=2\/n/64=3:=aa;rcases h4 with e|e|e|e
 .rw[e] at h;obtain rfl:=Bo h;exact Ar [hbb 7 (Tt (hq 0 e)),hbb 12 (KO hm),hV 13 (Am (P:=prog) (t:=23) x.past.a0 hcn),hV 14 (ju (P:=prog) (t:=23) (Jq x.past.a0 (n%64)) 1)] []
 .rw[e] at h;obtain rfl:=Bo h;exact Ar [hbb 7 (Tt (hq 1 e)),hbb 12 (KO hm),hV 13 (Am (P:=prog) (t:=23) x.past.a1 hcn),hV 14 (ju (P:=prog) (t:=23) (Jq x.past.a1 (n%64)) 1)] []
 .rw[e] at h;obtain rfl:=Bo h;exact Ar [hbb 7 (Tt (hq 2 e)),hbb 12 (KO hm),hV 13 (Am (P:=prog) (t:=23) x.past.a2 hcn),hV 14 (ju (P:=prog) (t:=23) (Jq x.past.a2 (n%64)) 1)] []
 .rw[e] at h;obtain rfl:=Bo h;exact Ar [hbb 7 (Tt (hq 3 e)),hbb 12 (KO hm),hV 13 (Am (P:=prog) (t:=23) x.past.a3 hcn),hV 14 (ju (P:=prog) (t:=23) (Jq x.past.a3 (n%64)) 1)] []
theorem W7(h:AdV cs m N o i c kk){b:ON}{top lev:Int}(h1:AQ (Z6 m N o.Past) (z4,z4,0,1,0)=some (p,b,top,lev))(h2:ZA p b 4=z4)(h3:decide (o.At<top)=false){last:Int}{fol:Bool}(h4:AQ (Z7 N o (Rf b p)) (0,false,0)=some (last,fol))(h5:decide (o.Seq<=last)=false)(h6:1<o.Seq->fol=true):jg prog fI 28 [.ref 0 0,.agg (aJ o)] [(0,oG cs N.length 2),(1,oM m),(2,zQ N)] 3 (iG 0) [(0,oG cs (N++[(⟨o,i,Rf b p,lev⟩:Dd)]).length 3),(1,oM (CW m i N.length)),(3,zQ (N++[⟨o,i,Rf b p,lev⟩]))] 4:=by
 have hro:=h.room;refine pP func28 ?_;refine pO 11111111100 (s0 234 fI [(0,.ref 0 0),(3,.ptr (aJ o) 0),(6,.ref 3 0)] [(0,oG cs N.length 2),(1,oM m),(2,zQ N),(3,OG ⟨o,i,z4,1⟩)] 4 3) [hf 24 (IW h.chk),hf 29 (Ds fI h.cl),hf 31 (TP fI h.sm h.id),hlk 40 (lkP (m:=m) (k:=i) (v:=0) (b:=false) (by rw[h.fresh];rfl) (by rw[h.fresh];rfl)),hr 49 (show decide (200<=(N.length:Int))=false from Dk aa),hq 54 [Z8 cs m N,iG o.By] [hc (cf m),hc (az.al N)] h.card',hf 61 (OD fI h.sm h.by_ h.sig)] [hc (eB (gs:=aJ o) aH),hc (el N),hc (cf m),hc (az.imm N)] ?_;refine Ix 1111111110 (s0 234 fI [(0,.ref 0 0),(3,.ptr (aJ o) 0),(6,.ref 3 0)] [(0,oG cs N.length 2),(1,oM m),(2,zQ N),(3,OG ⟨o,i,z4,1⟩)] 4 3) ?_ λd=>?_;rotate_left
 .by_cases hk1:o.Kind=1
  .have e0:decide (0<(N.length:Int))=false:=by rw[h.create hk1];rfl
   exact yl 1111111110 [hr 65 (C5 hk1),hr 72 e0] [hc (el N),hc (cf m),hc (az.imm N)] d
  .exact yl 1111111110 [hr 65 (Dk hk1)] [hc (el N),hc (cf m),hc (az.imm N)] d
 refine Ix 111111111111101 (s0 234 fI [(0,.ref 0 0),(3,.ptr (aJ o) 0),(6,.ref 3 0),(11,.ref 4 0),(12,.ref 5 0),(13,iG top)] (Z9 cs m N ⟨o,i,z4,lev⟩ p b) 6 3) ?_ λd=>?_;rotate_left
 .refine pN (λs:ON×ON×Int×Int×Int=>(s0 234 fI (aa7 o s.2.2.1 s.2.2.2.2) (Z9 cs m N ⟨o,i,z4,s.2.2.2.1⟩ s.1 s.2.1) 6 3)) 11111111111110122 h1 [ho 76 [Z8 cs m N,.agg (aJ o)] [hc (cf m),hc (az.al N)] h.lacks' (λg hg=>by cases hg)] [hc (el N),hc (cf m),hc (az.imm N)] (λB s w hs k5 j=>?_);unfold Z6 at hs;rcases bC hs with⟨c1,hs⟩|⟨c1,hs⟩
  .obtain⟨x,l,hs⟩:=bS hs;obtain⟨n,q,hn⟩:=h.par x (bO (G9 l).2);have ej:(m.get x).getD 0=(n:Int):=by rw[q];rfl
   rw[ej] at hs;obtain⟨y,a,hs⟩:=bS hs;obtain rfl:=Bo hs;exact jw [hr 83 c1,AH 84 (ac.ixZ l),AH 85 (ac.ptZ aW l),hlk 95 (Zz ej),AH 96 (az.ixrZ 2 a),hlk 102 (Zz ej),tN 103 [4] 7 [(4,oA s.1)] [.ref 4 0,iG (n:Int)] [(0,oA (yt s.1 n))] (W0 fI s.1 aa) ⟨⟨rfl,.inl rfl⟩,trivial⟩ ⟨⟨rfl,.inl rfl⟩,trivial⟩,AH 107 (az.fs0Z aap aaq 30 Cd a),tN 108 [5] 7 [(5,oA s.2.1)] [.ref 5 0,.agg (FSq y.past)] [(0,oA (Rf s.2.1 y.past))] (TX fI s.2.1 y.past) ⟨⟨rfl,.inl rfl⟩,trivial⟩ ⟨⟨rfl,.inl rfl⟩,trivial⟩,AH 114 (az.fd0Z tZ 3 a),AH 121 (az.fd0Z tZ 34 a)] [hc (el N),hc (cf m),hc (az.imm N)] (k5 _ rfl)
  .obtain rfl:=Bo hs;have e:=j _ rfl;simp only[Fq] at e;obtain⟨rfl,rfl,rfl,rfl⟩:=e;exact yl 111111111111101 [hr 83 c1] [hc (el N),hc (cf m),hc (az.imm N)] d
 refine Ix 11111111111111101 (s0 234 fI [(0,.ref 0 0),(3,.ptr (aJ o) 0),(6,.ref 3 0),(11,.ref 4 0),(12,.ref 5 0),(13,iG top),(17,.ref 6 0)] (Z9 cs m N ⟨o,i,z4,lev⟩ p b++[(6,oA z4)]) 7 3) ?_ λd=>?_;rotate_left
 .refine pN (λk:Nat=>(s0 234 fI [(0,.ref 0 0),(3,.ptr (aJ o) 0),(6,.ref 3 0),(11,.ref 4 0),(12,.ref 5 0),(13,iG top),(17,.ref 6 0),(127,iG (k:Int))] (Z9 cs m N ⟨o,i,z4,lev⟩ p b++[(6,oA (ZA p b k))]) 7 3)) 1111111111111110122 Li [] [hc (el N),hc (cf m),hc (az.imm N)] (λB k v hs k5 j=>?_);rcases k with _|_|_|_|k
  .cases hs;exact jw [hV 136 (ju (P:=prog) (t:=23) p.a0 b.a0)] [hc (el N),hc (cf m),hc (az.imm N)] (k5 _ rfl)
  .cases hs;exact jw [hV 136 (ju (P:=prog) (t:=23) p.a1 b.a1)] [hc (el N),hc (cf m),hc (az.imm N)] (k5 _ rfl)
  .cases hs;exact jw [hV 136 (ju (P:=prog) (t:=23) p.a2 b.a2)] [hc (el N),hc (cf m),hc (az.imm N)] (k5 _ rfl)
  .cases hs;exact jw [hV 136 (ju (P:=prog) (t:=23) p.a3 b.a3)] [hc (el N),hc (cf m),hc (az.imm N)] (k5 _ rfl)
  .have e:ZA p b (k+1+1+1+1)=z4:=h2;rw[e];exact yl 11111111111111101 [hr 128 (show decide (((k+1+1+1+1:Nat):Int)<4)=false from Dk aa)] [hc (el N),hc (cf m),hc (az.imm N)] d
 refine Ix 11111111111111111111101 (s0 234 fI [(0,.ref 0 0),(3,.ptr (aJ o) 0),(6,.ref 3 0),(19,iG last),(20,bG fol)] [(0,oG cs N.length 2),(1,oM m),(2,zQ N),(3,OG ⟨o,i,Rf b p,lev⟩)] 4 3) ?_ λd=>?_;rotate_left
 .refine pN (λs:Int×Bool×Int=>(s0 234 fI [(0,.ref 0 0),(3,.ptr (aJ o) 0),(6,.ref 3 0),(19,iG s.1),(20,bG s.2.1),(157,iG (ah N)),(158,iG s.2.2)] [(0,oG cs N.length 2),(1,oM m),(2,zQ N),(3,OG ⟨o,i,Rf b p,lev⟩)] 4 3)) 1111111111111111111110122 h4 [hr 146 h3,tN 152 [3] 7 [(3,OG ⟨o,i,b,lev⟩)] [.ref 3 30,.agg (FSq p)] [(0,OG ⟨o,i,Rf b p,lev⟩)] (RE fI ⟨o,i,b,lev⟩ p) ⟨⟨rfl,.inl rfl⟩,trivial⟩ ⟨⟨rfl,.inl rfl⟩,trivial⟩] [hc (el N),hc (cf m),hc (az.imm N)] (λB s w hs k5 j=>?_);obtain⟨la,r,k⟩:=s;unfold Z7 at hs;dsimp only at hs;rcases bC hs with⟨c1,hs⟩|⟨c1,hs⟩
  .obtain⟨y,a,hs⟩:=bS hs;obtain⟨n,hn⟩:∃n:Nat,k=(n:Int):=⟨k.toNat,by have:=(G9 a).1;omega⟩;rcases bC hs with⟨c2,hs⟩|⟨c2,hs⟩
   .obtain⟨hh,f,hs⟩:=bS hs;rw[hn] at f;have f:=TZ ⟨o,i,Rf b p,lev⟩ (n:=n) (by have:=(cr (G9 a).2).1;omega) f;rw[<-hn] at f;cases hh
    .obtain rfl:=Bo hs;exact jw [hr 159 c1,AH 166 (az.ixrZ 2 a),AH 171 (az.fd0Z tZ 0 a),hr 174 c2,hq 178 [.ptr (d7 ⟨o,i,Rf b p,lev⟩) 30,iG k] [] f] [hc (el N),hc (cf m),hc (az.imm N)] (k5 _ rfl)
    .obtain rfl:=Bo hs;cases r
     .exact jw [hr 159 c1,AH 166 (az.ixrZ 2 a),AH 171 (az.fd0Z tZ 0 a),hr 174 c2,hq 178 [.ptr (d7 ⟨o,i,Rf b p,lev⟩) 30,iG k] [] f,AH 185 (az.fd0Z tZ 1 a),AH 193 (az.fd0Z tZ 1 a),hr 197 (rfl:decide (y.o.Seq=wI (o.Seq-1))=decide (y.o.Seq=wI (o.Seq-1)))] [hc (el N),hc (cf m),hc (az.imm N)] (k5 _ rfl)
     .exact jw [hr 159 c1,AH 166 (az.ixrZ 2 a),AH 171 (az.fd0Z tZ 0 a),hr 174 c2,hq 178 [.ptr (d7 ⟨o,i,Rf b p,lev⟩) 30,iG k] [] f,AH 185 (az.fd0Z tZ 1 a)] [hc (el N),hc (cf m),hc (az.imm N)] (k5 _ rfl)
   .obtain rfl:=Bo hs;exact jw [hr 159 c1,AH 166 (az.ixrZ 2 a),AH 171 (az.fd0Z tZ 0 a),hr 174 c2] [hc (el N),hc (cf m),hc (az.imm N)] (k5 _ rfl)
  .obtain rfl:=Bo hs;have e:=j _ rfl;simp only[Fq] at e;obtain⟨rfl,rfl⟩:=e;exact yl 11111111111111111111101 [hr 159 c1] [hc (el N),hc (cf m),hc (az.imm N)] d
 refine pO 111111111111111111111100 (s0 234 fI [(0,.ref 0 0),(3,.ptr (aJ o) 0),(6,.ref 3 0),(19,iG last),(20,bG fol)] [(0,oG cs N.length 2),(1,oM m),(2,zQ N),(3,OG ⟨o,i,Rf b p,lev⟩)] 4 3) [] [hc (el N),hc (cf m),hc (az.imm N)] ?_;refine Ix 11111111111111111111110 (s0 234 fI [(0,.ref 0 0),(3,.ptr (aJ o) 0),(6,.ref 3 0)] [(0,oG cs N.length 2),(1,oM m),(2,zQ N),(3,OG ⟨o,i,Rf b p,lev⟩)] 4 3) ?_ λd=>?_;rotate_left
 .by_cases hs1:1<o.Seq
  .obtain rfl:=h6 hs1;exact yl 11111111111111111111110 [hr 203 h5,hr 207 (C5 hs1)] [hc (el N),hc (cf m),hc (az.imm N)] d
  .exact yl 11111111111111111111110 [hr 203 h5,hr 207 (Dk hs1)] [hc (el N),hc (cf m),hc (az.imm N)] d
 exact Hf .ret (s0 234 fI [(4,iG 0)] [(0,oG cs (N++[(⟨o,i,Rf b p,lev⟩:Dd)]).length 3),(1,oM (CW m i N.length)),(3,zQ (N++[⟨o,i,Rf b p,lev⟩]))] 4 3) [iG 0] [hmu [1] 4 (aa6 h.fresh N.length),Tn 231 az 392 N ⟨o,i,Rf b p,lev⟩ aa] [hc (el (N++[⟨o,i,Rf b p,lev⟩])),hc (cf (CW m i N.length)),hc (az.imm (N++[⟨o,i,Rf b p,lev⟩]))] (ρ:=rI 3++[(3,5)]) (kd:=[(3,.row)])
end
theorem ZB(l:Mj):∀g∈l.flatMap bv,∃v,g= .lit v:=Gj (λx g hg=>by simp only[bv,EY,LD,or_false] at hg;rcases hg with rfl|rfl|rfl|rfl|rfl<;>exact⟨_,rfl⟩) l
theorem W8{cs:Mj}(h:xf cs):jg prog gl 102 [aE bv cs] [] 0 (.ref 0 0) [(0,oG cs 0 2),(1,oM ⟨[],0⟩),(2,zQ [])] 3:=by
 have hcl:Fk cs=some cs:=by unfold Fk aT;rw[BB (by have:=h.1;simp;omega)];rfl
 refine pP func102 ?_;exact Hf .ret (s0 15 gl [(2,.ref 0 0)] [(0,oG cs 0 2),(1,oM ⟨[],0⟩),(2,zQ [])] 3 0) [.ref 0 0] [ho 5 [aE bv cs] [] (tn gl hcl) (ZB _),hz 13 [0] (wS (i:=0) (c:=3) aH (Lh gl h) (aG 20 _ aH) (bT.imm cs) Cd (by rfl) (w5 (zr wZ)))] [hc (bT.al cs),hc (cf ⟨[],0⟩),hc (az.imm [])]
abbrev frG(r:Ba):Fr:=[(1,.ptr (aI r) 0),(3,.ref 0 0)]
structure Abf (r:Ba) (ms:Nat->I1) (N:IX):Prop where
 srt:xf r.Cards
 sml:r.L.length<=1000
 len:N.length=r.L.length
 m0:ms 0=⟨[],0⟩
 step:∀(k:Nat) (o:Bq),r.L[k]?=some o->jg prog fI 28 [.ref 0 0,.agg (aJ o)] [(0,oG r.Cards k 2),(1,oM (ms k)),(2,zQ (N.take k))] 3 (iG 0) [(0,oG r.Cards (k+1) 3),(1,oM (ms (k+1))),(3,zQ (N.take (k+1)))] 4
def Aju(n k:Nat):Option (Nat⊕Unit):=if k<n then some (.inl (k+1))else if k=n then some (.inr ())else none
theorem CX(h:n<=1000):AQ (Aju n) 0=some ():=T.eq (T.loop (λk=>k<=n) (λk=>n-k) aa aa λk hk=>by
 unfold Aju;split
 .exact .some ⟨aa,aa⟩
 .rw[BB aa];exact .some rfl)
theorem ZC{r:Ba}{ms:Nat->I1}{N:IX}(h:Abf r ms N):jg prog fI 36 [.agg (aI r)] [] 0 (.ref 0 0) [(0,oG r.Cards r.L.length 2),(1,oM (ms r.L.length)),(2,zQ (N.take r.L.length))] 3:=by
 have hn:=h.sml;refine pP func36 ?_;refine Ix 111101 (s0 26 fI (frG r) [(0,oG r.Cards r.L.length 2),(1,oM (ms r.L.length)),(2,zQ (N.take r.L.length))] 3 0) ?_ λa=>?_
 .exact Hf .ret (s0 26 fI [(2,.ref 0 0)] [(0,oG r.Cards r.L.length 2),(1,oM (ms r.L.length)),(2,zQ (N.take r.L.length))] 3 0) [.ref 0 0] [] [hc (rfl:r.L.length=r.L.length),hc (cf (ms r.L.length)),hc (az.imm (N.take r.L.length))]
 have hw:jg prog fI 102 [aE bv r.Cards] [] 0 (.ref 0 0) [(0,oG r.Cards 0 2),(1,oM (ms 0)),(2,zQ [])] 3:=by rw[h.m0];exact W8 fI h.srt
 refine pN (λk:Nat=>(s0 26 fI [(1,.ptr (aI r) 0),(3,.ref 0 0),(4,iG (k:Int))] [(0,oG r.Cards k 2),(1,oM (ms k)),(2,zQ (N.take k))] 3 0)) 11110122 (CX hn) [tN 7 [] 1 [] [aE bv r.Cards] [ob 0 134 [aE bv r.Cards,.mref 2,.rsl 3 0 0],(1,oM (ms 0)),(2,zQ [])] hw trivial ⟨⟨rfl,.inl rfl⟩,⟨rfl,rfl,rfl,rfl,.inr ⟨rfl,cf _⟩⟩,⟨rfl,.inr ⟨rfl,az.imm []⟩⟩,trivial⟩] [hc (eB (gs:=aI r) aH),hc (rfl:0=0),hc (cf (ms 0)),hc (az.imm [])] (λB k v hs k5 b=>?_) [] [(0,1),(1,2),(2,3)] [(2,.row)];unfold Aju at hs;split at hs
 .rename_i hk;obtain rfl:=Bo hs;obtain⟨o,ho⟩:∃o,r.L[k]?=some o:=⟨_,EA hk⟩;have hz:aS r.L (k:Int)=some o:=by rw[au];exact ho
  exact jw [hr 14 (show decide ((k:Int)<(r.L.length:Int))=true from C5 aa),AH 21 (eJ.ixZ hz),AH 22 (eJ.ptZ GN hz),tN 23 [0,1,2] 3 [(0,oG r.Cards k 2),(1,oM (ms k)),(2,zQ (N.take k))] [.ref 0 0,.agg (aJ o)] [(0,oG r.Cards (k+1) 3),(1,oM (ms (k+1))),(2,none),(3,zQ (N.take (k+1)))] (h.step k o ho) ⟨⟨rfl,.inl rfl⟩,⟨rfl,rfl,rfl,rfl,.inr ⟨rfl,cf _⟩⟩,⟨rfl,.inr ⟨rfl,az.imm _⟩⟩,trivial⟩ ⟨⟨rfl,.inl rfl⟩,⟨rfl,rfl,rfl,rfl,.inr ⟨rfl,cf _⟩⟩,⟨rfl,.inr ⟨rfl,az.imm _⟩⟩,trivial⟩,hbb 16 (Xl (q:=k) aa)] [hc (rfl:k+1=k+1),hc (cf (ms (k+1))),hc (az.imm (N.take (k+1)))] (k5 _ rfl) [] [(0,0),(1,1),(2,3)] [(2,.row)]
 .rename_i hk;split at hs
  .rename_i he;subst he;obtain rfl:=Bo hs;exact yl 111101 [hr 14 (show decide ((r.L.length:Int)<(r.L.length:Int))=false from Dk aa)] [hc (rfl:r.L.length=r.L.length),hc (cf (ms r.L.length)),hc (az.imm (N.take r.L.length))] a [] [(0,0),(1,1),(2,2)] [(2,.row)]
  .cases hs
end
section
variable {α β ρ:Type}
theorem cL{c:Bool}{a b:α}:(bif c then some a else some b)=some (bif c then a else b):=by cases c<;>rfl
theorem T.bindc{x:Option α}{f:α->Option β}{Q:β->Prop}(h:T x λ_=>True)(k:∀v,x= .some v->T (f v) Q):T (x.bind f) Q:=by obtain⟨v,e,_⟩:=h;exact .bind ⟨v,e,k v e⟩
theorem T.for1{step:Int->Option (Int⊕ρ)}{Q:ρ->Prop}(n:Nat)(J:Fs)(hn:n<2305843009213693952)(h0:J 1)(h:∀k,1<=k->k<n->J k->T (step (k:Int)) (Rd (λs'=>s'=((k+1:Nat):Int)/\J (k+1)) Q))(he:∀k,n<=k->k<=n+1->J k->T (step (k:Int)) (Rd (λ_=>False) Q)):T (AQ step 1) Q:=by
 refine T.loop (λs=>∃k:Nat,1<=k/\k<=n+1/\s=(k:Int)/\J k) (λs=>n+1-s.toNat) (by grind) cq ?_;rintro i ⟨k,h1,hk,hik,hj⟩;subst hik;rcases Je k n with hlt|hge
 .refine(h k h1 hlt hj).mono λr hr=>?_;cases r with
  |inl s'=>refine⟨⟨k+1,aa,aa,hr.1,hr.2⟩,?_⟩;rw[hr.1];simp;omega
  |inr r=>exact hr
 .refine(he k hge hk hj).mono λr hr=>?_;cases r with
  |inl s'=>exact hr.elim
  |inr r=>exact hr
theorem T.search{step:Int->Option (Int⊕(Unit⊕ρ))}(l:List α)(p:α->Bool)(g:Nat->α->ρ)(hn:l.length<2305843009213693952)(h:∀(k:Nat) (x:α),l[k]?= .some x->k<l.length->step (k:Int)= .some (bif p x then .inr (.inr (g k x))else .inl ((k+1:Nat):Int)))(he:step (l.length:Int)= .some (.inr (.inl ()))):T (AQ step 0) (λr=>(r= .inl ()/\∀x∈l,p x=false)\/∃k x,l[k]?= .some x/\p x=true/\r= .inr (g k x)/\∀(j:Nat) (y:α),j<k->l[j]?= .some y->p y=false):=by
 refine T.forI l.length (λk=>∀(j:Nat) (y:α),j<k->l[j]?= .some y->p y=false) hn (by grind) (λk hk hj=>?_) λhj=>?_
 .have hx:l[k]?= .some (l[k]'hk):=EA hk;rw[h k _ hx hk];refine .some ?_;cases hp:p l[k] with
  |true=>exact .inr ⟨k,_,hx,hp,rfl,hj⟩
  |false=>constructor<;>grind
 .rw[he];refine .some (.inl ⟨rfl,λx hx=>?_⟩);grind [GL]
end
theorem gT(n a b:Int):fB n a b=some (decide (a<=n/\n<=b)):=by grind [fB]
theorem Cq(n:Nat):AL n=some (decide (n<2305843009213693951)):=by unfold AL;congr 2;grind
def l7(i:Ab):Bool:=decide (1<=i.By/\i.By<=12/\1<=i.Seq/\i.Seq<=2147483647/\i.Sum<2305843009213693951)
def Cr(n:Nat):Bool:=decide (1<=n/\n<2305843009213693951)
theorem mY(i:Ab):iM i=some (l7 i):=by grind [iM,l7,gT,Cq]
theorem kS(n:Nat):Ja n=some (Cr n):=by grind [Ja,Cr]
def yZ(b:Ha):Bool:=Cr b.To&&Cr b.Eph&&decide (b.Body<2305843009213693951)&&decide (b.Tag<2305843009213693951)
theorem Cs{l:List Ha}(hn:l.length<=1000000):T (qw l) λb=>b=l.all yZ:=by
 unfold qw;refine .bind ((T.search l (λb=> !yZ b) (λ_ _=>false) aa (λk x hx hk=>?_) ?_).mono ?_)
 .unfold qv;rw[eA hk,ax,au,hx];simp only[aL,kS,Cq];grind [yZ,aq]
 .unfold qv;rw[eF,Be]
 .rintro r (⟨rfl,h⟩|⟨k,x,hx,hp,rfl,_⟩)
  .refine .some (Eq.symm (GK.2 λx hx=>?_));have:=h x hx;simpa using this
  .refine .some (Eq.symm (Bool.eq_false_iff.2 λh=>?_));have:=GK.1 h x (bO hx);rw[this] at hp;cases hp
theorem Ip{p:α->Bool}{step:Int->Option (Int⊕(Unit⊕Bool))}{next:Unit->Fl}{rest:Bool}(l:List α)(hl:l.length<=1000000)(h:∀(k:Nat) (x:α),l[k]?=some x->x∈l->k<l.length->step (k:Int)=some (bif p x then .inl ((k+1:Nat):Int)else .inr (.inr false)))(he:step (l.length:Int)=some (.inr (.inl ())))(hn:T (next ()) λb=>b=rest):T ((AQ step 0).bind λx=>ma x next (λq=>some q)) λb=>b=(l.all p&&rest):=by
 refine .bind ((T.search l (λx=> !p x) (λ_ _=>false) aa (λk x hx hk=>?_) he).mono ?_)
 .grind
 .rintro r (⟨rfl,hr⟩|⟨k,x,hx,hp,rfl,_⟩)
  .have:l.all p=true:=by grind
   rw[this,Bool.true_and];exact hn
  .have:l.all p=false:=by grind
   rw[this,Bool.false_and];exact .some rfl
theorem Mq{p:α->Bool}{step:Int->Option (Int⊕(Unit⊕Bool))}{next:Unit->Fl}{rest:Bool}(l:List α)(hl:l.length<=1000000)(h:∀(k:Nat) (x:α),l[k]?=some x->x∈l->k<l.length->step (k:Int)=some (bif p x then .inr (.inr true)else .inl ((k+1:Nat):Int)))(he:step (l.length:Int)=some (.inr (.inl ())))(hn:T (next ()) λb=>b=rest):T ((AQ step 0).bind λx=>ma x next (λq=>some q)) λb=>b=(l.any p||rest):=by
 refine .bind ((T.search l p (λ_ _=>true) aa (λk x hx hk=>?_) he).mono ?_)
 .grind
 .rintro r (⟨rfl,hr⟩|⟨k,x,hx,hp,rfl,_⟩)
  .have:l.any p=false:=by grind
   rw[this,Bool.false_or];exact hn
  .have:l.any p=true:=by grind
   rw[this,Bool.true_or];exact .some rfl
def yb(o:Bq):Bool:=o.Guards.all (λz=>decide (1<=z/\z<=12))&&(o.Refs.all (λn=>decide (n<2305843009213693951))&&(o.Past.all l7&&(o.Path.all (λn=>Cr n.Pub&&n.Boxes.all yZ)&&(o.Hist.all (λx=>l7 x.Of)&&o.Boxes.all yZ))))
theorem KA{o:Bq}(h:Bg o):T (vw o) λb=>b=yb o:=by
 have n1:=h.nPast;have n2:=h.nPath;have a:=h.nRefs;have c:=h.nGuards;have d:=h.nHist;have f:=h.nBoxes;unfold vw yb;refine Ip o.Guards aa (λk x hx hm hk=>?_) (by unfold qB;rw[eF,Be]) (Ip o.Refs aa (λk x hx hm hk=>?_) (by unfold qA;rw[eF,Be]) (Ip o.Past aa (λk x hx hm hk=>?_) (by unfold qz;rw[eF,Be]) (Ip o.Path aa (λk x hx hm hk=>?_) (by unfold qy;rw[eF,Be]) (Ip o.Hist aa (λk x hx hm hk=>?_) (by unfold qx;rw[eF,Be]) (by grind [Cs])))))
 .grind [qB,eA,au,aq,gT]
 .grind [qA,eA,au,aq,Cq]
 .grind [qz,eA,au,aq,mY]
 .have e:=(Cs (l:=x.Boxes) (by have:=(h.path x hm).n;omega)).eq;unfold qy;grind [eA,au,aq,kS]
 grind [qx,eA,au,aq,mY]
def Ct(o:Bq):Bool:=o.Path.any (λn=>decide (12<n.Boxes.length))||(o.Hist.any (λn=>decide (208<n.Body.length))||(decide (12<o.Past.length\/5<o.Path.length\/208<o.Body.length\/8<o.Refs.length\/20<o.Hist.length\/6<o.Guards.length)||(if o.Kind=7 then !decide (1<=o.Body.length/\o.Body.length<=20)else if o.Kind=9 then decide (o.Boxes.length≠o.Guards.length)else if o.Kind=10 then !decide (1<=o.Boxes.length/\o.Boxes.length<=6)else if o.Kind=11 then decide (o.Boxes.length≠1)else false)))
theorem Iq(l:List α)(n:Nat):decide ((n:Int)<ah l)=decide (n<l.length):=decide_eq_decide.2 (by unfold ah;omega)
theorem NZ{o:Bq}(h:Bg o):T (z6 o) λb=>b=Ct o:=by
 have n1:=h.nPast;have n2:=h.nPath;have a:=h.nHist;unfold z6 Ct;refine Mq o.Path aa (λk x hx hm hk=>?_) (by unfold tV;rw[eF,Be]) (Mq o.Hist aa (λk x hx hm hk=>?_) (by unfold tU;rw[eF,Be]) ?_)
 .grind [tV,au,aq,ah]
 .grind [tU,au,aq,ah]
 .have a1:decide ((12:Int)<ah o.Past)=decide (12<o.Past.length):=Iq o.Past 12;have a2:decide ((5:Int)<ah o.Path)=decide (5<o.Path.length):=Iq o.Path 5;have a3:decide ((208:Int)<ah o.Body)=decide (208<o.Body.length):=Iq o.Body 208;have a4:decide ((8:Int)<ah o.Refs)=decide (8<o.Refs.length):=Iq o.Refs 8;have a5:decide ((20:Int)<ah o.Hist)=decide (20<o.Hist.length):=Iq o.Hist 20;have a6:decide ((6:Int)<ah o.Guards)=decide (6<o.Guards.length):=Iq o.Guards 6;have b1:decide ((1:Int)<=ah o.Body/\ah o.Body<=20)=decide (1<=o.Body.length/\o.Body.length<=20):=decide_eq_decide.2 (by unfold ah;omega);have b2:decide ((1:Int)<=ah o.Boxes/\ah o.Boxes<=6)=decide (1<=o.Boxes.length/\o.Boxes.length<=6):=decide_eq_decide.2 (by unfold ah;omega);have b3:decide (ah o.Boxes≠ah o.Guards)=decide (o.Boxes.length≠o.Guards.length):=decide_eq_decide.2 (by unfold ah;omega);have b4:decide (ah o.Boxes≠1)=decide (o.Boxes.length≠1):=decide_eq_decide.2 (by unfold ah;omega);rw[a1,a2,a3,a4,a5,a6];simp only[gT,aL,b1,b2,b3,b4,cL];refine⟨_,rfl,?_⟩;grind
def Ac5(o:Bq):Bool:=(mz o).getD false
theorem Cu(o:Bq):mz o=some (Ac5 o):=by
 have:T (mz o) λ_=>True:=by unfold mz;repeat'(first|exact T.some trivial|(refine T.bindc ?_ λv _=>?_)|(refine T.ite (λ_=>?_) λ_=>?_))
 obtain⟨b,e,_⟩:=this;unfold Ac5;rw[e];rfl
def gU(o:Bq):Bool:=(FI o).getD false
theorem jF(o:Bq):FI o=some (gU o):=by
 have:T (FI o) λ_=>True:=by unfold FI;simp only[gT,mY,kS];repeat'(first|exact T.some trivial|(refine T.bindc ?_ λv _=>?_)|(refine T.ite (λ_=>?_) λ_=>?_))
 obtain⟨b,e,_⟩:=this;unfold gU;rw[e];rfl
def dt(a b:Ab):Bool:=if a.By≠b.By then decide (a.By<b.By)else if a.Seq≠b.Seq then decide (a.Seq<b.Seq)else decide (a.Sum<b.Sum)
theorem pJ(a b:Ab):oU a b=some (dt a b):=by unfold oU dt;rw[show decide ((a.Sum:Int)<(b.Sum:Int))=decide (a.Sum<b.Sum) from decide_eq_decide.2 aa];grind
structure FF (o:Bq):Prop where
 kind:1<=o.Kind/\o.Kind<=13
 bare:Ac5 o=true
 numbers:gU o=true
 items:yb o=true
 long:Ct o=false
 past:∀(k:Nat) (a b:Ab),o.Past[k]?=some a->o.Past[k+1]?=some b->dt a b=true
 guards:∀(k:Nat) (a b:Int),o.Guards[k]?=some a->o.Guards[k+1]?=some b->a<b
 create:o.Past=[]↔o.Kind=1
theorem F7(h:1<=k)(h2:k<2305843009213693952):wI ((k:Int)-1)=((k-1:Nat):Int):=by grind [bM]
theorem Cv{o:Bq}(h:Bg o):T (qE o) λe=>e=0->FF o:=by
 have n1:=h.nPast;have f:=h.nGuards;unfold qE;rw[cL,aL];refine .ite (by grind [T.some]) λhk=>?_;rw[Cu,aL];refine .ite (by grind [T.some]) λhb=>?_;rw[jF,aL];refine .then (v:= !(gU o)|| !(yb o)) ?_ ?_
 .cases hn:gU o with
  |false=>exact .some rfl
  |true=>exact .then (KA h) (.some aC)
 refine .ite (by grind [T.some]) λhn=>?_;refine .then (NZ h) (.ite (by grind [T.some]) λhl=>?_);refine .bind (T.for1 o.Past.length (λk=>∀(j:Nat) (a b:Ab),j+1<k->o.Past[j]?=some a->o.Past[j+1]?=some b->dt a b=true) aa (by grind) (λk h1 hk hj=>?_) λk hge _ hj=>?_)
 .obtain⟨a0,e0⟩:∃a0,o.Past[k-1]?=some a0:=⟨_,EA aa⟩;obtain⟨a1,e1⟩:∃a1,o.Past[k]?=some a1:=⟨_,EA hk⟩;unfold qD;rw[eA hk,ax,F7 h1 aa,au,au,e0,e1,aq aa];simp only[aL,pJ];refine .ite (λ_=> .some (.some (by grind))) λc=> .some ⟨rfl,λj a b d ha hb'=>?_⟩;grind
 unfold qD;rw[show decide ((k:Int)<ah o.Past)=false from Dk (by unfold ah;omega),Be];refine .some ?_;have hpast:∀(j:Nat) (a b:Ab),o.Past[j]?=some a->o.Past[j+1]?=some b->dt a b=true:=by grind
 clear hj;refine .bind (T.for1 o.Guards.length (λk=>∀(j:Nat) (a b:Int),j+1<k->o.Guards[j]?=some a->o.Guards[j+1]?=some b->a<b) aa (by grind) (λk h1 hk hj=>?_) λk hge _ hj=>?_)
 .obtain⟨a0,e0⟩:∃a0,o.Guards[k-1]?=some a0:=⟨_,EA aa⟩;obtain⟨a1,e1⟩:∃a1,o.Guards[k]?=some a1:=⟨_,EA hk⟩;unfold qC;rw[eA hk,ax,F7 h1 aa,au,au,e0,e1,aq aa];simp only[aL];refine .dec (λ_=> .some (.some (by grind))) λc=> .some ⟨rfl,λj a b d ha hb'=>?_⟩;grind
 unfold qC;rw[show decide ((k:Int)<ah o.Guards)=false from Dk (by unfold ah;omega),Be];refine .some ?_;have hguards:∀(j:Nat) (a b:Int),o.Guards[j]?=some a->o.Guards[j+1]?=some b->a<b:=λj a b ha hb'=>hj j a b (by grind) ha hb';rw[cL,cL,cL,aL];refine .ite (by grind [T.some]) λhc=> .some λ_=>⟨?_,?_,?_,?_,hl,hpast,hguards,?_⟩
 .grind
 .simpa using hb
 .grind
 .grind
 .have e:ah o.Past=0↔o.Past=[]:=by unfold ah;simp_all
  grind
theorem uW{x:Option α}{Q:α->Prop}(h:T x Q):T x λ_=>True:=h.mono (by grind)
theorem KB{p:Nat}{b:CY}{s:Ya}(hp:fS p)(hS:fS s.S)(hb:b.length<=1073741824):T (jJ p b s) λ_=>True:=by
 unfold jJ;have e:fV=some 2305843009213693950:=rfl;simp only[e,aL];refine .bindc ?_ λj _=>?_
 .grind [T.some]
 .refine .ite (λ_=> .some trivial) λ_=>?_;refine .bind ((ka _ hS).mono (by grind [T.bind,T.mono,QE,ka,wL,T.some]))
section
variable {K:Type} [DecidableEq K]
theorem gb{k:K}:∀{l:List K} {n:Nat},bu k l=some n->l[n]?=some k/\∀j,j<n->l[j]?≠some k
 |[],n,h=>by cases h
 |x::r,n,h=>by
  unfold bu at h;split at h
  .grind
  .rename_i e;rw[DP] at h;obtain⟨a,h',rfl⟩:=h;obtain⟨h1,h2⟩:=gb h';grind
theorem jv{k:K}:∀{l:List K},bu k l=none↔k∉l
 |[]=>by simp[bu]
 |x::r=>by
  unfold bu;by_cases h:k=x
  .simp[h]
  .simp[h,jv (l:=r)]
theorem y0{k:K}{l:List K}(h:l[n]?=some k)(h2:∀j,j<n->l[j]?≠some k):bu k l=some n:=by
 cases hk:bu k l with
 |none=>grind [jv]
 |some m=>obtain⟨h3,h4⟩:=gb hk;grind
end
def gO(g:Ba)(id:Ab):Int:=match bu id g.IDs with
 |none=> -1
 |some k=>(k:Int)
theorem dC(hn:g.IDs.length<=1000000)(id:Ab):fC g id=some (gO g id):=by
 unfold fC;refine T.eq (.bind ((T.search g.IDs (λx=>decide (x=id)) (λk _=>(k:Int)) aa (λk x hx hk=>?_) ?_).mono ?_))
 .grind [qF,eA,au,aq]
 .grind [qF,eF]
 .rintro r (⟨rfl,h⟩|⟨k,x,hx,hp,rfl,h⟩)
  .have:bu id g.IDs=none:=by grind [jv]
   refine .some ?_;grind [gO]
  .have hp:=DS hp;subst hp;have:bu x g.IDs=some k:=by grind [y0]
   refine .some ?_;grind [gO]
def UW:DQ:=⟨0,0,0,0,0⟩
def mZ(g:Ba)(d:Int):DQ×Bool:=match g.Cards.find? (λc=>decide (c.Device=d)) with
 |none=>(UW,false)
 |some c=>(c,true)
theorem Cw(hn:g.Cards.length<=1000000)(d:Int):vz g d=some (mZ g d):=by
 unfold vz;refine T.eq (.bind (T.forA g.Cards.length (λk acc=>acc=UW/\∀(j:Nat) (c:DQ),j<k->g.Cards[j]?=some c->c.Device≠d) aa ⟨rfl,(by grind)⟩ (λk acc hk hj=>?_) λacc hj=>?_))
 .obtain⟨c,hc⟩:∃c,g.Cards[k]?=some c:=⟨_,EA hk⟩;unfold tX;dsimp only;rw[eA hk,ax,au,hc,aL];refine .dec (λh=>?_) λh=> .some ⟨aq aa,hj.1,λj c' a b=>?_⟩
  .refine .some (.some ?_);grind [mZ,List.find?_eq_some_iff_getElem]
  grind
 .unfold tX;dsimp only;rw[eF,Be];refine .some (.some ?_);unfold mZ;have:g.Cards.find? (λc=>decide (c.Device=d))=none:=by grind [GL]
  rw[this];rfl
def QF(l:Bp)(n:Int):Bool:=l.any λx=>decide (x=n)
theorem cX{l:Bp}(hn:l.length<=1000000)(n:Int):fb l n=some (QF l n):=by unfold fb QF;refine T.eq ((Mq l hn (rest:=false) (next:=λ_=>some false) (λk x hx hm hk=>?_) ?_ (.some rfl)).mono λv hv=>by simpa using hv);all_goals grind [xq,eA,au,aq,eF]
def nA(l:Bb)(n:Ab):Bool:=l.any λx=>decide (x=n)
theorem kf{l:Bb}(hn:l.length<=1000000)(n:Ab):jL l n=some (nA l n):=by unfold jL nA;refine T.eq ((Mq l hn (rest:=false) (next:=λ_=>some false) (λk x hx hm hk=>?_) ?_ (.some rfl)).mono λv hv=>by simpa using hv);all_goals grind [qJ,eA,au,aq,eF]
def Re(g:Ba)(i k:Nat):Bool:=((g.In[i]?).bind λr=>r[k]?).getD false
structure GR (g:Ba):Prop where
 nL:g.L.length<=200
 nI:g.IDs.length=g.L.length
 nU:g.Up.length=g.L.length
 nN:g.In.length=g.L.length
 nC:g.Cards.length<=1000
 cards:∀c∈g.Cards,c8 c.Device/\c8 c.Member/\fS c.Sign
 up:∀(i:Nat) (u:Bp),g.Up[i]?=some u->u.length<=12/\∀x∈u,0<=x/\x<(i:Int)
 rows:∀(i:Nat) (r:List Bool),g.In[i]?=some r->r.length=g.L.length
 inlt:∀i k,Re g i k=true->k<i/\i<g.L.length
 ops:∀(i:Nat) (o:Bq),g.L[i]?=some o->Bg o/\FF o/\fS o.Sig.S
 ids:∀(i:Nat) (o:Bq) (id:Ab),g.L[i]?=some o->g.IDs[i]?=some id->pV o=some id
 nd:g.IDs.Nodup
 one:∀(i k:Nat) (u:Bp),g.Up[i]?=some u->(k:Int)∈u->Re g i k=true
 tr:∀(i j k:Nat) (u:Bp),Re g i j=true->g.Up[j]?=some u->(k:Int)∈u->Re g i k=true
 la:∀(i k:Nat),Re g i k=true->∃u,g.Up[i]?=some u/\((k:Int)∈u\/∃j v,Re g i j=true/\g.Up[j]?=some v/\(k:Int)∈v)
def Hx(g:Ba)(up:Bp)(k:Nat):Prop:=(k:Int)∈up\/∃j:Nat,(j:Int)∈up/\Re g j k=true
theorem yc(w:GR g){up:Bp}(h1:up.length<=1000)(h2:∀x∈up,0<=x/\x<(g.L.length:Int)):T (jA g up) λr=>r.length=g.L.length/\∀k,k<g.L.length->(r[k]?=some true↔Hx g up k):=by
 have nL:=w.nL;unfold jA;refine .bind (.make (by unfold ah;omega) (by unfold ah;omega) (by unfold ah;omega) ?_);have e0:wI (ah g.L-1)=(g.L.length:Int)-1:=bM (by unfold ah;omega) (by unfold ah;omega);rw[e0];have e1:(ah g.L).toNat=g.L.length:=by unfold ah;omega
 rw[e1];refine .bind (T.loop (λs=> -1<=s.2/\s.2<g.L.length/\s.1.length=g.L.length/\(∀k:Nat,k<g.L.length->s.2<k->(s.1[k]?=some true↔Hx g up k))/\∀k:Nat,(k:Int)<=s.2->(s.1[k]?=some true↔∃j v,s.2<(j:Nat)/\Hx g up j/\j<g.L.length/\g.Up[j]?=some v/\(k:Int)∈v)) (λs=>(s.2+1).toNat) ⟨by simp only;omega,by simp only;omega,aC,λk hk hi=>by simp only at hi;omega,λk hk=>?_⟩ (by grind) ?_)
 .simp only at hk⊢;constructor
  .intro h;rw[List.getElem?_replicate] at h;split at h<;>cases h
  .rintro⟨j,v,hj,_,hjl,_⟩;omega
 rintro⟨r,i⟩ ⟨p,i1,f,l,a⟩;simp only at p i1 f l a;unfold AJ;dsimp only;refine .dec (λhi=>?_) λhi=> .some (.some ⟨f,λk hk=>l k hk aa⟩);obtain⟨n,rfl⟩:∃n:Nat,i=(n:Int):=⟨i.toNat,aa⟩;have hn:n<g.L.length:=aa;rw[cX aa,aL];have hUp:∃u,g.Up[n]?=some u:=⟨_,EA (by rw[w.nU];exact hn)⟩;obtain⟨u,hu⟩:=hUp;obtain⟨u1,o⟩:=w.up n u hu;have hbeh:∀k,Hx g up k↔((k:Int)∈up\/∃j v,Hx g up j/\g.Up[j]?=some v/\(k:Int)∈v):=λk=>by
  constructor
  .rintro(h|⟨j,hj,c⟩)
   .exact .inl h
   .obtain⟨v,hv,hk|⟨m,v',h3,h4,h5⟩⟩:=w.la j k c
    .exact .inr ⟨j,v,.inl hj,hv,hk⟩
    .exact .inr ⟨m,v',.inr ⟨j,hj,h3⟩,h4,h5⟩
  .rintro(h|⟨j,v,hj|⟨m,hm,d⟩,hv,hk⟩)
   .exact .inl h
   .exact .inr ⟨j,hj,w.one j k v hv hk⟩
   .exact .inr ⟨m,hm,w.tr m j k v d hv hk⟩
 have hlt:∀(j:Nat) (v:Bp) (k:Nat),g.Up[j]?=some v->(k:Int)∈v->k<j:=λj v k hv hk=>by have:=(w.up j v hv).2 _ hk;omega
 refine .bind (T.mono (Q:=λs=>s.length=g.L.length/\(∀k:Nat,k≠n->s[k]?=r[k]?)/\(s[n]?=some true↔Hx g up n)) ?_ ?_)
 .have key:(r[n]?=some true\/(n:Int)∈up)↔Hx g up n:=by grind [GR.nU]
  refine .ite (λhh=>?_) λhh=>?_
  .have hm:(n:Int)∈up:=by obtain⟨x,hx,hb⟩:=List.any_eq_true.1 hh;grind
   grind [T.set,Fu]
  grind [QF,T.some]
 .rintro s ⟨s1,s2,s3⟩;obtain⟨b,hb⟩:∃b,s[n]?=some b:=⟨_,EA aa⟩;rw[au,hb,aL];have ew:wI ((n:Int)-1)=(n:Int)-1:=bM aa aa;refine .ite (λhbt=>?_) λhbf=>?_
  .have hbt:b=true:=hbt;subst hbt;have hbn:=s3.1 hb;refine .bind (T.mono (Q:=λt=>t.length=g.L.length/\∀k:Nat,t[k]?=some true↔(s[k]?=some true\/(k:Int)∈u)) (T.forA u.length (λm t=>t.length=g.L.length/\∀k:Nat,t[k]?=some true↔(s[k]?=some true\/∃j,j<m/\u[j]?=some (k:Int))) aa ⟨s1,λk=>aC⟩ (λm t hm hj=>?_) λt hj=>?_) ?_)
   .obtain⟨x,hx⟩:∃x,u[m]?=some x:=⟨_,EA hm⟩;have e:=o x (bO hx);unfold tT;dsimp only;rw[au,hu,aL,eA hm,ax,aL,au,hx,aL];refine .bind (.set e.1 (by grind) (.some ⟨aq aa,by grind,λk=>?_⟩));obtain⟨y,rfl⟩:∃y:Nat,x=(y:Int):=⟨x.toNat,aa⟩;simp only[Fu];by_cases hk:k=y
    .grind
    .rw[List.getElem?_set_ne (Ne.symm hk),hj.2 k];grind
   .unfold tT;dsimp only;rw[au,hu,aL,eF,Be];refine .some ⟨hj.1,λk=>?_⟩;rw[hj.2 k];constructor
    .grind
    .rintro(h|h)
     .exact .inl h
     .obtain⟨j,hj'⟩:=GL h;grind
   .rintro t ⟨q,t2⟩;refine .some ⟨⟨?_,?_,q,λk hk hik=>?_,λk hk=>?_⟩,?_⟩
    .grind
    .grind
    .replace hik:wI ((n:Int)-1)<k:=hik;rw[ew] at hik;show t[k]?=some true↔_;rw[t2 k];have hku:(k:Int)∉u:=λh=>by have:=o _ h;omega
     rcases Nat.lt_trichotomy k n with h|rfl|h
     all_goals grind
    .replace hk:(k:Int)<=wI ((n:Int)-1):=hk;rw[ew] at hk;show t[k]?=some true↔∃j v,wI ((n:Int)-1)<(j:Nat)/\_;rw[ew,t2 k,s2 k aa,a k aa];grind
    .show(wI ((n:Int)-1)+1).toNat<_;rw[ew];omega
  .have hbf:b=false:=hbf;subst hbf;have hbn:¬Hx g up n:=λh=>by have:=s3.2 h;rw[hb] at this;cases this
   refine .some ⟨⟨?_,?_,s1,λk hk hik=>?_,λk hk=>?_⟩,?_⟩
   .grind
   .grind
   .grind
   .replace hk:(k:Int)<=wI ((n:Int)-1):=hk;rw[ew] at hk;show s[k]?=some true↔∃j v,wI ((n:Int)-1)<(j:Nat)/\_;rw[ew,s2 k aa,a k aa];grind
   .show(wI ((n:Int)-1)+1).toNat<_;rw[ew];omega
theorem GR.op{g:Ba}(w:GR g){i:Nat}(h:i<g.L.length):∃o,g.L[i]?=some o/\Bg o/\FF o:=by obtain⟨o,ho⟩:∃o,g.L[i]?=some o:=⟨_,EA h⟩;grind [ops]
theorem KC(w:GR g){o:Bq}(hr:r.length=g.L.length):T (lA g o r) λ_=>True:=by
 have nL:=w.nL;unfold lA;refine .bind (T.forA g.L.length (λ_ _=>True) aa trivial (λk b hk _=>?_) λb _=>?_)
 .obtain⟨p,hp,_⟩:=w.op hk;obtain⟨x,hx⟩:∃x,r[k]?=some x:=⟨_,EA aa⟩;unfold jK;dsimp only;rw[eA hk,ax,au,au,hx,hp];simp only[aL];refine .bindc ?_ λj _=> .ite (λ_=> .some ⟨aq aa,trivial⟩) λ_=>?_
  .grind [T.some]
  .refine .ite (λ_=> .some (.some trivial)) λ_=> .bindc ?_ λj _=> .some ⟨aq aa,trivial⟩;grind [T.some]
 .unfold jK;dsimp only;rw[eF,Be];refine .some (.bindc ?_ λj _=> .some trivial);grind [T.some]
structure R0 (g:Ba) (o:Bq) (up:Bp):Prop where
 check:FF o
 id:∃i,pV o=some i/\bu i g.IDs=none
 room:g.L.length<200
 card:∃c,mZ g o.By=(c,true)/\jJ c.Sign (qc o) o.Sig=some true
 create:o.Kind=1->g.L=[]
 upl:up.length=o.Past.length
 par:∀(k:Nat) (i:Ab),o.Past[k]?=some i->∃n:Nat,bu i g.IDs=some n/\up[k]?=some (n:Int)
 upb:∀x∈up,0<=x/\x<(g.L.length:Int)
 apart:∀i k:Nat,(i:Int)∈up->(k:Int)∈up->Re g i k=false
 late:∀(i:Nat) (p:Bq),(i:Int)∈up->g.L[i]?=some p->p.At<=o.At
 right:∃r,jA g up=some r/\lA g o r=some true
theorem pK{o:Bq}(h:Ct o=false):o.Past.length<=12:=by grind [Ct]
theorem yd{d:Int}{c:DQ}(h:mZ g d=(c,true)):c∈g.Cards/\c.Device=d:=by grind [mZ]
theorem wO(h:g.In[i]?=some r):Re g i k=(r[k]?).getD false:=by unfold Re;rw[h];rfl
theorem KD(w:GR g){o:Bq}(ho:Bg o)(hs:fS o.Sig.S):T (vA g o) λr=>r.1=0->R0 g o r.2:=by
 have nL:=w.nL;have nI:=w.nI;have nC:=w.nC;have nP:=ho.nPast;unfold vA;refine .bind ((Cv ho).mono λe he=> .dec (by grind [T.some]) λh=>?_);have hc:FF o:=he (by simpa using h);obtain⟨i,ei,i1,B,C,D⟩:=wN ho;rw[ei,aL,dC aa,aL];refine .dec (by grind [T.some]) λhpl=>?_;have hk:bu i g.IDs=none:=by grind [gO]
 refine .dec (by grind [T.some]) λhroom=>?_;have hroom:g.L.length<200:=by unfold ah at hroom;omega
 rw[Cw aa,aL];refine .ite (by grind [T.some]) λf=>?_;obtain⟨c,hcd⟩:∃c,mZ g o.By=(c,true):=by grind
 rw[hcd];refine .then (uV ho) ?_;refine .bindc (by grind [GR,KB,yd,yY]) λsg hsg=>?_;refine .ite (by grind [T.some]) λl=>?_;have hsg:jJ c.Sign (qc o) o.Sig=some true:=by grind
 rw[cL,aL];refine .ite (by grind [T.some]) λhcr=>?_;have hcr:o.Kind=1->g.L=[]:=λh1=>by rw[C5 h1,ax] at hcr;have:=Mu hcr;unfold ah at this;exact List.eq_nil_of_length_eq_zero aa
 refine .bind (T.forA o.Past.length (λk acc=>acc.length=k/\(∀(j:Nat) (x:Ab),j<k->o.Past[j]?=some x->∃n:Nat,bu x g.IDs=some n/\acc[j]?=some (n:Int))/\∀x∈acc,0<=x/\x<(g.L.length:Int)) aa (by grind) (λk acc hk hj=>?_) λacc hj=>?_)
 .obtain⟨x,hx⟩:∃x,o.Past[k]?=some x:=⟨_,EA hk⟩;unfold qI;dsimp only;rw[eA hk,ax,au,hx,aL,dC aa,aL];refine .dec (λ_=> .some (.some (by grind))) λhp=>?_;have hkx:∃n,bu x g.IDs=some n:=by grind [gO]
  obtain⟨n,hn⟩:=hkx;have ep:gO g x=(n:Int):=by unfold gO;rw[hn]
  have hnl:n<g.L.length:=by have:=(cr (gb hn).1).1;omega
  rw[ep];refine .bind (.app cq (.some (by constructor<;>grind [aq])));all_goals grind
 unfold qI;dsimp only;rw[eF,Be];refine .some ?_;obtain⟨a1,a2,a3⟩:=hj;have hup:∀(k:Nat) (x:Ab),o.Past[k]?=some x->∃n:Nat,bu x g.IDs=some n/\acc[k]?=some (n:Int):=by grind
 clear a2;refine .bind (T.forI acc.length (λk=>(∀(j:Nat) (x y:Nat),j<k->acc[j]?=some (x:Int)->(y:Int)∈acc->Re g x y=false)/\∀(j:Nat) (x:Nat) (p:Bq),j<k->acc[j]?=some (x:Int)->g.L[x]?=some p->p.At<=o.At) aa (by grind) (λk hk hj=>?_) λhj=>?_)
 .obtain⟨x,hx⟩:∃x,acc[k]?=some x:=⟨_,EA hk⟩;have s:=a3 x (bO hx);obtain⟨n,rfl⟩:∃n:Nat,x=(n:Int):=⟨x.toNat,aa⟩;have hnl:n<g.L.length:=aa;obtain⟨r,hr⟩:∃r,g.In[n]?=some r:=⟨_,EA (by rw[w.nN];exact hnl)⟩;obtain⟨p,hp,_⟩:=w.op hnl;unfold qH;rw[eA hk,ax];refine .bind (T.forI acc.length (λm=>∀(j:Nat) (y:Nat),j<m->acc[j]?=some (y:Int)->Re g n y=false) aa (by grind) (λm hm hjm=>?_) λhjm=>?_)
  .obtain⟨y,hy⟩:∃y,acc[m]?=some y:=⟨_,EA hm⟩;have t:=a3 y (bO hy);obtain⟨q,rfl⟩:∃q:Nat,y=(q:Int):=⟨y.toNat,aa⟩;obtain⟨b,hb⟩:∃b,r[q]?=some b:=by grind [GR.rows]
   unfold qG;rw[eA hm,ax,au,hx,aL,au,hr,aL,au,hy,aL,au,hb,aL];refine .ite (λ_=> .some (.some (.some (by grind)))) λhbf=> .some ⟨aq aa,λj z u hz=>?_⟩;rcases Je j m with hlt|hge
   .exact hjm j z hlt hz
   .obtain rfl:j=m:=aa;rw[hy] at hz;obtain rfl:q=z:=by grind
    grind [wO]
  .unfold qG;rw[eF,Be];refine .some ?_;show T (ma _ _ _) _;dsimp only[ma];rw[au,hx,aL,au,hp,aL];refine .dec (λ_=> .some (.some (by grind))) λhat=> .some ⟨aq aa,λj a y d hx' hy=>?_,λj a A d hx' hp'=>?_⟩
   .rcases Je j k with hlt|hge
    .exact hj.1 j a y hlt hx' hy
    .obtain rfl:j=k:=aa;rw[hx] at hx';obtain rfl:n=a:=by grind
     obtain⟨m,hm⟩:=GL hy;grind
   .rcases Je j k with hlt|hge
    .exact hj.2 j a A hlt hx' hp'
    .obtain rfl:j=k:=aa;rw[hx] at hx';obtain rfl:n=a:=by grind
     rw[hp] at hp';cases hp';omega
 unfold qH;rw[eF,Be];refine .some ?_;obtain⟨b1,b2⟩:=hj;obtain⟨r,hr,v,E⟩:=yc w (up:=acc) aa a3;obtain⟨b,hb,_⟩:=KC w (o:=o) v;show T (ma _ _ _) _;dsimp only[ma];rw[hr,aL,hb,aL];refine .ite (by grind [T.some]) λhbt=> .some λ_=>⟨hc,⟨i,ei,hk⟩,hroom,⟨c,hcd,hsg⟩,hcr,a1,hup,a3,λx y hx hy=>?_,λx p hx hp=>?_,⟨r,hr,?_⟩⟩
 .obtain⟨j,hj⟩:=GL hx;grind
 .obtain⟨j,hj⟩:=GL hx;grind
 grind
def pL(g:Ba)(o:Bq)(i:Ab)(up:Bp)(r:List Bool):Ba:=⟨g.Cards,g.L++[o],g.IDs++[i],g.Up++[up],g.In.map (·++[false])++[r++[false]]⟩
theorem je{l:List α}{x y:α}(h:(l++[x])[i]?=some y):(i<l.length/\l[i]?=some y)\/(i=l.length/\y=x):=by grind
theorem Ms{x y:α}(h:l[i]?=some y):(l++[x])[i]?=some y:=by grind
theorem F8{x:α}:(l++[x])[l.length]?=some x:=aC
theorem kU(w:GR g){o:Bq}{id:Ab}{up:Bp}(hr:r.length=g.L.length)(i k:Nat):Re (pL g o id up r) i k=true↔(i<g.L.length/\Re g i k=true)\/(i=g.L.length/\r[k]?=some true):=by
 have nN:=w.nN;have e:(pL g o id up r).In=g.In.map (·++[false])++[r++[false]]:=rfl;have lm:(g.In.map (·++[false])).length=g.L.length:=by rw[GJ,nN]
 have snoc:∀(l:List Bool),((l++[false])[k]?).getD false=true↔l[k]?=some true:=by grind
 rcases Nat.lt_trichotomy i g.L.length with h|h|h
 .obtain⟨row,hrow⟩:∃row,g.In[i]?=some row:=⟨_,EA aa⟩;have h1:(pL g o id up r).In[i]?=some (row++[false]):=by grind
  rw[wO h1,snoc,wO hrow];constructor
  .grind
  .rintro(⟨_,h2⟩|⟨h2,_⟩);all_goals grind
 .grind [wO]
 .have h1:(pL g o id up r).In[i]?=none:=by grind
  grind [Re]
theorem Wc(w:GR g){o:Bq}{up:Bp}(ho:Bg o)(hs:fS o.Sig.S)(a:R0 g o up)(hid:pV o=some id)(hr:r.length=g.L.length)(hb:∀k,k<g.L.length->(r[k]?=some true↔Hx g up k)):GR (pL g o id up r):=by
 have nL:=w.nL;have nI:=w.nI;have nU:=w.nU;have nN:=w.nN;have inr:∀k,r[k]?=some true↔Hx g up k:=λk=>by
  rcases Je k g.L.length with h|h
  .exact hb k h
  .constructor
   .grind
   .rintro(h2|⟨j,h2,h3⟩)
    .have:=(a.upb _ h2).2;omega
    .have:=w.inlt j k h3;omega
 have upAt:∀(j:Nat) (v:Bp),j<g.L.length->((pL g o id up r).Up[j]?=some v↔g.Up[j]?=some v):=λj v hj=>by show(g.Up++[up])[j]?=some v↔_;rw[List.getElem?_append_left aa]
 obtain⟨c,e1,e2⟩:=a.id;rw[hid] at e1;cases e1;exact{
  nL:=by show(g.L++[o]).length<=200;have:=a.room;simp;omega
  nI:=by show(g.IDs++[id]).length=(g.L++[o]).length;simp;omega
  nU:=by show(g.Up++[up]).length=(g.L++[o]).length;simp;omega
  nN:=by show(g.In.map _++[_]).length=(g.L++[o]).length;simp;omega
  nC:=w.nC
  cards:=w.cards
  up:=λi u hu=>by
   rcases je hu with⟨_,h⟩|⟨h,rfl⟩
   .exact w.up i u h
   grind [R0,pK,FF.long]
  rows:=λi row hrow=>by
   show row.length=(g.L++[o]).length;rcases je hrow with⟨_,h⟩|⟨h,rfl⟩
   all_goals grind [GR.rows]
  inlt:=λi k h=>by
   show k<i/\i<(g.L++[o]).length;rcases(kU w hr i k).1 h with⟨h1,h2⟩|⟨h1,h2⟩
   .have:=w.inlt i k h2;simp;omega
   grind
  ops:=λi p hp=>by
   rcases je hp with⟨_,h⟩|⟨h,rfl⟩
   all_goals grind [GR.ops,R0.check]
  ids:=λi p q hp hq=>by
   rcases je hp with⟨h0,h⟩|⟨h,rfl⟩
   .rcases je hq with⟨_,h'⟩|⟨h',_⟩
    all_goals grind [GR.ids]
   .rcases je hq with⟨h',_⟩|⟨_,rfl⟩
    .omega
    .exact hid
  nd:=by show(g.IDs++[id]).Nodup;grind [GR.nd,jv]
  one:=λi k u hu hk=>by
   rw[kU w hr];rcases je hu with⟨h0,h⟩|⟨h,rfl⟩
   .grind [GR.one]
   .exact .inr ⟨aa,(inr k).2 (.inl hk)⟩
  tr:=λi j k v hij hv hk=>by
   rw[kU w hr];rcases(kU w hr i j).1 hij with⟨h1,h2⟩|⟨h1,h2⟩
   .have:=w.inlt i j h2;grind [GR.tr]
   .have hj:=(cr h2).1;have b:=(upAt j v aa).1 hv;refine .inr ⟨h1,(inr k).2 ?_⟩;rcases(inr j).1 h2 with h3|⟨m,h3,h4⟩
    .exact .inr ⟨j,h3,w.one j k v b hk⟩
    .exact .inr (by grind [GR.tr])
  la:=λi k hik=>by
   rcases(kU w hr i k).1 hik with⟨h1,h2⟩|⟨h1,h2⟩
   .grind [GR.la,kU]
   .refine⟨up,by show(g.Up++[up])[i]?=some up;rw[h1,<-nU];exact F8,?_⟩;rcases(inr k).1 h2 with h3|⟨j,h3,h4⟩
    .exact .inl h3
    .obtain⟨v,hv,h5⟩:=w.la j k h4;have hj:=w.inlt j k h4;rcases h5 with h5|⟨m,v',h6,h7,h8⟩
     .exact .inr ⟨j,v,(kU w hr i j).2 (.inr ⟨h1,(inr j).2 (.inl h3)⟩),(upAt j v hj.2).2 hv,h5⟩
     .have hm:=w.inlt j m h6;exact .inr ⟨m,v',(kU w hr i m).2 (.inr ⟨h1,(inr m).2 (.inr ⟨j,h3,h6⟩)⟩),(upAt m v' aa).2 h7,h8⟩}
def Yr(g:Ba)(o:Bq)(r:Ba×Int):Prop:=(r.2≠0/\r.1=g)\/∃id up row,r.2=0/\R0 g o up/\pV o=some id/\jA g up=some row/\r.1=pL g o id up row
theorem QG(w:GR g){o:Bq}(ho:Bg o)(hs:fS o.Sig.S):T (AO g o) λr=>GR r.1/\Yr g o r:=by
 have nL:=w.nL;have nI:=w.nI;have nU:=w.nU;have nN:=w.nN;unfold AO;refine .bind ((KD w ho hs).mono λv hv=> .dec (λh=> .some ⟨w,.inl ⟨h,rfl⟩⟩) λh=>?_);have a:=hv (by simpa using h);have ul:v.2.length<=12:=by rw[a.upl];exact pK a.check.long
 obtain⟨row,hrow,b,c⟩:=yc w (up:=v.2) aa a.upb;obtain⟨id,hid,_⟩:=a.id;rw[hrow,aL];refine .bind (.app cq (.bind (.app cq (.bind (.app cq ?_)))));rw[hid,aL];refine .bind (.app cq (.bind (.app cq (.bind (.app cq ?_)))));refine .then (T.forE g.In [] (λx=>[x++[false]]) 1 aa (λx _=>aC) (λk acc x hx hm hk hl=>?_) λacc=>?_) ?_
 .have:=w.rows k x hx;unfold xr;dsimp only;rw[eA hk,ax,au,hx,aL];refine .bind (.app cq (.bind (.bind (.app cq (.bind (.app (by simp at hl⊢;omega) (.some (.some ⟨aq aa,?_⟩))))))));simp
 .grind [xr,eF]
 .have el:([]:List (List Bool))++g.In.flatMap (λx=>[x++[false]])=g.In.map (·++[false]):=by rw[OS];induction g.In<;>grind
  rw[el];refine .bind (.bind (.app cq (.bind (.app cq (.some (.some ?_))))));have e:(⟨g.Cards,[]++g.L++[o],[]++g.IDs++[id],[]++g.Up++[v.2],g.In.map (·++[false])++[row++[false]]⟩:Ba)=pL g o id v.2 row:=rfl;exact⟨e▸Wc w ho hs a hid b c,.inr (by grind)⟩
theorem Aff{f:α->Fl}(hn:l.length<=1000000)(h:∀x∈l,f x=some false):AQ (λs1:Int=>(bif s1<ah l then((aS l s1).bind λa=>(f a).bind λb=>bif b then(some (.inr (.inr s1)))else(some (.inl (wI (s1+1)))))else(some (.inr (.inl ()))):Option (Int⊕(Unit⊕Int)))) 0=some (.inl ()):=by
 refine T.eq (T.forI (Q:=λv:Unit⊕Int=>v= .inl ()) l.length (λ_=>True) aa trivial (λk hk _=>?_) λ_=>?_)
 .rw[eA hk,ax,au,EA hk,aL,h _ (List.getElem_mem hk),aL,Be];exact .some ⟨aq aa,trivial⟩
 .rw[eF,Be];exact .some rfl
theorem SK{may:α->Fl}(hn:l.length<=1000000)(h:∀x∈l,may x=some true):N9 l may=some true:=by unfold N9 Aa6 Y0;rw[show AQ (JX l (λz=>SF z may)) 0=some (.inl ()) from Aff hn (by grind [SF])];rfl
structure JL (o:Bq):Prop where
 dev:o.Device≠0->o.Kind=2\/o.Kind=3\/o.Kind=11\/o.Kind=13
 old:o.Old≠0->o.Kind=13
 mem:o.Member≠0->o.Kind=3\/o.Kind=5
 role:o.Role≠0->o.Kind=2\/o.Kind=5
 path:0<ah o.Path->E7 o.Kind=some true
 ep:o.Epoch≠⟨0,0,0⟩->o.Kind=6
 n:o.N≠0->o.Kind=6
 refs:0<ah o.Refs->o.Kind=6
 body:0<ah o.Body->o.Kind=6\/o.Kind=7
 of_:o.Of≠⟨0,0,0⟩->o.Kind=7\/o.Kind=8\/o.Kind=12\/o.Kind=10\/o.Kind=11\/o.Kind=13
 gu:0<ah o.Guards->o.Kind=9
 wait:o.Wait≠0->o.Kind=9
 pub:o.Pub≠0->o.Kind=9
 need:o.Need≠0->o.Kind=9\/o.Kind=1
 box:0<ah o.Boxes->o.Kind=9\/o.Kind=10\/o.Kind=11
 hist:ah o.Hist≠0->o.Kind=2\/o.Kind=13
theorem ZD{o:Bq}(h:Ac5 o=true):JL o:=by
 have h:mz o=some true:=by rw[Cu,h]
 unfold mz at h;obtain⟨s,e1,h⟩:=bS h;obtain⟨t,e3,h⟩:=bS h;rcases bC h with⟨b3,h⟩|⟨b3,h⟩;· cases h
 obtain⟨u,e6,h⟩:=bS h;rcases bC h with⟨f,h⟩|⟨f,h⟩;· cases h
 obtain⟨w,e,h⟩:=bS h;rcases bC h with⟨g,h⟩|⟨g,h⟩;· cases h
 obtain⟨j12,i,h⟩:=bS h;rcases bC h with⟨a,h⟩|⟨a,h⟩;· cases h
 obtain⟨j,k,h⟩:=bS h;rcases bC h with⟨b,h⟩|⟨b,h⟩;· cases h
 obtain⟨l,m,h⟩:=bS h;rcases bC h with⟨c,h⟩|⟨c,h⟩;· cases h
 obtain⟨n,p,h⟩:=bS h;rcases bC h with⟨d,h⟩|⟨d,h⟩;· cases h
 obtain⟨q,r,h⟩:=bS h;obtain rfl:=Bo h;subst b3 f g a b c d;refine⟨λhd=>?_,λhd=>?_,λhd=>?_,λhd=>?_,λhd=>?_,λhd=>?_,λhd=>?_,λhd=>?_,λhd=>?_,λhd=>?_,λhd=>?_,λhd=>?_,λhd=>?_,λhd=>?_,λhd=>?_,λhd=>?_⟩
 .grind
 .grind
 .refine Classical.byContradiction λhc=>?_;try simp only[not_or] at hc
  simp[hd,hc] at e6
 .refine Classical.byContradiction λhc=>?_;try simp only[not_or] at hc
  simp[hd,hc] at e6
 .rw[C5 hd,ax] at e;obtain⟨v,ev,e⟩:=bS e;grind
 .grind
 .grind
 .grind
 .grind
 .grind
 .grind
 .grind
 .grind
 .grind
 all_goals grind
theorem MU{kk:Nat}:∀{l:List (Nat×Bool)},(∀q∈l,q.2=true->q.1&&&kk=q.1)->La l&&&kk=La l
 |[],_=>by simp[La]
 |q::r,h=>by unfold La;rw[Nat.and_or_distrib_right,MU (l:=r) (by grind)];grind
theorem IY(ha:a<1048576)(hb:b<1048576)(h:a&&&b=a):wH (a:Int) (b:Int)=0:=by
 unfold wH;have e:BitVec.ofInt IntKind.i64.bits (a:Int)&&&BitVec.ofInt IntKind.i64.bits (b:Int)=BitVec.ofInt IntKind.i64.bits (a:Int):=by grind
 have e2:BitVec.ofInt IntKind.i64.bits (a:Int)&&& ~~~BitVec.ofInt IntKind.i64.bits (b:Int)=0:=by grind
 rw[e2];rfl
theorem Hb{n a b:Int}(h:a<=n/\n<=b):xj n a b=true:=by grind [xj]
theorem kW{i:Ab}(h:l7 i=true):Rz i=true:=by have h:=DS h;unfold Rz WV;grind [Hb]
theorem GC(h:Cr n=true):Z5 n=true:=by have h:=DS h;grind [Z5]
theorem Vl{a:Bool}{x:Fl}:((bif a then x else some false)=some true)↔(a=true/\x=some true):=by cases a<;>simp
structure On (o:Bq):Prop where
 by_:1<=o.By/\o.By<=12
 seq:1<=o.Seq/\o.Seq<=2147483647
 at_:0<=o.At/\o.At<=2147483647
 k1:o.Kind=1->0<=o.Need/\o.Need<=20
 k2:o.Kind=2->(1<=o.Device/\o.Device<=12)/\1<=o.Role/\o.Role<=3
 k3:o.Kind=3->((1<=o.Device/\o.Device<=12)/\o.Member=0)\/(o.Device=0/\1<=o.Member/\o.Member<=8)
 k5:o.Kind=5->(1<=o.Member/\o.Member<=8)/\1<=o.Role/\o.Role<=3
 k6:o.Kind=6->l7 o.Epoch=true/\0<=o.N/\o.N<=2147483647
 k9:o.Kind=9->(1<=o.Need/\o.Need<=ah o.Guards)/\(0<=o.Wait/\o.Wait<=2147483647)/\Cr o.Pub=true
 k11:o.Kind=11->l7 o.Of=true/\1<=o.Device/\o.Device<=12
 k13:o.Kind=13->l7 o.Of=true/\(1<=o.Device/\o.Device<=12)/\1<=o.Old/\o.Old<=12
 kr:o.Kind=7\/o.Kind=8\/o.Kind=10\/o.Kind=12->l7 o.Of=true
theorem T1{o:Bq}(h:gU o=true):On o:=by
 have h:FI o=some true:=by rw[jF,h]
 unfold FI at h;obtain⟨a,e3,h⟩:=bS h;rcases bC h with⟨b3,h⟩|⟨b3,h⟩;· cases h
 subst b3;rw[gT,gT,gT,aL,aL,aL] at e3;simp only[gT,mY,show Ja o.Pub=some (Cr o.Pub) from kS o.Pub,aL] at h;have e1:1<=o.By/\o.By<=12:=by grind
 have e2:1<=o.Seq/\o.Seq<=2147483647:=by grind
 have e4:0<=o.At/\o.At<=2147483647:=by grind
 refine⟨e1,e2,e4,λhk=>?_,λhk=>?_,λhk=>?_,λhk=>?_,λhk=>?_,λhk=>?_,λhk=>?_,λhk=>?_,λhk=>?_⟩
 .simpa[hk,Vl] using h
 .simpa[hk,Vl] using h
 .grind
 .simpa[hk,Vl] using h
 .simpa[hk,Vl] using h
 .simpa[hk,Vl] using h
 .simpa[hk,Vl] using h
 .simpa[hk,Vl] using h
 .rcases hk with hk|hk|hk|hk<;>simpa[hk,Vl] using h
def pT(K:Int):Nat:=(nG.getD K.toNat 0).toNat
theorem vj:pT 1=2064:=Cd
theorem kk2:pT 2=32793:=Cd
theorem zS:pT 3=21:=Cd
theorem yu:pT 4=16:=Cd
theorem zT:pT 5=12:=Cd
theorem zU:pT 6=480:=Cd
theorem zt:pT 7=640:=Cd
theorem zu:pT 8=512:=Cd
theorem Aw:pT 9=31744:=Cd
theorem ki:pT 10=8704:=Cd
theorem kC:pT 11=8705:=Cd
theorem km:pT 12=512:=Cd
theorem kX:pT 13=33299:=Cd
theorem ic(h:1<=K/\K<=13):K=1\/K=2\/K=3\/K=4\/K=5\/K=6\/K=7\/K=8\/K=9\/K=10\/K=11\/K=12\/K=13:=aa
theorem RK(h:E7 K=some true):K=1\/K=2\/K=3\/K=4\/K=13:=by grind [E7]
theorem W9{o:Bq}(b:JL o):∀q∈rU o,q.2=true->q.1&&&pT o.Kind=q.1:=by
 intro q hq hb;simp only[rU,EY,LD,or_false] at hq;rcases hq with rfl|rfl|rfl|rfl|rfl|rfl|rfl|rfl|rfl|rfl|rfl|rfl|rfl|rfl|rfl|rfl
 .grind [JL.dev,kk2,zS,kC,kX]
 .grind [JL.old,kX]
 .grind [JL.mem,zS,zT]
 .grind [JL.role,kk2,zT]
 .grind [RK,JL.path,vj,kk2,zS,yu,kX]
 .grind [JL.ep,zU]
 .grind [JL.n,zU]
 .grind [JL.body,zU,zt]
 .grind [JL.refs,zU]
 .grind [JL.of_,zt,zu,ki,kC,km,kX]
 .grind [JL.gu,Aw]
 .grind [JL.need,vj,Aw]
 .grind [JL.wait,Aw]
 .grind [JL.box,Aw,ki,kC]
 all_goals grind [JL.pub,kk2,Aw,kX,JL.hist]
theorem ZE{o:Bq}(f:On o)(a:1<=o.Kind/\o.Kind<=13):∀q∈OC o,pT o.Kind&&&q.1≠0->q.2=true:=by
 intro q hq hne;simp only[OC,EY,LD,or_false] at hq;rcases hq with rfl|rfl|rfl|rfl|rfl|rfl|rfl|rfl|rfl|rfl
 .rcases ic a with hk|hk|hk|hk|hk|hk|hk|hk|hk|hk|hk|hk|hk
  .simp[hk,vj] at hne
  .grind [GH,Hb,On.k2]
  .grind [On,GH,Hb]
  .simp[hk,yu] at hne
  .simp[hk,zT] at hne
  .simp[hk,zU] at hne
  .simp[hk,zt] at hne
  .simp[hk,zu] at hne
  .simp[hk,Aw] at hne
  .simp[hk,ki] at hne
  all_goals grind [On,GH,Hb,km]
 .rcases ic a with hk|hk|hk|hk|hk|hk|hk|hk|hk|hk|hk|hk|hk
  .simp[hk,vj] at hne
  .simp[hk,kk2] at hne
  .simp[hk,zS] at hne
  .simp[hk,yu] at hne
  .simp[hk,zT] at hne
  .simp[hk,zU] at hne
  .simp[hk,zt] at hne
  .simp[hk,zu] at hne
  .simp[hk,Aw] at hne
  .simp[hk,ki] at hne
  all_goals grind [On,kC,km,Hb]
 .rcases ic a with hk|hk|hk|hk|hk|hk|hk|hk|hk|hk|hk|hk|hk
  .simp[hk,vj] at hne
  .simp[hk,kk2] at hne
  .grind [On,GB,Hb]
  .simp[hk,yu] at hne
  .grind [GB,Hb,On.k5]
  .simp[hk,zU] at hne
  .simp[hk,zt] at hne
  all_goals grind [zu,Aw,ki,kC,km,kX]
 .rcases ic a with hk|hk|hk|hk|hk|hk|hk|hk|hk|hk|hk|hk|hk
  .simp[hk,vj] at hne
  .exact Hb (f.k2 hk).2
  .simp[hk,zS] at hne
  .simp[hk,yu] at hne
  .exact Hb (f.k5 hk).2
  .simp[hk,zU] at hne
  .simp[hk,zt] at hne
  all_goals grind [zu,Aw,ki,kC,km,kX]
 .rcases ic a with hk|hk|hk|hk|hk|hk|hk|hk|hk|hk|hk|hk|hk
  .simp[hk,vj] at hne
  .simp[hk,kk2] at hne
  .simp[hk,zS] at hne
  .simp[hk,yu] at hne
  .simp[hk,zT] at hne
  .exact Hb (f.k6 hk).2
  .simp[hk,zt] at hne
  all_goals grind [zu,Aw,ki,kC,km,kX]
 .rcases ic a with hk|hk|hk|hk|hk|hk|hk|hk|hk|hk|hk|hk|hk
  .simp[hk,vj] at hne
  .simp[hk,kk2] at hne
  .simp[hk,zS] at hne
  .simp[hk,yu] at hne
  .simp[hk,zT] at hne
  .simp[hk,zU] at hne
  .simp[hk,zt] at hne
  .simp[hk,zu] at hne
  .exact Hb (f.k9 hk).2.1
  all_goals grind [ki,kC,km,kX]
 .rcases ic a with hk|hk|hk|hk|hk|hk|hk|hk|hk|hk|hk|hk|hk
  .grind [On,Sk,Sl,Hb]
  .simp[hk,kk2] at hne
  .simp[hk,zS] at hne
  .simp[hk,yu] at hne
  .simp[hk,zT] at hne
  .simp[hk,zU] at hne
  .simp[hk,zt] at hne
  .simp[hk,zu] at hne
  .grind [Sk,Sl,Hb,On.k9]
  all_goals grind [ki,kC,km,kX]
 .grind [On,vj,kk2,zS,yu,zT,kW,zt,zu,Aw,ki,kC,km,kX]
 .grind [vj,kk2,zS,yu,zT,zU,kW,On.kr,Aw,On.k11,On.k13]
 grind [On,vj,kk2,zS,yu,zT,zU,zt,zu,GC,ki,kC,km,kX]
theorem IZ{b:Ha}(h:yZ b=true):wB b=some true:=by unfold yZ at h;simp only[bA] at h;obtain⟨⟨⟨h1,h2⟩,h3⟩,h4⟩:=h;have e3:WV b.Body=true:=C5 (by have:=DS h3;omega);have e4:WV b.Tag=true:=C5 (by have:=DS h4;omega);grind [wB,rV,GA,GC]
theorem T2{o:Bq}(sm:Bg o)(h:Ct o=false):FX o=some false:=by
 have n2:=sm.nPath;have a:=sm.nHist;unfold Ct at h;simp only[Bool.or_eq_false_iff] at h;obtain⟨h1,h2,h3,h4⟩:=h;have h3:=Mu h3;have a1:N9 o.Path (λz=>wE z)=some true:=by grind [SK,wE,ah]
 have a2:N9 o.Hist (λz=>wF z)=some true:=by grind [SK,wF,ah]
 grind [Bg,ah,FX,ib,Hb]
theorem Ax(x y:Int):f8 x y=some (if x<y then-1 else if y<x then 1 else 0):=by grind [f8,Fw]
theorem MV(x y:Nat):fQ x y=some (if x<y then-1 else if y<x then 1 else 0):=by grind [fQ,g9]
theorem CZ{l:Bp}{k:Nat}(hl:l.length<=3)(hk:l[k]?=some (-1))(h:∀j,j<k->l[j]?=some 0):iy l=some (-1):=by
 unfold iy;refine T.eq (.bind ((T.search l (λy=>decide (y≠0)) (λ_ y=>y) aa (λk x hx hk=>?_) ?_).mono ?_))
 .grind [fm,eA,au,aq]
 .unfold fm;rw[eF,Be]
 .rintro r (⟨rfl,h0⟩|⟨k',x,hx,hp,rfl,h0⟩)
  .have:=h0 (-1) (bO hk);simp at this
  .refine .some ?_;grind
theorem MW{a b:Ab}(h:dt a b=true):pE a b=some true:=by
 unfold pE;rw[Ax,Ax,MV];simp only[aL];unfold dt at h;by_cases h1:a.By=b.By
 .rw[BU (by simp[h1])] at h;by_cases h2:a.Seq=b.Seq
  .rw[BU (by simp[h2])] at h;have h3:=DS h;rw[CZ (k:=2) aC (by simp[h3]) (by grind)];rfl
  .rw[BB h2] at h;have h3:=DS h;rw[CZ (k:=1) aC (by simp[h3]) (by grind)];rfl
 .rw[BB h1] at h;have h3:=DS h;rw[CZ (k:=0) aC (by simp[h3]) (by grind)];rfl
theorem RL{o:Bq}(h:FF o)(sm:Bg o):Abe o (pT o.Kind):=by
 have n1:=sm.nPast;have n2:=sm.nPath;have d:=sm.nRefs;have e:=sm.nGuards;have g:=sm.nHist;have i:=sm.nBoxes;have a:=h.kind;have kb:pT o.Kind<1048576:=by rcases ic a with hk|hk|hk|hk|hk|hk|hk|hk|hk|hk|hk|hk|hk<;>simp[hk,vj,kk2,zS,yu,zT,zU,zt,zu,Aw,ki,kC,km,kX]
 have b:=ZD h.bare;have f:=T1 h.numbers;have it:=h.items;unfold yb at it;simp only[bA,GK] at it;obtain⟨j,t2,k,l,m,p⟩:=it;have c:=MU (W9 b);exact{
  lo:=Dk aa
  hi:=Dk aa
  kind:=by rcases ic a with hk|hk|hk|hk|hk|hk|hk|hk|hk|hk|hk|hk|hk<;>(rw[hk];decide)
  kb:=kb
  bits:=by grind [IY,Nat.and_le_right]
  rg:={
   by_:=Hb f.by_
   seq:=Hb f.seq
   at_:=Hb f.at_
   ents:=ZE f a
   guards:=by grind [SK,uR,ib,Hb]
   refs:=SK aa λx hx=>by rw[GA];exact congrArg some (C5 (by have:=DS (t2 x hx);omega))
   past:=by grind [SK,pS,kW]
   path:=by grind [SK,I4.n,Bg.path,uP,rV,GC,SK,IZ]
   boxes:=by grind [SK,IZ]
   hist:=by grind [SK,uQ,pS,kW]}
  long:=T2 sm h.long
  nPast:=aa
  nGuards:=aa
  past:=by grind [MW,FF.past]
  guards:=h.guards
  create:=decide_eq_decide.2 (by have:=h.create;unfold ah;simp_all)}
theorem kY(h:l.length*b<=140737488355328):aT b [] l=some l:=by grind [aT]
theorem I0{x:α}(h:l[k]?=some x):ji l (k:Int) x=some l:=by have hk:=(cr h).1;unfold ji;rw[BB ⟨aa,aa⟩,Fu];congr 1;apply List.ext_getElem?;grind
theorem RM{o:Bq}(sm:Bg o):pG o=some o:=by
 have n1:=sm.nPast;have n2:=sm.nPath;have b:=sm.nRefs;have c:=sm.nGuards;have d:=sm.nHist;have e:=sm.nBoxes;have f:=sm.nBody;unfold pG cU Fj dK fF dx gt fu;rw[kY aa,kY aa,kY aa,kY aa,kY aa,kY aa,kY aa];simp only[aL];have l0:AQ (jD o.Path) (o.Path,0)=some o.Path:=by
  refine T.eq (T.forA o.Path.length (λ_ a=>a=o.Path) aa rfl (λk a hk ha=>?_) λa ha=>?_)
  .subst ha;unfold jD;dsimp only;have hx:=EA hk;have hb:=(sm.path _ (List.getElem_mem hk)).n;rw[eA hk,ax,au,hx,aL];unfold dx;rw[kY aa,aL,aL,I0 hx];exact .some ⟨aq aa,rfl⟩
  .subst ha;unfold jD;dsimp only;rw[eF,Be];exact .some rfl
 have l1:AQ (jC o.Hist) (o.Hist,0)=some o.Hist:=by
  refine T.eq (T.forA o.Hist.length (λ_ a=>a=o.Hist) aa rfl (λk a hk ha=>?_) λa ha=>?_)
  .subst ha;unfold jC;dsimp only;have hx:=EA hk;have hb:=(sm.hist _ (List.getElem_mem hk)).n;rw[eA hk,ax,au,hx,aL];unfold Fj;rw[kY aa,aL,aL,I0 hx];exact .some ⟨aq aa,rfl⟩
  .subst ha;unfold jC;dsimp only;rw[eF,Be];exact .some rfl
 rw[l0,l1];rfl
def gW(s:ON)(j:Nat):Bool:=match j/64 with
 |0=>s.a0.testBit (j%64)
 |1=>s.a1.testBit (j%64)
 |2=>s.a2.testBit (j%64)
 |3=>s.a3.testBit (j%64)
 |_=>false
theorem xg(h:i<64):(gM a b).testBit i=(a.testBit i||b.testBit i):=by unfold gM;rw[Nat.testBit_or,show(18446744073709551616:Nat)=2^64 from rfl,Nat.testBit_mod_two_pow,Nat.testBit_mod_two_pow];simp[h]
theorem RN(h:i<64):(bD a b).testBit i=(a.testBit i&&b.testBit i):=by unfold bD;rw[Nat.testBit_and,show(18446744073709551616:Nat)=2^64 from rfl,Nat.testBit_mod_two_pow,Nat.testBit_mod_two_pow];simp[h]
theorem Ay(hk:k<64)(h:i<64):(HB 1 k).testBit i=decide (k=i):=by unfold HB;rw[Nat.min_eq_left aa,Nat.one_mul,show(18446744073709551616:Nat)=2^64 from rfl,Nat.testBit_mod_two_pow,Nat.testBit_two_pow];simp[h]
theorem RP(s t:ON)(j:Nat):gW (Rf s t) j=(gW s j||gW t j):=by have h:=Nat.mod_lt j (show 64>0 by decide);unfold gW Rf;split<;>first|exact xg h|rfl
theorem T3{s:ON}(hn:n<256)(hj:j<256):gW (yt s n) j=(gW s j||decide (j=n)):=by
 have h:=Nat.mod_lt j (show 64>0 by decide);have h':=Nat.mod_lt n (show 64>0 by decide);have e:∀q:Nat,n/64=q->j/64=q->decide (n%64=j%64)=decide (j=n):=by grind
 have e':n/64≠j/64->decide (j=n)=false:=by grind
 have h4:n/64=0\/n/64=1\/n/64=2\/n/64=3:=aa;have h5:j/64=0\/j/64=1\/j/64=2\/j/64=3:=aa;unfold gW yt;rcases h4 with e1|e1|e1|e1
 .rcases h5 with e2|e2|e2|e2
  .grind [xg,Ay]
  .grind
  all_goals grind
 .rcases h5 with e2|e2|e2|e2
  .grind
  .grind [xg,Ay]
  all_goals grind
 .rcases h5 with e2|e2|e2|e2
  .grind
  .grind
  .grind [xg,Ay]
  grind
 .rcases h5 with e2|e2|e2|e2
  .grind
  .grind
  .grind
  grind [xg,Ay]
theorem OK(ha:a<18446744073709551616)(h:∀i,i<64->a.testBit i=false):a=0:=by
 apply Nat.eq_of_testBit_eq;intro i;rw[Nat.zero_testBit];rcases Je i 64 with hi|hi
 .exact h i hi
 .exact Nat.testBit_lt_two_pow (Nat.lt_of_lt_of_le ha (LC (by grind) (Nat.pow_le_pow_right Cd hi)))
theorem T4(a b:Nat):bD a b<18446744073709551616:=by grind [bD,Nat.and_le_left]
theorem RQ{b:ON}(h:∀j,j<256->¬(gW p j=true/\gW b j=true)):ZA p b 4=z4:=by
 have w:∀(q:Nat) (x y:Nat),q<4->(∀i,i<64->gW p (64*q+i)=x.testBit i/\gW b (64*q+i)=y.testBit i)->bD x y=0:=by grind [OK,T4,RN]
 have d:∀(q i:Nat),i<64->(64*q+i)/64=q/\(64*q+i)%64=i:=λq i hi=>aa;show(⟨bD p.a0 b.a0,bD p.a1 b.a1,bD p.a2 b.a2,bD p.a3 b.a3⟩:ON)=⟨0,0,0,0⟩;rw[w 0 p.a0 b.a0 Cd λi hi=>by unfold gW;rw[(d 0 i hi).1,(d 0 i hi).2];exact⟨rfl,rfl⟩];rw[w 1 p.a1 b.a1 Cd λi hi=>by unfold gW;rw[(d 1 i hi).1,(d 1 i hi).2];exact⟨rfl,rfl⟩];rw[w 2 p.a2 b.a2 Cd λi hi=>by unfold gW;rw[(d 2 i hi).1,(d 2 i hi).2];exact⟨rfl,rfl⟩];rw[w 3 p.a3 b.a3 Cd λi hi=>by unfold gW;rw[(d 3 i hi).1,(d 3 i hi).2];exact⟨rfl,rfl⟩]
theorem Xa{s:ON}(hn:n<256):iX s (n:Int)=some (gW s n):=by
 have hd:wI (Int.tdiv (n:Int) 64)=((n/64:Nat):Int):=by grind [bM]
 have ht:Int.tmod (n:Int) 64=((n%64:Nat):Int):=by rw[Int.tmod_eq_emod_of_nonneg aa];rfl
 have hcn:wJ ((n%64:Nat):Int)=some (n%64):=by grind [wJ]
 have h:=Nat.mod_lt n (show 64>0 by decide);have key:∀y:Nat,decide (((bD (Jq y (n%64)) 1:Nat):Int)=((1:Nat):Int))=y.testBit (n%64):=by grind [bD,Jq]
 unfold iX;rw[hd,ht,hcn,au];have h4:n/64=0\/n/64=1\/n/64=2\/n/64=3:=aa;unfold gW;grind
end Go.Proofs.YtdpdicldkohflaaGreatDoor
