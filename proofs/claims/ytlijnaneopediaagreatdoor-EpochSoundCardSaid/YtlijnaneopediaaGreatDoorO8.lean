/- auth.Why; epoch.Sound. -/
import Derived.Test.YtlijnaneopediaaGreatDoorW6
namespace Go.Proofs.YtlijnaneopediaaGreatDoor
set_option linter.unusedSectionVars false
set_option linter.unusedVariables false
set_option linter.unusedSimpArgs false
open Go.RowKit Tryz
attribute [local irreducible] Tr dz Gp
theorem tE:fg prog 68=some false:=aH
theorem rE:A9 prog 322 68 1 cZ:=⟨aH,aH,B5,λ_=>rfl,λ_=>rfl⟩
theorem Ace(gl:Cd){vals}:DC prog gl (iy vals) 181 [aE cZ vals] iG:=
 cy func181 λK=>O0 11101 (λa=>sg [] [(3,iG 0)]) (λs1=>sg [] [(3,iG 0),(6,aE cZ vals),(7,iG (ah vals)),(8,iG s1)]) [] K (λa=>rv K) λs1 k5 b k6=>aF 9 (CD 10 rE.ixZ 11 (rE.p1Y tE) λc=>aF 14 (aP c3 k6 [])<|rb k5)<|aA c2 b []
def Acf(fk gd a:Bool)(e:Int):Int:=bif fk then 13 else bif gd then 0 else bif a then 15 else bif e=0 then 15 else e
abbrev gMb(m:FM Ab Bool):G:= .mp ((X3 ga bG m).map (·.1)) ((X3 ga bG m).map (·.2.1)) ((X3 ga bG m).map (·.2.2)) m.clk
theorem Ajk(m:FM Ab Bool):FM.g ga bG m=gMb m:=by unfold FM.g gMb X3;simp[Function.comp_def]
section
variable {gg:Aj} {I:Gi} {ids row vs:A3} {s:Bh} {v:FM Ab Bool} {o:Bj} {id:Ab}
theorem Ajl(h:AbG fI (Nf gg row vs) I)(hO:ba prog fI 62 [.ptr (Ag gg) 0,aE aj ids] (aE aj row))(hV:ba prog fI 227 [.ptr (Ag gg) 0,aE aj ids] (aE aj vs))(hn:vs.length<=1000)
  (hS:ba prog fI 120 [.ptr (Ag gg) 0,aE aj row] (aE cZ s)) (k:s.length<=1000) (hd:AcP I (Nf gg row vs) (NR I.cards s)=some v) (hin:ids.length<=1000) (hid:id∈ids) (ho:I.op id=some o) (hog:o.Guards.length<=1000000):
  ba prog fI 91 [.ptr (Ag gg) 0,aE aj ids,.agg (aj id)] (iG (Acf (AH ((ofV vs).get id)) ((Fa I (wV (Nf gg row vs) v)).any λy=>decide (id=y)) ((Fa I (wV (Nf gg row vs) v)).any λx=>D5 I x id) (Mh (RZ I (Fa I (wV (Nf gg row vs) v)) id) o))):=by
 have h':AbG fI (wV (Nf gg row vs) v) I:=⟨h.g,h.c,h.o,h.n⟩
 have hg:=Aax h'
 have hof:=AiW hO hV hn
 have m:=ZN h hS k hd
 have hsub:(∀y∈Fa I (wV (Nf gg row vs) v),y∈row)/\(Fa I (wV (Nf gg row vs) v)).length<=row.length:=by have:=TB (I:=I) (vd:=v) (l:=row) (out:=[]);unfold Fa;exact⟨λy hy=>(this.1 y hy).resolve_left aC,by have h2:=this.2;rw[List.length_nil,Nat.zero_add] at h2;exact h2⟩
 have hrn:row.length<=1000:=h.n
 have hgo:∀y∈Fa I (wV (Nf gg row vs) v),UQ (I.o y) y:=λy hy=>h.o y (hsub.1 y hy)
 have hlk:=Om (Nf gg row vs).fork id
 have hgr:Pa fI gg I:=h.g
 change∀σ,bL _ σ _ _ _ _=some (bG (AH ((ofV vs).get id))) at hlk
 unfold Nf at*
 generalize ofV vs=F at*
 generalize hgd:Fa I (wV ⟨gg,row,F,F⟩ v)=gd at*
 have f:=AdE hgr h.c (al:=⟨gg,row,v,F⟩) rfl hgo aa id
 have d:=Aav h.c hgo id
 generalize RZ I gd id=R at*
 have q:=AcK (i:=id) d hog
 have j:=hgr.op id
 rw[show I.o id=o by unfold Gi.o;rw[ho];rfl,ho] at j
 have hv:R7 prog fI 178 [] [.ptr [.ptr (Ag gg) 0] 0,.ptr (aj id) 0] (λz:Ab=>[.agg (aj z)]) (λb:Bool=>bG b) (λz=>some (D5 I z id)):=⟨aH,bf,eB aH,λz r e=>by cases e;have:=Uo hgr z id;refine Gh func178 ?_;exact Ar [hf 8 this] []⟩
 have t:=kP fI hv (Abz (s:=gd) (p:=λx=>D5 I x id) aa λ_ _=>rfl)
 have a:=AaC (gl:=fI) (s:=gd) aa id
 have hci:=AaC (gl:=fI) (s:=ids) aa id
 rw[List.any_eq_true.2 ⟨id,hid,CO rfl⟩] at hci
 have hor:iy [Mh R o,15]=some (bif Mh R o=0 then 15 else Mh R o):=by
  generalize Mh R o=e;unfold iy;rw[show AB (fm [e,15]) 0=some (bif e=0 then .inr 15 else .inr e) from T.eq (T.loop (λi=>i=0\/(i=1/\e=0)) (λi=>2-i.toNat) (.inl rfl) B5 λi hi=>by
   unfold fm;rcases hi with rfl|⟨rfl,rfl⟩
   .rw[show decide ((0:Int)<ah [e,15])=true by simp[ah],ax,show aS [e,15] 0=some e from rfl,aL];refine .dec (λh0=> .some (by rw[C5 h0];rfl)) λh0=> .some ⟨.inr ⟨rfl,Decidable.of_not_not h0⟩,B5⟩
   .exact⟨_,rfl,rfl⟩)]
  cases decide (e=0)<;>rfl
 have hor:=Ace fI hor
 refine Gh func91 ?_
 refine pO [1,0] (s0 59 fI [(1,aE aj ids),(3,.ptr [.ptr (Ag gg) 0] 0),(5,.ptr (aj id) 0)] [] 0 0) [] [hc (eB (gs:=[.ptr (Ag gg) 0]) aH),hc (eB (gs:=aj id) aH)] ?_
 simp only[BB,Ajk] at f hlk
 refine pO 111110 (s0 59 fI [(1,aE aj ids),(3,.ptr [.ptr (Ag gg) 0] 0),(5,.ptr (aj id) 0),(7,.ptr [.ptr (Ag gg) 0,aE aj row,gMb v,gMb F] 0),(8,.rsl 0 0 gd.length)] [(0,Bt gd)] 1 0) [hfm 14 [] 0 3 0 [] [.ptr (Ag gg) 0,aE aj ids] (σ3 ⟨gg,row,F,F⟩) hof AcL (Aia rfl rfl rfl),hfm 16 [0,1,2] 3 0 3 (σ3 ⟨gg,row,F,F⟩) [.ref 0 0] (σ3 ⟨gg,row,v,F⟩) m in3 (Aia rfl rfl rfl),hz 18 [0,1,2] (Vr (al:=⟨gg,row,v,F⟩) (c:=3) (hgd▸hg))] [hc (XP v),hc (XP F),hc (eB (gs:=[.ptr (Ag gg) 0,aE aj row,gMb v,gMb F]) aH),hc (el gd),hc (ac.imm gd)] ?_ [] [(0,3)] [(0,.row)]
 refine pO 1111111020 (s0 59 fI [(1,aE aj ids),(5,.ptr (aj id) 0),(7,.ptr [.ptr (Ag gg) 0,aE aj row,gMb v,gMb F] 0),(8,.rsl 0 0 gd.length),(9,bG (gd.any λx=>D5 I x id)),(10,.ptr (aJ o) 0),(11,bG true)] [(0,Bt gd)] 1 0) [hq 21 [aE aj gd,.clo (.func 178) [] [.ptr [.ptr (Ag gg) 0] 0,.ptr (aj id) 0]] [hc (ac.al gd)] t,hf 25 j] [hc (el gd),hc (eB (gs:=aJ o) aH),hc (ac.imm gd)] ?_
 generalize (gd.any λx=>D5 I x id)=kl
 generalize AH (F.get id)=fk at hlk⊢
 unfold Acf
 cases fk with
 |true=>exact Ar [hf 34 hci,hm 43 hlk] []
 |false=>
  generalize (gd.any λy=>decide (id=y))=b at a⊢
  cases b with
  |true=>exact Ar [hf 34 hci,hm 43 hlk,hq 47 [aE aj gd,.agg (aj id)] [hc (ac.al gd)] a] []
  |false=>
   cases kl with
   |true=>exact Ar [hf 34 hci,hm 43 hlk,hq 47 [aE aj gd,.agg (aj id)] [hc (ac.al gd)] a] []
   |false=>exact Ar [hf 34 hci,hm 43 hlk,hq 47 [aE aj gd,.agg (aj id)] [hc (ac.al gd)] a,hfm 53 [0] 1 14 2 [(0,Bt gd)] [.ptr [.ptr (Ag gg) 0,aE aj row,gMb v,gMb F] 0,.rsl 0 0 gd.length,.agg (aj id)] ((0,Bt gd)::BG (OP 2) R) f (AcM gd) (Aaw d gd 2),hrr 56 (OP 2) 16 [.agg (aJ o),.agg (aj id)] d q,hq 58 [aE cZ [Mh R o,15]] [hc (rE.al [Mh R o,15])] hor] []
end
end Go.Proofs.YtlijnaneopediaaGreatDoor
