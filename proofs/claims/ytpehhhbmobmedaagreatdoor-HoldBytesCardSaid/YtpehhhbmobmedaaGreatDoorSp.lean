/- huddleref23's Term, Terms, SameTerms: walked. -/
import Derived.Test.YtpehhhbmobmedaaGreatDoorRg
namespace Go.Proofs.YtpehhhbmobmedaaGreatDoor
set_option linter.unusedVariables false
set_option linter.unusedSimpArgs false
set_option linter.unusedSectionVars false
section
open Go.RowKit
attribute [local irreducible] Tr Run RunD RunF GS TG Le Wk Frz Fn' ImmG Flat WkFr WkSt EndM Ex EndX McK FnM gNm gK
structure T6 where
 k:Int
 i:Idn
 n:Int
 m:Int
deriving DecidableEq
def cT (t:T6):List G:=[vI t.k,vI t.i.a,vI t.i.b,vU t.i.c,vI t.n,vI t.m]
def eT (t:T6):List Value:=[.int .i64 t.k,.int .i64 t.i.a,.int .i64 t.i.b,.int .u64 (t.i.c:Int),.int .i64 t.n,.int .i64 t.m]
theorem len_cT (t:T6):(cT t).length = 6:=rfl
theorem eq_T6 (d:Nat) (t u:T6):spure Tryz.prog (Op.equalIn (d + 4) 105 (.agg (eT t).toArray) (.agg (eT u).toArray)) = some (decide (t = u)):=by
 obtain ⟨k,i,n,m⟩:=t
 obtain ⟨k',i',n',m'⟩:=u
 rw [sp_struct (fs:=#[⟨ "Kind",3,0,false, "", "",0⟩,⟨ "Of",61,1,false, "", "",8⟩,⟨ "N",3,4,false, "", "",32⟩,⟨ "M",3,5,false, "", "",40⟩]) (by kernel_rfl) (by kernel_rfl)]
 simp only [Array.toList]
 rw [sp_int (k:=.i64) (k':=.i64) (a:=k) (b:=k') (by decide) (by kernel_rfl) (by kernel_rfl) (by kernel_rfl)]
 rw [sp_sub (d:=d + 3) (f:=⟨ "Of",61,1,false, "", "",8⟩) (fs:=[⟨ "N",3,4,false, "", "",32⟩,⟨ "M",3,5,false, "", "",40⟩]) (us:=(eId i).toArray) (vs:=(eId i').toArray) (by decide) (by kernel_rfl) (by kernel_rfl) (eq_id d i i')]
 rw [sp_int (k:=.i64) (k':=.i64) (a:=n) (b:=n') (by decide) (by kernel_rfl) (by kernel_rfl) (by kernel_rfl)]
 rw [sp_int (k:=.i64) (k':=.i64) (a:=m) (b:=m') (by decide) (by kernel_rfl) (by kernel_rfl) (by kernel_rfl)]
 simp only [T6.mk.injEq]
 by_cases h1:k = k'
 ·by_cases h2:i = i'
  ·by_cases h3:n = n'
   ·by_cases h4:m = m'
    ·simp [h1,h2,h3,h4,Op.eqFields,spure_pure]
    ·simp [h1,h2,h3,h4]
   ·simp [h1,h2,h3]
  ·simp [h1,h2]
 ·simp [h1]
theorem neqT6 {p q:Operand} (t u:T6):gbin Tryz.prog .neq 105 p q (.agg (cT t)) (.agg (cT u)) = some (vB (!decide (t = u))) :=
 gb_neq_agg (us:=eT t) (vs:=eT u) (by kernel_rfl) (by kernel_rfl) (by kernel_rfl) (eq_T6 9996 t u)
theorem same_mc (gl:List (Nat × List G)) {σ:Sto} (c:Nat) {l:List T6} {ga gb:G} {ra rb:Option Nat} (ha:RowA cT 6 105 σ ga l ra) (hb:RowA cT 6 105 σ gb l rb) (hl:l.length ≤ 100000) :
  McK Tryz.prog gl 11 [ga,gb] σ c (vB true) σ c:=by
 suffices hM:Mc Tryz.prog gl 11 [ga,gb] σ c (fun v σ' c' => v = vB true ∧ σ' = σ ∧ c' = c) by
  obtain ⟨v,σ',c',⟨rfl,rfl,rfl⟩,hM⟩:=hM
  exact hM
 have hla:=rowA_len ha
 have hlb:=rowA_len hb
 refine mc_enter (by kernel_rfl) Tryz.func11 rfl (by simp [Tryz.ntmps11]) ?_
 simp only [enterFr,Tryz.ntmps11]
 refine wS ?_
 refine zv (vB false) ?_
 refine wS ?_
 refine zv (ga) ?_
 refine run_ln rfl (by kernel_rfl) hla (by decide) ?_
 refine zv (gb) ?_
 refine run_ln rfl (by kernel_rfl) hlb (by decide) ?_
 refine run_bin rfl rfl (neI (a:=(l.length:Int)) (b:=(l.length:Int))) (by decide) ?_
 refine wS ?_
 refine ex_condP (p:=(l.length:Int) ≠ (l.length:Int)) rfl (fun h => absurd rfl h) (fun _ => ?_)
 refine wS ?_
 refine zv (vI ((0:Nat):Int)) ?_
 refine wS ?_
 refine ex_loop (fun t s => ∃ q:Nat,s = ⟨26,gl,[(0,ga),(1,gb),(5,vI (q:Int))],σ,c,c,false⟩ ∧ t = l.length - q ∧ q ≤ l.length) l.length (le_frs (fr':=[(0,ga),(1,gb),(5,vI ((0:Nat):Int))]) (by repeat' (first|exact ⟨⟩|refine ⟨rfl,?_⟩))) ⟨0,rfl,by omega,by omega⟩ ?_
 rintro t s ⟨q,rfl,rfl,hq⟩
 refine wS ?_
 refine zv (vI (q:Int)) ?_
 refine zv (ga) ?_
 refine run_ln rfl (by kernel_rfl) hla (by decide) ?_
 refine run_bin rfl rfl (ltI (a:=(q:Int)) (b:=(l.length:Int))) (by decide) ?_
 refine wS ?_
 refine ex_condP (p:=(q:Int) < (l.length:Int)) rfl (fun hlt => ?_) (fun hlt => ?_)
 ·obtain ⟨x,hx⟩:∃ x,l[q]? = some x:=⟨_,List.getElem?_eq_getElem (by omega)⟩
  obtain ⟨q1,_,hix,hrx⟩:=rowA_ix (P:=Tryz.prog) (t:=49) (e:=105) len_cT (by kernel_rfl) (by kernel_rfl) ha hx
  obtain ⟨q2,_,hiy,hry⟩:=rowA_ix (P:=Tryz.prog) (t:=49) (e:=105) len_cT (by kernel_rfl) (by kernel_rfl) hb hx
  have hldx:gload Tryz.prog σ 105 (.ref q1 (q * 6)) = some (.agg (cT x)):=rowA_ld (P:=Tryz.prog) (e:=105) len_cT (by kernel_rfl) (by kernel_rfl) hrx hx
  have hldy:gload Tryz.prog σ 105 (.ref q2 (q * 6)) = some (.agg (cT x)):=rowA_ld (P:=Tryz.prog) (e:=105) len_cT (by kernel_rfl) (by kernel_rfl) hry hx
  refine wN ?_
  refine ex_region_draw (bars:=[]) mixed (by kernel_rfl) ?_
  refine zd (ga) ?_
  refine zd (vI (q:Int)) ?_
  refine rund_v (g:=.ref q1 (q * 6)) (Eq.trans (by kernel_rfl) hix) (by decide) ?_
  refine rund_ld rfl hldx (by decide) ?_
  refine zd (gb) ?_
  refine zd (vI (q:Int)) ?_
  refine rund_v (g:=.ref q2 (q * 6)) (Eq.trans (by kernel_rfl) hiy) (by decide) ?_
  refine rund_ld rfl hldy (by decide) ?_
  refine rund_bin rfl rfl (neqT6 x x) (by decide) ?_
  apply rund_nil
  refine wS ?_
  refine ex_condB (t:=!decide (x = x)) rfl (fun h => by simp at h) (fun _ => ?_)
  refine wS ?_
  refine zv (vI (q:Int)) ?_
  refine run_v (g:=vI ((q + 1:Nat):Int)) (Eq.trans (by kernel_rfl) (congrArg some (show G.lit (.int .i64 (IntKind.i64.wrap ((q:Int) + 1))) = _ by rw [w64 (by omega)]; rfl))) (by decide) ?_
  refine zv (vI ((q + 1:Nat):Int)) ?_
  refine wS ?_
  exact ⟨l.length - (q + 1),_,by omega,le_frs (fr':=[(0,ga),(1,gb),(5,vI ((q + 1:Nat):Int))]) (by repeat' (first|exact ⟨⟩|refine ⟨rfl,?_⟩)),q + 1,rfl,rfl,by omega⟩
 ·refine wS ?_
  refine zv (vB true) ?_
  refine wS ?_
  exact endx (.inr rfl) (gs:=[vB true]) (by kernel_rfl) ⟨rfl,rfl,rfl⟩
def tK (d:Int) (x:KK):T6:=if x.lead then ⟨1,.zero,d,0⟩ else ⟨3,x.i,x.n,0⟩
def tN (d:Int) (x:Nm):T6:=if x = .zero then ⟨1,.zero,d,0⟩ else ⟨3,x.i,x.n,0⟩
theorem termC_tN (d:Int) (x:Nm):termC d x = cT (tN d x):=by
 unfold termC tN cT
 split <;> rfl
theorem rowT_of (d:Int) {σ:Sto} {g:G} {l:List Nm} {r:Option Nat} (h:RowA (termC d) 6 105 σ g l r):RowA cT 6 105 σ g (l.map (tN d)) r:=by
 have e:(l.map (tN d)).flatMap cT = l.flatMap (termC d):=by
  rw [List.flatMap_map]
  congr 1
  funext x
  exact (termC_tN d x).symm
 unfold RowA at h ⊢
 rw [e,List.length_map]
 exact h
theorem t6_ld {σ:Sto} {k:Nat} {t:T6} (h:sget σ k = some ⟨105,cT t,none⟩):gload Tryz.prog σ 105 (.ref k 0) = some (.agg (cT t)):=by
 simp only [gload,h]
 kernel_rfl
theorem term23_mc (gl:List (Nat × List G)) (d:Int) (g:G) (x:KK) (σ:Sto) (c:Nat) :
  McK Tryz.prog gl 49 [.agg [vI d,g],gK x] σ c (.agg (cT (tK d x))) ((c + 2,none) :: (c + 1,none) :: (c,none) :: σ) (c + 3):=by
 suffices hM:Mc Tryz.prog gl 49 [.agg [vI d,g],gK x] σ c (fun v σ' c' => v = .agg (cT (tK d x)) ∧ c' = c + 3 ∧ ∀ k,k ≠ c → k ≠ c + 1 → k ≠ c + 2 → sget σ' k = sget σ k) by
  obtain ⟨v,σ',c',⟨rfl,rfl,h1⟩,hM⟩:=hM
  refine hM.sub fun k o hk => ?_
  simp only [sget_cons] at hk
  split at hk
  ·cases hk
  ·split at hk
   ·cases hk
   ·split at hk
    ·cases hk
    ·rw [h1 k (by omega) (by omega) (by omega)]; exact hk
 obtain ⟨σ0,e0⟩:∃ σ0:Sto,σ0 = (c + 2,some ⟨105,cT ⟨0,.zero,0,0⟩,none⟩) :: (c + 1,some (kO x)) :: (c,some (hO d g)) :: σ:=⟨_,rfl⟩
 obtain ⟨l0,_⟩:=hO_ld (σ:=σ0) (k:=c) (d:=d) (g:=g) (by rw [e0,sget_ne (by omega),sget_ne (by omega),sget_eq rfl])
 obtain ⟨k0,k1,k2,_⟩:=k_ld (σ:=σ0) (j:=c + 1) (k:=x) (by rw [e0,sget_ne (by omega),sget_eq rfl])
 have ht:sget σ0 (c + 2) = some ⟨105,cT ⟨0,.zero,0,0⟩,none⟩:=by rw [e0,sget_eq rfl]
 obtain ⟨le,hle⟩:∃ l,l = x.lead:=⟨_,rfl⟩
 rw [← hle] at k0
 have eT':tK d x = if le then ⟨1,.zero,d,0⟩ else ⟨3,x.i,x.n,0⟩:=by rw [hle]; rfl
 refine mc_enter (by kernel_rfl) Tryz.func49 rfl (by simp [Tryz.ntmps49]) ?_
 simp only [enterFr,Tryz.ntmps49]
 refine wS ?_
 refine run_box (l:=[vI d,g]) (by kernel_rfl) (by decide) ?_
 refine run_box (gK_box x) (by decide) ?_
 refine run_alloc (l:=cT ⟨0,.zero,0,0⟩) (by kernel_rfl) (by decide) ?_
 rw [show ((c + 1 + 1,some (⟨105,cT ⟨0,.zero,0,0⟩,none⟩:Ob)) :: (c + 1,some ⟨81,cK x,none⟩) :: (c,some ⟨36,[vI d,g],none⟩) :: σ:Sto) = σ0 from e0.symm]
 have fin:∀ (o:Option Ob) (k:Nat),k ≠ c → k ≠ c + 1 → k ≠ c + 2 → sget ((c + 2,o) :: σ0) k = sget σ k:=fun o k h1 h2 h3 => by
  rw [sget_ne (by omega),e0,sget_ne (by omega),sget_ne (by omega),sget_ne (by omega)]
 refine wS ?_
 refine zv (.ref (c + 1) 0) ?_
 refine zt (vB le) k0 ?_
 refine wS ?_
 refine ex_condB (t:=le) rfl (fun h => ?_) (fun h => ?_)
 ·
  refine wS ?_
  refine zv (.ref c 0) ?_
  refine zt (vI d) l0 ?_
  refine run_build (g:=.agg [vI 1,vI 0,vI 0,vU 0,vI d,vI 0]) (by kernel_rfl) (by decide) ?_
  refine run_sto (term_st ht rfl) ?_
  refine wS ?_
  refine endx (.inr rfl) (gs:=[.agg (cT (tK d x))]) (res_cell (a:=4) (t:=105) rfl ?_) ⟨rfl,rfl,fin _⟩
  rw [eT',if_pos h]
  exact t6_ld (t:=⟨1,.zero,d,0⟩) (sget_eq rfl)
 ·
  refine wS ?_
  refine zv (.ref (c + 1) 1) ?_
  refine zt (vIdn x.i) k1 ?_
  refine zv (.ref (c + 1) 4) ?_
  refine zt (vI x.n) k2 ?_
  refine run_build (g:=.agg [vI 3,vI x.i.a,vI x.i.b,vU x.i.c,vI x.n,vI 0]) (by kernel_rfl) (by decide) ?_
  refine run_sto (term_st ht rfl) ?_
  refine wS ?_
  refine endx (.inr rfl) (gs:=[.agg (cT (tK d x))]) (res_cell (a:=4) (t:=105) rfl ?_) ⟨rfl,rfl,fin _⟩
  rw [eT',if_neg (by rw [h]; decide)]
  exact t6_ld (t:=⟨3,x.i,x.n,0⟩) (sget_eq rfl)
theorem t6_app {σ:Sto} {l:List T6} {j:Nat} (h:sget σ j = some ⟨105,l.flatMap cT,none⟩) {q:Nat} {x:T6} (hq:sget σ q = some ⟨105,cT x,none⟩) (hb:l.length ≤ 100000) (c:Nat) :
  gapp Tryz.prog σ c 49 (.rsl j 0 l.length) (.rsl q 0 1) = some (105,j,(l ++ [x]).length,(l ++ [x]).flatMap cT):=by
 have hv:=one_view len_cT hq
 have hm:([x]:List T6).length = 1:=rfl
 rw [row_appS (s:=6) (b:=48) (zs:=[.int .i64 0,.int .i64 0,.int .i64 0,.int .u64 0,.int .i64 0,.int .i64 0]) (by kernel_rfl) (by kernel_rfl) (by omega) (by kernel_rfl) rfl (by kernel_rfl) h (rw_len len_cT l) hv ⟨by rw [hm]; omega,by rw [hm]; omega⟩ c]
 simp
set_option maxHeartbeats 4000000 in
theorem terms23_mc (gl:List (Nat × List G)) {d:Int} {g:G} {l:List KK} {r:Option Nat} {σ:Sto} (c:Nat) (h:RowA cK 6 81 σ g l r) (hr:∀ q,r = some q → q < c) (hl:l.length ≤ 10000) :
  Mc Tryz.prog gl 13 [.agg [vI d,g]] σ c (fun v σ' c' => ∃ r',RowA cT 6 105 σ' v (l.map (tK d)) r' ∧ (∀ j,r' = some j → c ≤ j ∧ j < c') ∧ c ≤ c' ∧ ∀ k,k < c → sget σ' k = sget σ k):=by
 have hlen:=rowA_len h
 refine mc_enter (by kernel_rfl) Tryz.func13 rfl (by simp [Tryz.ntmps13]) ?_
 simp only [enterFr,Tryz.ntmps13]
 refine wS ?_
 refine run_box (l:=[vI d,g]) (by kernel_rfl) (by decide) ?_
 refine zv (gN0) ?_
 refine wS ?_
 refine zv (gN0) ?_
 refine wS ?_
 refine zv (vI ((0:Nat):Int)) ?_
 refine wS ?_
 refine Ex.le ?_ (le_virt 105 (d:=3) (by show 3 < 23; decide) (by kernel_rfl))
 refine ex_loop (fun t s => ∃ (q:Nat) (σ1:Sto) (c1 jo:Nat),s = ⟨23,gl,[(1,.ref c 0),(3,.rsl jo 0 ((l.take q).map (tK d)).length),(4,vI (q:Int))],σ1,c1,c,false⟩ ∧ t = l.length - q ∧ q ≤ l.length ∧ sget σ1 jo = some ⟨105,((l.take q).map (tK d)).flatMap cT,none⟩ ∧ (c + 1 ≤ jo ∧ jo < c1) ∧ (∀ k,k < c → sget σ1 k = sget σ k) ∧ sget σ1 c = some (hO d g)) l.length (le_frs (fr':=[(1,.ref c 0),(3,.rsl (c + 1) 0 0),(4,vI ((0:Nat):Int))]) (by repeat' (first|exact ⟨⟩|refine ⟨rfl,?_⟩))) ⟨0,(c + 1,some ⟨105,[],none⟩) :: (c,some (hO d g)) :: σ,c + 1 + 1,c + 1,rfl,rfl,by omega,sget_eq rfl,by omega,(fun k hk => by rw [sget_ne (by omega),sget_ne (by omega)]),by rw [sget_ne (by omega),sget_eq rfl]⟩ ?_
 rintro t s ⟨q,σ1,c1,jo,rfl,rfl,hq,h1,h2,h4,h5⟩
 obtain ⟨_,lg,lh⟩:=hO_ld h5
 obtain ⟨lt,elt⟩:∃ lt,lt = (l.take q).map (tK d):=⟨_,rfl⟩
 rw [← elt] at h1 ⊢
 have hltl:lt.length ≤ 10000:=by rw [elt]; simp; omega
 refine wS ?_
 refine zv (vI (q:Int)) ?_
 refine zv (.ref c 1) ?_
 refine zt (g) lg ?_
 refine run_ln rfl (by kernel_rfl) hlen (by decide) ?_
 refine run_bin rfl rfl (ltI (a:=(q:Int)) (b:=(l.length:Int))) (by decide) ?_
 refine wS ?_
 refine ex_condP (p:=(q:Int) < (l.length:Int)) rfl (fun hlt => ?_) (fun hlt => ?_)
 ·obtain ⟨x,hx⟩:∃ x,l[q]? = some x:=⟨_,List.getElem?_eq_getElem (by omega)⟩
  have hrow1:RowA cK 6 81 σ1 g l r:=rowA_more h fun z hz => h4 z (hr z hz)
  obtain ⟨q0,hq0,hix,hrw⟩:=rowA_ix (P:=Tryz.prog) (t:=34) (e:=81) len_cK (by kernel_rfl) (by kernel_rfl) hrow1 hx
  have hrc:=hr q0 hq0
  refine wN ?_
  refine Ex.le ?_ (le_addResv 2 _)
  dsimp only [addResv]
  obtain ⟨σr,er⟩:∃ σr:Sto,σr = (c1 + 1,some resvOb) :: (c1,some resvOb) :: σ1:=⟨_,rfl⟩
  rw [← er]
  have kr:∀ k,k < c1 → sget σr k = sget σ1 k:=fun k hk => by rw [er,sget_ne (by omega),sget_ne (by omega)]
  have hT:=term23_mc gl d g x [] (c1 + 1 + 1)
  obtain ⟨_,lgr,lhr⟩:=hO_ld ((kr c (by omega)).trans h5)
  have hldr:gload Tryz.prog σr 81 (.ref q0 (q * 6)) = some (gK x):=by
   rw [gK_c]
   exact rowA_ld (P:=Tryz.prog) (e:=81) len_cK (by kernel_rfl) (by kernel_rfl) ((kr q0 (by omega)).trans hrw) hx
  obtain ⟨σ2,e2⟩:∃ σ2:Sto,σ2 = (c1,some ⟨105,cT (tK d x),none⟩) :: σr:=⟨_,rfl⟩
  have hjo:sget σ2 jo = some ⟨105,lt.flatMap cT,none⟩:=by rw [e2,sget_ne (by omega),kr jo (by omega)]; exact h1
  have hap:=t6_app (l:=lt) hjo (q:=c1) (x:=tK d x) (by rw [e2]; exact sget_eq rfl) (by omega) (c1 + 1 + 1 + 3)
  have htk:(l.take (q + 1)).map (tK d) = lt ++ [tK d x]:=by rw [elt,List.take_add_one,hx]; simp
  rw [← htk] at hap
  obtain ⟨lu,elu⟩:∃ lu,lu = (l.take (q + 1)).map (tK d):=⟨_,rfl⟩
  rw [← elu] at hap
  have hap2:=hap
  rw [e2] at hap2
  refine ex_region_draw4 (inf:=[dR,.rd [c] (fun _ => false),dR,.rd [c] (fun _ => false),dR,dR,.rd [q0] (fun _ => false),.wr [] [] [] true,.wr [c1] [(c1,some ⟨105,cT (tK d x),none⟩)] [(c1,some resvOb)] false,.wr [c1 + 1,jo,c1] [(c1 + 1,some ⟨105,lu.flatMap cT,none⟩),(jo,none)] [(c1 + 1,some resvOb),(jo,some ⟨105,lt.flatMap cT,none⟩)] false,dR]) mixed ?_ ?_
  ·refine drawOk4_of (pairs:=[(1,3),(1,6)]) (by kernel_rfl) (by kernel_rfl) ?_
   intro x hx
   simp only [List.mem_cons,List.not_mem_nil,or_false] at hx
   rcases hx with rfl | rfl
   ·show okS (.rd _ _) (.rd _ _) = true
    rfl
   ·show okS (.rd _ _) (.rd _ _) = true
    rfl
  refine rf_v (d:=12) (g:=.rsl jo 0 lt.length) rfl rfl (by show 12 < 23; decide) (by kernel_rfl) (fun t x h => by cases h) ?_
  refine rf_ld (d:=13) (i:=c) (k:=0) (g:=.agg [vI d,g]) (by show 13 < 23; decide) rfl lhr ?_
  refine rf_v (d:=14) (g:=.ref c 1) rfl rfl (by show 14 < 23; decide) (by kernel_rfl) (fun t x h => by cases h) ?_
  refine rf_ld (d:=15) (i:=c) (k:=1) (g:=g) (by show 15 < 23; decide) rfl lgr ?_
  refine rf_v (d:=16) (g:=vI (q:Int)) rfl rfl (by show 16 < 23; decide) (by kernel_rfl) (fun t x h => by cases h) ?_
  refine rf_v (d:=17) (g:=.ref q0 (q * 6)) rfl rfl (by show 17 < 23; decide) (Eq.trans (by kernel_rfl) hix) (fun t x h => by cases h) ?_
  refine rf_ld (d:=18) (i:=q0) (k:=q * 6) (g:=gK x) (by show 18 < 23; decide) rfl hldr ?_
  refine rf_m (U:=[]) (c:=c1 + 1 + 1) rfl rfl hT [] [] rfl (by kernel_rfl) (by show 19 < 23; decide) (fun k o hk => by cases hk) (fun τ hb hR k o hk => .inr ⟨hk,rfl⟩) ?_
  refine rf_w (d:=20) (g:=.rsl c1 0 1) (U:=[(c1,some ⟨105,cT (tK d x),none⟩)]) (R:=[c1]) c1 ?_ rfl rfl (by show 20 < 23; decide) rfl (xeff_bs rfl ?_ (Nat.ble_eq_true_of_le (show c ≤ c1 by omega)) (by kernel_rfl)) ?_
  ·show [(c1,some resvOb)] = [(c1,sget σr c1)]
   rw [er,sget_ne (by omega),sget_eq rfl]
  ·show isResv (sget σr c1) = true
   rw [er,sget_ne (by omega),sget_eq rfl]; rfl
  refine rf_w (d:=21) (g:=.rsl (c1 + 1) 0 lu.length) (U:=[(c1 + 1,some ⟨105,lu.flatMap cT,none⟩),(jo,none)]) (R:=[c1 + 1,jo,c1]) (c1 + 1) ?_ rfl rfl (by show 21 < 23; decide) rfl (xeff_app (x:=.tmp 12) (y:=.tmp 20) (k:=c1 + 1) (i:=jo) (n:=lt.length) rfl ?_ (Nat.ble_eq_true_of_le (show c ≤ c1 + 1 by omega)) (by kernel_rfl) (Eq.trans (by kernel_rfl) hap2)) ?_
  ·show [(c1 + 1,some resvOb),(jo,some _)] = [(c1 + 1,sget ((c1,some ⟨105,cT (tK d x),none⟩) :: σr) (c1 + 1)),(jo,sget ((c1,some ⟨105,cT (tK d x),none⟩) :: σr) jo)]
   rw [← e2,hjo,e2,sget_ne (by omega),er,sget_eq rfl]
  ·show isResv (sget ((c1,some ⟨105,cT (tK d x),none⟩) :: σr) (c1 + 1)) = true
   rw [sget_ne (by omega),er,sget_eq rfl]; rfl
  refine rf_v (d:=3) (g:=.rsl (c1 + 1) 0 lu.length) rfl rfl (by show 3 < 23; decide) (by kernel_rfl) (fun t x h => by cases h) ?_
  apply rf_nil
  apply blk_n
  apply thn_n
  obtain ⟨σ9,e9⟩:∃ σ9:Sto,σ9 = (c1 + 1,some ⟨105,lu.flatMap cT,none⟩) :: (jo,none) :: (c1,some ⟨105,cT (tK d x),none⟩) :: σr:=⟨_,rfl⟩
  refine Ex.le (st':=⟨23,gl,[(1,.ref c 0),(3,.rsl (c1 + 1) 0 lu.length),(4,vI (q:Int))],σ9,c1 + 1 + 1 + 3,c,false⟩) ?_ (by rw [e9]; exact le_frs (by repeat' (first|exact ⟨⟩|refine ⟨rfl,?_⟩)))
  refine wS ?_
  refine zv (vI (q:Int)) ?_
  refine run_v (g:=vI ((q + 1:Nat):Int)) (Eq.trans (by kernel_rfl) (congrArg some (show G.lit (.int .i64 (IntKind.i64.wrap ((q:Int) + 1))) = _ by rw [w64 (by omega)]; rfl))) (by decide) ?_
  refine zv (vI ((q + 1:Nat):Int)) ?_
  refine wS ?_
  refine ⟨l.length - (q + 1),_,by omega,le_frs (fr':=[(1,.ref c 0),(3,.rsl (c1 + 1) 0 lu.length),(4,vI ((q + 1:Nat):Int))]) (by repeat' (first|exact ⟨⟩|refine ⟨rfl,?_⟩)),q + 1,σ9,_,c1 + 1,by rw [← elu],rfl,by omega,by rw [← elu,e9]; exact sget_eq rfl,by omega,fun k hk => ?_,?_⟩
  ·rw [e9,sget_ne (by omega),sget_ne (by omega),sget_ne (by omega),kr k (by omega)]
   exact h4 k hk
  ·rw [e9,sget_ne (by omega),sget_ne (by omega),sget_ne (by omega),kr c (by omega)]
   exact h5
 ·refine wS ?_
  refine zv (.rsl jo 0 lt.length) ?_
  refine zv (.rsl jo 0 lt.length) ?_
  refine wS ?_
  rw [List.take_of_length_le (by omega)] at elt
  rw [elt] at h1
  exact endx (.inr rfl) (gs:=[.rsl jo 0 lt.length]) (by kernel_rfl) ⟨some jo,rowA_new len_cT h1 (by rw [elt]),fun j hj => (by cases hj; omega),by omega,h4⟩
end
section
open Go.RowKit
attribute [local irreducible] Tr Run RunD RunF GS TG Le Wk Frz Fn' ImmG Flat WkFr WkSt EndM Ex EndX McK FnM gNm gK
def arI (n m:Int):Int:=(if n < 0 then -(n + 1) else n) % m
theorem arI_bd {n m:Int} (h:0 < m):0 ≤ arI n m ∧ arI n m < m:=⟨Int.emod_nonneg _ (by omega),Int.emod_lt_of_pos _ h⟩
theorem around_fn (gl:List (Nat × List G)) (n m:Int) (hn:Is64 n) (hm:0 < m):Fn' Tryz.prog gl 7 [vI n,vI m] (vI (arI n m)):=by
 unfold Is64 at hn
 refine fn_enter Tryz.func7 rfl (by simp [Tryz.ntmps7]) (Ex.tr ?_)
 simp only [St.enter,enterFr,Tryz.ntmps7]
 refine wS ?_
 refine zv (vI 0) ?_
 refine wS ?_
 refine zv (vI n) ?_
 refine run_bin rfl rfl (ltI (a:=n) (b:=0)) (by decide) ?_
 refine wS ?_
 refine ex_thn (K:=fun s => ∃ fr',s = ⟨13,gl,fr',[],0,0,false⟩ ∧ FrOk fr' [(0,vI (if n < 0 then -(n + 1) else n)),(1,vI m)]) ?_ ?_
 ·refine ex_condP (p:=n < 0) rfl (fun h => ?_) (fun h => ?_)
  ·
   refine wS ?_
   refine zv (vI n) ?_
   refine run_bin rfl rfl (addI (a:=n) (b:=1) (by unfold Is64; omega)) (by decide) ?_
   refine run_un rfl (negI (a:=n + 1) (by unfold Is64; omega)) (by decide) ?_
   refine zv (vI (-(n + 1))) ?_
   refine wS ?_
   rw [if_pos h]
   exact ⟨rfl,_,rfl,rfl,rfl,trivial⟩
  ·refine wS ?_
   rw [if_neg h]
   exact ⟨rfl,_,rfl,rfl,rfl,trivial⟩
 rintro s ⟨fr',rfl,hfr⟩
 refine Ex.le ?_ (le_frs hfr)
 have ha:0 ≤ (if n < 0 then -(n + 1) else n):=by split <;> omega
 obtain ⟨a,ea⟩:∃ a,a = (if n < 0 then -(n + 1) else n):=⟨_,rfl⟩
 have er:arI n m = a % m:=by rw [ea]; rfl
 rw [er]
 rw [← ea] at ha ⊢
 refine wS ?_
 refine zv (vI a) ?_
 refine zv (vI m) ?_
 refine run_bin rfl rfl (remI (a:=a) (b:=m) (by omega) (by omega)) (by decide) ?_
 refine zv (vI (a % m)) ?_
 refine wS ?_
 exact ended_r rfl (frz_int rfl)
theorem secret01_fn (gl:List (Nat × List G)) (n:Nat):Fn' Tryz.prog gl 20 [vU n] (vU (1 + n % 2305843009213693949)):=by
 have hb:n % 2305843009213693949 < 2305843009213693949:=Nat.mod_lt _ (by decide)
 refine fn_enter Tryz.func20 rfl (by simp [Tryz.ntmps20]) (Ex.tr ?_)
 simp only [St.enter,enterFr,Tryz.ntmps20]
 refine wS ?_
 refine zv (vU 0) ?_
 refine wS ?_
 refine zv (vU n) ?_
 refine run_bin rfl rfl (remU (a:=n) (b:=2305843009213693949) (by decide)) (by decide) ?_
 refine run_bin rfl rfl (addU (a:=1) (b:=n % 2305843009213693949) (by omega)) (by decide) ?_
 refine zv (vU (1 + (n % 2305843009213693949))) ?_
 refine wS ?_
 exact ended_r rfl (frz_int rfl)
theorem sl_pre (L:List UInt8) (k:Nat) (hk:k ≤ L.length):gsliceOf Tryz.prog 22 (.sl (L.map gY) L.length) (some none) (some (some (k:Int))) = some (.sl ((L.take k).map gY) k):=by
 simp only [gsliceOf,Option.bind_some,gslice]
 rw [show telem Tryz.prog 22 = some 5 by kernel_rfl]
 simp only [Option.bind_some]
 rw [show tsize Tryz.prog 5 = some 1 by kernel_rfl]
 simp only [Option.bind_some]
 rw [if_pos (by omega)]
 simp [List.map_take]
theorem few_fn (gl:List (Nat × List G)) (L:List UInt8):FnR Tryz.prog gl 8 [.sl (L.map gY) L.length,vI 40] 5 (L.take 40).length ((L.take 40).map gY):=by
 refine fnr_enter Tryz.func8 rfl (by simp [Tryz.ntmps8]) (Ex.tr ?_)
 simp only [St.enter,enterFr,Tryz.ntmps8]
 obtain ⟨k,ek⟩:∃ k,k = min 40 L.length:=⟨_,rfl⟩
 have hk:k ≤ L.length:=by omega
 have etk:L.take 40 = L.take k:=by rw [ek,List.take_eq_take_iff]; omega
 have hlk:(L.take k).length = k:=by rw [List.length_take]; omega
 have hmin:(some (G.lit (.int .i64 (if (40:Int) < (L.length:Int) then 40 else (L.length:Int)))):Option G) = some (vI (k:Int)):=by
  rw [ek]
  congr 3
  split <;> omega
 obtain ⟨q,hq,hq2⟩:=rowb_app (σ:=[]) (g:=.lit (.slice none 0 0)) (l:=[]) (r:=none) ⟨rfl,rfl,rfl⟩ (gy:=.sl ((L.take k).map gY) k) (m:=L.take k) (by simp [gview]; omega) (by simp; omega) 0
 simp only [List.nil_append,reduceCtorEq,or_false] at hq hq2
 subst hq2
 rw [etk]
 refine wS ?_
 refine zv (.lit (.slice none 0 0)) ?_
 refine wS ?_
 refine zv (.lit (.slice none 0 0)) ?_
 refine wS ?_
 refine zv (.lit (.slice none 0 0)) ?_
 refine zv (.sl (L.map gY) L.length) ?_
 refine zv (.sl (L.map gY) L.length) ?_
 refine run_ln rfl (by kernel_rfl) rfl (by decide) ?_
 refine zv (vI 40) ?_
 refine run_min (g:=vI (k:Int)) (Eq.trans (by kernel_rfl) hmin) (by decide) ?_
 refine run_v (g:=.sl ((L.take k).map gY) k) (Eq.trans (by kernel_rfl) (sl_pre L k hk)) (by decide) ?_
 refine run_app hq (by decide) ?_
 refine zv (.rsl 0 0 (L.take k).length) ?_
 refine wS ?_
 exact endR (i:=0) (u:=4) rfl rfl rfl (sget_eq rfl) (imm_bytes _) (.inr rfl)
theorem new_mc (gl:List (Nat × List G)) (d:Int) (k:Nat) (σ:Sto) (c:Nat):Mc Tryz.prog gl 21 [vI d,vU k] σ c (fun v σ' c' => v = .ref (c + 1) 0 ∧ c' = c + 2 ∧ HoldAt σ' (c + 1) c d [(.zero,k)] ∧ ∀ j,j < c → sget σ' j = sget σ j):=by
 refine mc_enter (by kernel_rfl) Tryz.func21 rfl (by simp [Tryz.ntmps21]) ?_
 simp only [enterFr,Tryz.ntmps21]
 refine wS ?_
 refine zv (.lit (.pointer none)) ?_
 refine wS ?_
 refine zv (vI d) ?_
 refine run_mk (by kernel_rfl) (by decide) ?_
 refine run_build (g:=gNm .zero) (by kernel_rfl) (by decide) ?_
 refine zv (vU k) ?_
 refine run_mi rfl rfl rfl (putN (kp:=[]) (sget_eq rfl) .zero k) ?_
 refine zv (.mref c) ?_
 refine run_build (g:=.agg [vI d,.mref c]) (by kernel_rfl) (by decide) ?_
 refine run_box (l:=[vI d,.mref c]) (by kernel_rfl) (by decide) ?_
 refine zv (.ref (c + 1) 0) ?_
 refine wS ?_
 refine endx (.inr rfl) (gs:=[.ref (c + 1) 0]) (by kernel_rfl) ⟨rfl,rfl,⟨by omega,sget_eq rfl,by rw [sget_ne (by omega),sget_eq rfl]; rfl⟩,fun j hj => ?_⟩
 rw [sget_ne (by omega),sget_ne (by omega),sget_ne (by omega)]
theorem learn_mc (gl:List (Nat × List G)) {i m:Nat} {d:Int} {kp:List (Nm × Nat)} {σ:Sto} (c:Nat) (h:HoldAt σ i m d kp) (hi:i < c) (hm:m < c) (x:Idn) (n:Int) (p:Nat):Mc Tryz.prog gl 24 [.ref i 0,vIdn x,vI n,vU p] σ c (fun v σ' c' => v = .tup [] ∧ c' = c + 1 ∧ HoldAt σ' i m d (putM kp ⟨x,n⟩ p) ∧ ∀ j,j < c → j ≠ m → sget σ' j = sget σ j):=by
 obtain ⟨σ1,e1⟩:∃ σ1:Sto,σ1 = (c,some (idO x.a x.b x.c)) :: σ:=⟨_,rfl⟩
 have h1:HoldAt σ1 i m d kp:=h.of (by rw [e1,sget_ne (by omega)]) (by rw [e1,sget_ne (by omega)])
 obtain ⟨_,l1⟩:=hold_ld h1.i
 have hne:=h.ne
 have li:=id_ld (σ:=σ1) (k:=c) (a:=x.a) (b:=x.b) (s:=x.c) (by rw [e1]; exact sget_eq rfl)
 refine mc_enter (by kernel_rfl) Tryz.func24 rfl (by simp [Tryz.ntmps24]) ?_
 simp only [enterFr,Tryz.ntmps24]
 refine wS ?_
 refine run_box (cells_id x.a x.b x.c) (by decide) ?_
 rw [← e1]
 refine wN ?_
 refine ex_region_draw (bars:=[8]) mixed (by kernel_rfl) ?_
 refine zd (.ref i 0) ?_
 refine zd (.ref i 0) ?_
 refine zd (.ref i 1) ?_
 refine rund_v (g:=.mref m) (Eq.trans (by kernel_rfl) (l1)) (by decide) ?_
 refine rund_ld rfl li (by decide) ?_
 refine zd (vI n) ?_
 refine rund_build (g:=gNm ⟨x,n⟩) (by kernel_rfl) (by decide) ?_
 refine zd (vU p) ?_
 refine rund_mu rfl rfl rfl rfl (putN h1.m ⟨x,n⟩ p) ?_
 apply rund_nil
 refine endx (.inl rfl) (gs:=[]) rfl ⟨rfl,rfl,⟨hne,by rw [sget_ne (by omega)]; exact h1.i,sget_eq rfl⟩,fun j hj hjm => ?_⟩
 rw [sget_ne (by omega),e1,sget_ne (by omega)]
end
section
open Go.RowKit
attribute [local irreducible] Tr Run RunD RunF GS TG Le Wk Frz Fn' ImmG Flat WkFr WkSt EndM Ex EndX McK FnM gNm gK
abbrev rowK (l:List KK):Ob:=⟨81,l.flatMap cK,none⟩
theorem rnew_mc (gl:List (Nat × List G)) (d:Int) (k:Nat) (σ:Sto) (c:Nat):Mc Tryz.prog gl 22 [vI d,vU k] σ c (fun v σ' c' => v = .agg [vI d,.rsl (c + 1) 0 1] ∧ c' = c + 2 ∧ sget σ' (c + 1) = some (rowK [⟨true,.zero,0,k⟩]) ∧ ∀ j,j < c → sget σ' j = sget σ j):=by
 refine mc_enter (by kernel_rfl) Tryz.func22 rfl (by simp [Tryz.ntmps22]) ?_
 simp only [enterFr,Tryz.ntmps22]
 refine wS ?_
 refine run_alloc (l:=[vI 0,gN0]) (by kernel_rfl) (by decide) ?_
 refine wS ?_
 refine zv (vI d) ?_
 refine zv (vU k) ?_
 refine run_build (g:=gK ⟨true,.zero,0,k⟩) (by kernel_rfl) (by decide) ?_
 refine run_bs (kRow_bs _) (by decide) ?_
 refine run_build (g:=.agg [vI d,.rsl (c + 1) 0 1]) (by kernel_rfl) (by decide) ?_
 refine run_sto (hO_stw (d:=0) (g:=gN0) (by rw [sget_ne (by omega)]; exact sget_eq rfl)) ?_
 refine wS ?_
 refine endx (.inr rfl) (gs:=[.agg [vI d,.rsl (c + 1) 0 1]]) (res_cell (a:=4) (t:=36) rfl (hO_ld (sget_eq rfl)).2.2) ⟨rfl,rfl,?_,fun j hj => ?_⟩
 ·rw [sget_ne (by omega),sget_eq rfl]; rfl
 ·rw [sget_ne (by omega),sget_ne (by omega),sget_ne (by omega)]
theorem kRowS {σ:Sto} {l m:List KK} {j:Nat} (h:sget σ j = some (rowK l)) {gy:G} (hv:gview σ 6 gy = some (m.flatMap cK,m.length)) (hb:l.length + m.length ≤ 100000) (c:Nat) :
  gapp Tryz.prog σ c 34 (.rsl j 0 l.length) gy = some (81,j,(l ++ m).length,(l ++ m).flatMap cK):=by
 rw [row_appS (s:=6) (b:=48) (zs:=[.bool false,.int .i64 0,.int .i64 0,.int .u64 0,.int .i64 0,.int .u64 0]) (by kernel_rfl) (by kernel_rfl) (by omega) (by kernel_rfl) rfl (by kernel_rfl) h (rw_len len_cK l) hv ⟨by omega,by omega⟩ c]
 simp
theorem sliceK_pre (j n k:Nat) (h:k ≤ n):gsliceOf Tryz.prog 34 (.rsl j 0 n) (some none) (some (some (k:Int))) = some (.rsl j 0 k):=by
 simp only [gsliceOf,Option.bind_some,gslice]
 rw [show telem Tryz.prog 34 = some 81 by kernel_rfl]
 simp only [Option.bind_some]
 rw [show tsize Tryz.prog 81 = some 6 by kernel_rfl]
 simp only [Option.bind_some]
 rw [if_neg (by decide),if_pos (by omega)]
 simp
theorem sliceK_suf (j n k:Nat) (h:k ≤ n):gsliceOf Tryz.prog 34 (.rsl j 0 n) (some (some (k:Int))) (some none) = some (.rsl j (k * 6) (n - k)):=by
 simp only [gsliceOf,Option.bind_some,gslice]
 rw [show telem Tryz.prog 34 = some 81 by kernel_rfl]
 simp only [Option.bind_some]
 rw [show tsize Tryz.prog 81 = some 6 by kernel_rfl]
 simp only [Option.bind_some]
 rw [if_neg (by decide),if_pos (by omega)]
 simp
theorem viewK_pre {σ:Sto} {j:Nat} {l:List KK} (h:sget σ j = some (rowK l)) (k:Nat) (hk:k ≤ l.length):gview σ 6 (.rsl j 0 k) = some ((l.take k).flatMap cK,(l.take k).length):=by
 have hl:=rw_len len_cK l
 simp only [gview,h,Option.bind_some]
 rw [if_pos (by omega),List.drop_zero,rw_take len_cK,List.length_take,Nat.min_eq_left hk]
theorem viewK_suf {σ:Sto} {j:Nat} {l:List KK} (h:sget σ j = some (rowK l)) (k:Nat) (hk:k ≤ l.length):gview σ 6 (.rsl j (k * 6) (l.length - k)) = some ((l.drop k).flatMap cK,(l.drop k).length):=by
 have hl:=rw_len len_cK l
 have hd:=rw_len len_cK (l.drop k)
 rw [List.length_drop] at hd
 simp only [gview,h,Option.bind_some]
 rw [if_pos (by omega),rw_drop len_cK,List.take_of_length_le (by omega),List.length_drop]
structure LG (σ σ1:Sto) (c c1:Nat) (d:Int) (g:G) (x:Idn) (k:KK):Prop where
 h0:sget σ1 c = some (hO d g)
 h1:sget σ1 (c + 1) = some (idO x.a x.b x.c)
 h2:sget σ1 (c + 2) = some (hO 0 gN0)
 h3:sget σ1 (c + 3) = some (kO k)
 hc:c + 3 < c1
 hk:∀ j,j < c → sget σ1 j = sget σ j
theorem LG.more {σ σ1 σ2:Sto} {c c1 c2:Nat} {d:Int} {g:G} {x:Idn} {k:KK} (h:LG σ σ1 c c1 d g x k) (hc:c1 ≤ c2) (hs:∀ j,j < c + 4 → sget σ2 j = sget σ1 j):LG σ σ2 c c2 d g x k:=by
 have:=h.hc
 exact ⟨(hs _ (by omega)).trans h.h0,(hs _ (by omega)).trans h.h1,(hs _ (by omega)).trans h.h2,(hs _ (by omega)).trans h.h3,by omega,fun j hj => (hs j (by omega)).trans (h.hk j hj)⟩
set_option maxHeartbeats 8000000 in
theorem rlearn_mc (gl:List (Nat × List G)) (d:Int) {jg:Nat} {l:List KK} (x:Idn) (n:Int) (p:Nat) (σ:Sto) (c:Nat) (hg:sget σ jg = some (rowK l)) (hgc:jg < c) (hl:l.length ≤ 1000) :
  Mc Tryz.prog gl 25 [.agg [vI d,.rsl jg 0 l.length],vIdn x,vI n,vU p] σ c (fun v σ' c' => ∃ q l',v = .agg [vI d,.rsl q 0 l'.length] ∧ sget σ' q = some (rowK l') ∧ c ≤ q ∧ q < c' ∧ (∀ j,j < c → sget σ' j = sget σ j) ∧ l'.length ≤ l.length + 1 ∧ l' ≠ [] ∧ ∀ y ∈ l',y ∈ l ∨ y = ⟨false,x,n,p⟩):=by
 obtain ⟨k,ek⟩:∃ k:KK,k = ⟨false,x,n,p⟩:=⟨_,rfl⟩
 obtain ⟨σ0,e0⟩:∃ σ0:Sto,σ0 = (c + 2,some (hO 0 gN0)) :: (c + 1,some (idO x.a x.b x.c)) :: (c,some (hO d (.rsl jg 0 l.length))) :: σ:=⟨_,rfl⟩
 obtain ⟨σ1,e1⟩:∃ σ1:Sto,σ1 = (c + 2 + 1,some (kO k)) :: (c + 2 + 1,some (kO .zero)) :: σ0:=⟨_,rfl⟩
 have L1:LG σ σ1 c (c + 2 + 1 + 1) d (.rsl jg 0 l.length) x k:=by
  refine ⟨?_,?_,?_,?_,by omega,fun j hj => ?_⟩
  ·rw [e1,sget_ne (by omega),sget_ne (by omega),e0,sget_ne (by omega),sget_ne (by omega),sget_eq rfl]
  ·rw [e1,sget_ne (by omega),sget_ne (by omega),e0,sget_ne (by omega),sget_eq rfl]
  ·rw [e1,sget_ne (by omega),sget_ne (by omega),e0,sget_eq rfl]
  ·rw [e1,sget_eq rfl]
  ·rw [e1,sget_ne (by omega),sget_ne (by omega),e0,sget_ne (by omega),sget_ne (by omega),sget_ne (by omega)]
 have li:=id_ld (σ:=σ0) (k:=c + 1) (a:=x.a) (b:=x.b) (s:=x.c) (by rw [e0,sget_ne (by omega),sget_eq rfl])
 refine mc_enter (by kernel_rfl) Tryz.func25 rfl (by simp [Tryz.ntmps25]) ?_
 simp only [enterFr,Tryz.ntmps25]
 refine wS ?_
 refine run_box (l:=[vI d,.rsl jg 0 l.length]) (by kernel_rfl) (by decide) ?_
 refine run_box (cells_id x.a x.b x.c) (by decide) ?_
 refine run_alloc (l:=[vI 0,gN0]) (by kernel_rfl) (by decide) ?_
 rw [show ((c + 1 + 1,some (⟨36,[vI 0,gN0],none⟩:Ob)) :: (c + 1,some ⟨61,[vI x.a,vI x.b,vU x.c],none⟩) :: (c,some ⟨36,[vI d,.rsl jg 0 l.length],none⟩) :: σ:Sto) = σ0 from e0.symm]
 refine wS ?_
 refine run_ld rfl li (by decide) ?_
 refine zv (vI n) ?_
 refine zv (vU p) ?_
 refine run_build (g:=gK k) (by rw [ek]; kernel_rfl) (by decide) ?_
 refine run_alloc (l:=cK .zero) (by kernel_rfl) (by decide) ?_
 refine run_sto (k_stw (k:=.zero) (sget_eq rfl)) ?_
 rw [show ((c + 1 + 1 + 1,some (kO k)) :: (c + 1 + 1 + 1,some (⟨81,cK .zero,none⟩:Ob)) :: σ0:Sto) = σ1 from e1.symm]
 refine wS ?_
 refine zv (gN0) ?_
 refine wS ?_
 refine zv (vI ((0:Nat):Int)) ?_
 apply run_nil
 apply thn_n
 apply ex_block
 have L2:LG σ ((c + 2 + 1 + 1,some (rowK [])) :: σ1) c (c + 2 + 1 + 1 + 1) d (.rsl jg 0 l.length) x k:=L1.more (by omega) (fun j hj => by rw [sget_ne (by omega)])
 refine Ex.le ?_ (le_virt 81 (d:=10) (by show 10 < 79; decide) (by kernel_rfl))
 refine ex_bthn (K:=fun s => ∃ fr' σ3 c3 jo lo,s = ⟨79,gl,fr',σ3,c3,c,false⟩ ∧ FrOk fr' [(4,.ref c 0),(8,.ref (c + 2) 0),(9,.ref (c + 3) 0),(10,.rsl jo 0 lo.length)] ∧ LG σ σ3 c c3 d (.rsl jg 0 l.length) x k ∧ sget σ3 jo = some (rowK lo) ∧ c + 4 ≤ jo ∧ jo < c3 ∧ lo.length ≤ l.length ∧ ∀ y ∈ lo,y ∈ l) ?_ ?_
 ·refine ex_loop (fun t s => ∃ (q:Nat) (σ3:Sto) (c3 jo:Nat) (lo:List KK),s = ⟨79,gl,[(2,vI n),(4,.ref c 0),(5,.ref (c + 1) 0),(8,.ref (c + 2) 0),(9,.ref (c + 3) 0),(10,.rsl jo 0 lo.length),(11,vI (q:Int))],σ3,c3,c,false⟩ ∧ t = l.length - q ∧ q ≤ l.length ∧ LG σ σ3 c c3 d (.rsl jg 0 l.length) x k ∧ sget σ3 jo = some (rowK lo) ∧ c + 4 ≤ jo ∧ jo < c3 ∧ lo.length ≤ q ∧ ∀ y ∈ lo,y ∈ l) l.length (le_frs (fr':=[(2,vI n),(4,.ref c 0),(5,.ref (c + 1) 0),(8,.ref (c + 2) 0),(9,.ref (c + 3) 0),(10,.rsl (c + 2 + 1 + 1) 0 0),(11,vI ((0:Nat):Int))]) (by repeat' (first|exact ⟨⟩|refine ⟨rfl,?_⟩))) ⟨0,_,c + 2 + 1 + 1 + 1,c + 2 + 1 + 1,[],rfl,rfl,by omega,L2,sget_eq rfl,by omega,by omega,by simp,fun y hy => by cases hy⟩ ?_
  rintro t s ⟨q,σ3,c3,jo,lo,rfl,rfl,hq,hL,hjo,hj1,hj2,hlo,hin⟩
  have hc3:=hL.hc
  obtain ⟨_,lg,_⟩:=hO_ld hL.h0
  refine wS ?_
  refine zv (vI (q:Int)) ?_
  refine zv (.ref c 1) ?_
  refine zt (.rsl jg 0 l.length) lg ?_
  refine zv (vI l.length) ?_
  refine run_bin rfl rfl (ltI (a:=(q:Int)) (b:=l.length)) (by decide) ?_
  refine wS ?_
  refine ex_condP (p:=(q:Int) < (l.length:Int)) rfl (fun hlt => ?_) (fun hlt => ?_)
  ·obtain ⟨y,hy⟩:∃ y,l[q]? = some y:=⟨_,List.getElem?_eq_getElem (by omega)⟩
   have hgr:sget σ3 jg = some (rowK l):=(hL.hk jg hgc).trans hg
   obtain ⟨q0,hq0,hix,_⟩:=rowA_ix (P:=Tryz.prog) (t:=34) (e:=81) len_cK (by kernel_rfl) (by kernel_rfl) (rowA_new (σ:=σ3) len_cK hgr rfl) hy
   cases hq0
   have hldy:gload Tryz.prog σ3 81 (.ref jg (q * 6)) = some (gK y):=by
    rw [gK_c]
    exact rowA_ld (P:=Tryz.prog) (e:=81) len_cK (by kernel_rfl) (by kernel_rfl) hgr hy
   obtain ⟨σ4,e4⟩:∃ σ4:Sto,σ4 = (c3,some (kO y)) :: (c3,some (kO .zero)) :: σ3:=⟨_,rfl⟩
   have k4:∀ j,j < c3 → sget σ4 j = sget σ3 j:=fun j hj => by rw [e4,sget_ne (by omega),sget_ne (by omega)]
   have L4:LG σ σ4 c (c3 + 1) d (.rsl jg 0 l.length) x k:=hL.more (by omega) (fun j hj => k4 j (by omega))
   obtain ⟨y0,y1,y2,_,_,y5⟩:=k_ld (σ:=σ4) (j:=c3) (k:=y) (by rw [e4]; exact sget_eq rfl)
   have li4:=id_ld L4.h1
   refine wS ?_
   refine zv (.ref c 1) ?_
   refine zt (.rsl jg 0 l.length) lg ?_
   refine zv (vI (q:Int)) ?_
   refine zt (.ref jg (q * 6)) hix ?_
   refine run_ld rfl hldy (by decide) ?_
   refine run_alloc (l:=cK .zero) (by kernel_rfl) (by decide) ?_
   refine run_sto (k_stw (k:=.zero) (sget_eq rfl)) ?_
   rw [← e4]
   refine wN ?_
   obtain ⟨yl,eyl⟩:∃ b,b = y.lead:=⟨_,rfl⟩
   rw [← eyl] at y0
   refine ex_region_k (fun s => ∃ fr' b,s = ⟨79,gl,fr',σ4,c3 + 1,c,false⟩ ∧ FrOk fr' [(2,vI n),(4,.ref c 0),(5,.ref (c + 1) 0),(8,.ref (c + 2) 0),(9,.ref (c + 3) 0),(10,.rsl jo 0 lo.length),(11,vI (q:Int)),(12,.ref c3 0),(45,vB b)]) ?_ ?_
   ·refine zv (.ref c3 0) ?_
    refine zt (vB yl) y0 ?_
    cases yl with
    | true =>
     refine zv (vB false) ?_
     refine zv (vB false) ?_
     refine zn ?_
     refine zn ?_
     refine zn ?_
     refine zn ?_
     refine zv (vB false) ?_
     refine zv (vB false) ?_
     refine zn ?_
     refine zn ?_
     refine zn ?_
     refine zn ?_
     refine zv (vB false) ?_
     exact run_nil ⟨_,false,rfl,(by repeat' (first|exact ⟨⟩|refine ⟨rfl,?_⟩))⟩
    | false =>
     refine zv (vB true) ?_
     refine zv (vB true) ?_
     refine zg (.ref c3 1) ?_
     refine ged_v (g:=vIdn y.i) (by kernel_rfl) (Eq.trans (by kernel_rfl) (y1)) (by decide) ?_
     refine ged_v (g:=vIdn x) (by kernel_rfl) (Eq.trans (by kernel_rfl) (li4)) (by decide) ?_
     refine ged_bin (by kernel_rfl) rfl rfl (eqlId y.i x) (by decide) ?_
     by_cases hi:y.i = x
     ·rw [decide_eq_true hi]
      refine zv (vB true) ?_
      refine zv (vB true) ?_
      refine zg (.ref c3 4) ?_
      refine ged_v (g:=vI y.n) (by kernel_rfl) (Eq.trans (by kernel_rfl) (y2)) (by decide) ?_
      refine zg (vI n) ?_
      refine ged_bin (by kernel_rfl) rfl rfl (eqI (a:=y.n) (b:=n)) (by decide) ?_
      refine zv (vB (decide ((y.n:Int) = n))) ?_
      exact run_nil ⟨_,_,rfl,(by repeat' (first|exact ⟨⟩|refine ⟨rfl,?_⟩))⟩
     ·rw [decide_eq_false hi]
      refine zv (vB false) ?_
      refine zv (vB false) ?_
      refine zn ?_
      refine zn ?_
      refine zn ?_
      refine zn ?_
      refine zv (vB false) ?_
      exact run_nil ⟨_,false,rfl,(by repeat' (first|exact ⟨⟩|refine ⟨rfl,?_⟩))⟩
   rintro s' ⟨fr',b,rfl,hfr⟩
   apply thn_n
   refine Ex.le ?_ (le_frs hfr)
   refine ex_condB (t:=b) rfl (fun hb => ?_) (fun hb => ?_)
   ·
    refine wS ?_
    refine zv (vI (q:Int)) ?_
    refine run_v (g:=vI ((q + 1:Nat):Int)) (Eq.trans (by kernel_rfl) (congrArg some (show G.lit (.int .i64 (IntKind.i64.wrap ((q:Int) + 1))) = _ by rw [w64 (by omega)]; rfl))) (by decide) ?_
    refine zv (vI ((q + 1:Nat):Int)) ?_
    refine wS ?_
    exact ⟨l.length - (q + 1),_,by omega,le_frs (fr':=[(2,vI n),(4,.ref c 0),(5,.ref (c + 1) 0),(8,.ref (c + 2) 0),(9,.ref (c + 3) 0),(10,.rsl jo 0 lo.length),(11,vI ((q + 1:Nat):Int))]) (by repeat' (first|exact ⟨⟩|refine ⟨rfl,?_⟩)),q + 1,σ4,_,jo,lo,rfl,rfl,by omega,L4,by rw [k4 jo (by omega)]; exact hjo,hj1,by omega,by omega,hin⟩
   ·
    obtain ⟨σ5,e5⟩:∃ σ5:Sto,σ5 = (c3 + 1,some (kO y)) :: σ4:=⟨_,rfl⟩
    have hap:=kRowS (σ:=σ5) (l:=lo) (m:=[y]) (j:=jo) (by rw [e5,sget_ne (by omega),k4 jo (by omega)]; exact hjo) (one_view len_cK (by rw [e5]; exact sget_eq rfl)) (by simp; omega) (c3 + 1 + 1)
    refine wS ?_
    refine zv (.rsl jo 0 lo.length) ?_
    refine run_ld rfl y5 (by decide) ?_
    refine run_bs (kRow_bs _) (by decide) ?_
    refine run_app (by rw [← e5]; exact hap) (by decide) ?_
    refine zv (.rsl (c3 + 1 + 1) 0 (lo ++ [y]).length) ?_
    refine wS ?_
    refine zv (vI (q:Int)) ?_
    refine run_v (g:=vI ((q + 1:Nat):Int)) (Eq.trans (by kernel_rfl) (congrArg some (show G.lit (.int .i64 (IntKind.i64.wrap ((q:Int) + 1))) = _ by rw [w64 (by omega)]; rfl))) (by decide) ?_
    refine zv (vI ((q + 1:Nat):Int)) ?_
    refine wS ?_
    refine ⟨l.length - (q + 1),_,by omega,le_frs (fr':=[(2,vI n),(4,.ref c 0),(5,.ref (c + 1) 0),(8,.ref (c + 2) 0),(9,.ref (c + 3) 0),(10,.rsl (c3 + 1 + 1) 0 (lo ++ [y]).length),(11,vI ((q + 1:Nat):Int))]) (by repeat' (first|exact ⟨⟩|refine ⟨rfl,?_⟩)),q + 1,_,_,c3 + 1 + 1,lo ++ [y],rfl,rfl,by omega,L4.more (by omega) (fun j hj => ?_),sget_eq rfl,by omega,by omega,by simp; omega,fun z hz => ?_⟩
    ·rw [sget_ne (by omega),sget_ne (by omega),sget_ne (by omega)]
    ·rcases List.mem_append.1 hz with hz | hz
     ·exact hin z hz
     ·obtain rfl:=List.mem_singleton.1 hz
      exact List.mem_of_getElem? hy
  ·refine wS ?_
   exact ⟨rfl,_,σ3,c3,jo,lo,rfl,(by repeat' (first|exact ⟨⟩|refine ⟨rfl,?_⟩)),hL,hjo,hj1,hj2,by omega,hin⟩
 rintro s ⟨fr',σ3,c3,jo,lo,rfl,hfr,hL,hjo,hj1,hj2,hlo,hin⟩
 refine Ex.le ?_ (le_frs hfr)
 have hc3:=hL.hc
 obtain ⟨_,_,_,_,_,lk⟩:=k_ld hL.h3
 refine wN ?_
 apply ex_region
 refine zv (vI ((0:Nat):Int)) ?_
 apply run_nil
 apply thn_n
 apply ex_seq
 apply ex_block
 refine ex_bthn (K:=fun s => ∃ fr' q,s = ⟨79,gl,fr',σ3,c3,c,false⟩ ∧ FrOk fr' [(4,.ref c 0),(8,.ref (c + 2) 0),(9,.ref (c + 3) 0),(10,.rsl jo 0 lo.length),(13,vI ((q:Nat):Int))] ∧ q ≤ lo.length) ?_ ?_
 ·refine ex_loop (fun t s => ∃ q:Nat,s = ⟨79,gl,[(4,.ref c 0),(8,.ref (c + 2) 0),(9,.ref (c + 3) 0),(10,.rsl jo 0 lo.length),(13,vI (q:Int))],σ3,c3,c,false⟩ ∧ t = lo.length - q ∧ q ≤ lo.length) lo.length (le_frs (fr':=[(4,.ref c 0),(8,.ref (c + 2) 0),(9,.ref (c + 3) 0),(10,.rsl jo 0 lo.length),(13,vI ((0:Nat):Int))]) (by repeat' (first|exact ⟨⟩|refine ⟨rfl,?_⟩))) ⟨0,rfl,rfl,by omega⟩ ?_
  rintro t s ⟨q,rfl,rfl,hq⟩
  refine wS ?_
  refine zv (vI (q:Int)) ?_
  refine zv (.rsl jo 0 lo.length) ?_
  refine zv (vI lo.length) ?_
  refine run_bin rfl rfl (ltI (a:=(q:Int)) (b:=lo.length)) (by decide) ?_
  refine wS ?_
  refine ex_condP (p:=(q:Int) < (lo.length:Int)) rfl (fun hlt => ?_) (fun hlt => ?_)
  ·obtain ⟨y,hy⟩:∃ y,lo[q]? = some y:=⟨_,List.getElem?_eq_getElem (by omega)⟩
   obtain ⟨q0,hq0,hix,_⟩:=rowA_ix (P:=Tryz.prog) (t:=34) (e:=81) len_cK (by kernel_rfl) (by kernel_rfl) (rowA_new (σ:=σ3) len_cK hjo rfl) hy
   cases hq0
   have hldy:gload Tryz.prog σ3 81 (.ref jo (q * 6)) = some (gK y):=by
    rw [gK_c]
    exact rowA_ld (P:=Tryz.prog) (e:=81) len_cK (by kernel_rfl) (by kernel_rfl) hjo hy
   refine wN ?_
   refine ex_region_draw (bars:=[]) mixed (by kernel_rfl) ?_
   refine zd (.rsl jo 0 lo.length) ?_
   refine zd (vI (q:Int)) ?_
   refine rund_v (g:=.ref jo (q * 6)) (Eq.trans (by kernel_rfl) hix) (by decide) ?_
   refine rund_ld rfl hldy (by decide) ?_
   refine rund_ld rfl lk (by decide) ?_
   refine rund_c (ahead_fn gl y k) (by kernel_rfl) (by decide) rfl (im2 (gK_imm y) (gK_imm k)) ?_
   refine zd (vB (!(aheadK y k))) ?_
   apply rund_nil
   refine wS ?_
   refine ex_condB (t:=!aheadK y k) rfl (fun hb => ?_) (fun hb => ?_)
   ·refine wS ?_
    exact ⟨rfl,_,q,rfl,(by repeat' (first|exact ⟨⟩|refine ⟨rfl,?_⟩)),hq⟩
   ·refine wS ?_
    refine zv (vI (q:Int)) ?_
    refine run_v (g:=vI ((q + 1:Nat):Int)) (Eq.trans (by kernel_rfl) (congrArg some (show G.lit (.int .i64 (IntKind.i64.wrap ((q:Int) + 1))) = _ by rw [w64 (by omega)]; rfl))) (by decide) ?_
    refine zv (vI ((q + 1:Nat):Int)) ?_
    refine wS ?_
    exact ⟨lo.length - (q + 1),_,by omega,le_frs (fr':=[(4,.ref c 0),(8,.ref (c + 2) 0),(9,.ref (c + 3) 0),(10,.rsl jo 0 lo.length),(13,vI ((q + 1:Nat):Int))]) (by repeat' (first|exact ⟨⟩|refine ⟨rfl,?_⟩)),q + 1,rfl,rfl,by omega⟩
  ·refine wS ?_
   exact ⟨rfl,_,q,rfl,(by repeat' (first|exact ⟨⟩|refine ⟨rfl,?_⟩)),hq⟩
 rintro s ⟨fr',q,rfl,hfr,hq⟩
 refine Ex.le ?_ (le_frs hfr)
 obtain ⟨l1,el1⟩:∃ l1,l1 = lo.take q:=⟨_,rfl⟩
 have hl1:l1.length = q:=by rw [el1,List.length_take]; omega
 have hv1:=viewK_pre hjo q hq
 rw [← el1] at hv1
 obtain ⟨z1,ha1,hz1⟩:=rowA_app (P:=Tryz.prog) (α:=KK) (f:=cK) (k:=6) (t:=34) (e:=81) len_cK (b:=48) (zs:=[.bool false,.int .i64 0,.int .i64 0,.int .u64 0,.int .i64 0,.int .u64 0]) (by kernel_rfl) (by kernel_rfl) (by omega) (by kernel_rfl) rfl (by kernel_rfl) (σ:=σ3) (g:=gN0) (l:=[]) (m:=l1) (r:=none) rowA_nil hv1 (by simp; omega) (by simp; omega) c3
 simp only [reduceCtorEq,or_false] at hz1
 subst hz1
 rw [List.nil_append] at ha1
 obtain ⟨σ4,e4⟩:∃ σ4:Sto,σ4 = (z1,some (rowK l1)) :: (z1,none) :: σ3:=⟨_,rfl⟩
 have k4:∀ j,j < z1 → sget σ4 j = sget σ3 j:=fun j hj => by rw [e4,sget_ne (by omega),sget_ne (by omega)]
 obtain ⟨_,_,_,_,_,lk4⟩:=k_ld ((k4 (c + 3) (by omega)).trans hL.h3)
 obtain ⟨σ5,e5⟩:∃ σ5:Sto,σ5 = (z1 + 1,some (kO k)) :: σ4:=⟨_,rfl⟩
 have hap2:=kRowS (σ:=σ5) (l:=l1) (m:=[k]) (j:=z1) (by rw [e5,sget_ne (by omega),e4]; exact sget_eq rfl) (one_view len_cK (by rw [e5]; exact sget_eq rfl)) (by simp; omega) (z1 + 1 + 1)
 obtain ⟨l2,el2⟩:∃ l2,l2 = l1 ++ [k]:=⟨_,rfl⟩
 rw [← el2] at hap2
 have hl2:l2.length = q + 1:=by rw [el2]; simp [hl1]
 obtain ⟨σ6,e6⟩:∃ σ6:Sto,σ6 = (z1 + 1 + 1,some (rowK l2)) :: (z1,none) :: σ5:=⟨_,rfl⟩
 have k6:∀ j,j < z1 → sget σ6 j = sget σ3 j:=fun j hj => by rw [e6,sget_ne (by omega),sget_ne (by omega),e5,sget_ne (by omega)]; exact k4 j hj
 have hv3:=viewK_suf ((k6 jo (by omega)).trans hjo) q hq
 have hap3:=kRowS (σ:=σ6) (l:=l2) (m:=lo.drop q) (j:=z1 + 1 + 1) (by rw [e6]; exact sget_eq rfl) hv3 (by rw [List.length_drop]; omega) (z1 + 1 + 1 + 1)
 obtain ⟨l3,el3⟩:∃ l3,l3 = l2 ++ lo.drop q:=⟨_,rfl⟩
 rw [← el3] at hap3
 have hl3:l3.length = lo.length + 1:=by rw [el3,List.length_append,hl2,List.length_drop]; omega
 obtain ⟨σ7,e7⟩:∃ σ7:Sto,σ7 = (z1 + 1 + 1 + 1,some (rowK l3)) :: (z1 + 1 + 1,none) :: σ6:=⟨_,rfl⟩
 have k7:∀ j,j < z1 → sget σ7 j = sget σ3 j:=fun j hj => by rw [e7,sget_ne (by omega),sget_ne (by omega)]; exact k6 j hj
 have h7:=(k7 c (by omega)).trans hL.h0
 refine wS ?_
 refine zv (.lit (.slice none 0 0)) ?_
 refine wS ?_
 refine zv (.lit (.slice none 0 0)) ?_
 refine zv (.rsl jo 0 lo.length) ?_
 refine zv (vI (q:Int)) ?_
 refine run_v (g:=.rsl jo 0 q) (Eq.trans (by kernel_rfl) (sliceK_pre jo lo.length q hq)) (by decide) ?_
 refine run_app ha1 (by decide) ?_
 refine zv (.rsl z1 0 l1.length) ?_
 rw [← e4]
 refine wS ?_
 refine zv (.rsl z1 0 l1.length) ?_
 refine run_ld rfl lk4 (by decide) ?_
 refine run_bs (kRow_bs _) (by decide) ?_
 refine run_app (by rw [← e5]; exact hap2) (by decide) ?_
 refine zv (.rsl (z1 + 1 + 1) 0 l2.length) ?_
 rw [show ((z1 + 1 + 1,some (⟨81,l2.flatMap cK,none⟩:Ob)) :: (z1,none) :: (z1 + 1,some ⟨81,cK k,none⟩) :: σ4:Sto) = σ6 by rw [e6,e5]]
 refine wS ?_
 refine zv (.rsl (z1 + 1 + 1) 0 l2.length) ?_
 refine zv (.rsl jo 0 lo.length) ?_
 refine zv (vI (q:Int)) ?_
 refine run_v (g:=.rsl jo (q * 6) (lo.length - q)) (Eq.trans (by kernel_rfl) (sliceK_suf jo lo.length q hq)) (by decide) ?_
 refine run_app hap3 (by decide) ?_
 refine zv (.ref c 1) ?_
 refine run_sto (hO_st (d:=d) (g:=.rsl jg 0 l.length) (by rw [← e7]; exact h7)) ?_
 rw [← e7]
 refine wS ?_
 refine run_ld rfl (hO_ld (sget_eq rfl)).2.2 (by decide) ?_
 refine run_sto (hO_stw (d:=0) (g:=gN0) (by rw [sget_ne (by omega),k7 (c + 2) (by omega)]; exact hL.h2)) ?_
 refine wS ?_
 refine endx (.inr rfl) (gs:=[.agg [vI d,.rsl (z1 + 1 + 1 + 1) 0 l3.length]]) (res_cell (a:=8) (t:=36) rfl (hO_ld (sget_eq rfl)).2.2) ⟨z1 + 1 + 1 + 1,l3,rfl,?_,by omega,by omega,fun j hj => ?_,by omega,?_,fun y hy => ?_⟩
 ·rw [sget_ne (by omega),sget_ne (by omega),e7]; exact sget_eq rfl
 ·rw [sget_ne (by omega),sget_ne (by omega),k7 j (by omega)]; exact hL.hk j hj
 ·intro h; rw [h] at hl3; cases hl3
 ·rw [el3,el2,el1] at hy
  rw [← ek]
  rcases List.mem_append.1 hy with hy | hy
  ·rcases List.mem_append.1 hy with hy | hy
   ·exact .inl (hin y (List.mem_of_mem_take hy))
   ·exact .inr (List.mem_singleton.1 hy)
  ·exact .inl (hin y (List.mem_of_mem_drop hy))
end
section
open Go.RowKit
attribute [local irreducible] Tr Run RunD RunF GS TG Le Wk Frz Fn' ImmG Flat WkFr WkSt EndM Ex EndX McK FnM gNm gK
structure Act where
 a:Nat
 n:Nat
 p:Nat
def cA (x:Act):List G:=[vI (x.a:Int),vI (x.n:Int),vU x.p]
theorem len_cA (x:Act):(cA x).length = 3:=rfl
abbrev rowAct (l:List Act):Ob:=⟨76,l.flatMap cA,none⟩
theorem aRowS {σ:Sto} {l m:List Act} {j:Nat} (h:sget σ j = some (rowAct l)) {gy:G} (hv:gview σ 3 gy = some (m.flatMap cA,m.length)) (hb:l.length + m.length ≤ 100000) (c:Nat) :
  gapp Tryz.prog σ c 73 (.rsl j 0 l.length) gy = some (76,j,(l ++ m).length,(l ++ m).flatMap cA):=by
 rw [row_appS (s:=3) (b:=24) (zs:=[.int .i64 0,.int .i64 0,.int .u64 0]) (by kernel_rfl) (by kernel_rfl) (by omega) (by kernel_rfl) rfl (by kernel_rfl) h (rw_len len_cA l) hv ⟨by omega,by omega⟩ c]
 simp
theorem remN {P:Program} {x y:Operand} {t:TypeId} {a b:Nat} (hb:b ≠ 0):gbin P .rem t x y (vI (a:Int)) (vI (b:Int)) = some (vI ((a % b:Nat):Int)):=by
 rw [remI (by omega) (by omega)]; rfl
theorem quoN {P:Program} {x y:Operand} {t:TypeId} {a b:Nat} (hb:b ≠ 0) (ha:a ≤ 9223372036854775807):gbin P .quo t x y (vI (a:Int)) (vI (b:Int)) = some (vI ((a / b:Nat):Int)):=by
 rw [quoI (by omega) (by omega) (by omega)]; rfl
theorem ixI {A:List Int} {q:Nat} {z:Int} (h:A[q]? = some z):gindex Tryz.prog 24 (.sl (A.map vI) A.length) (q:Int) = some (.ptr (A.map vI) q):=by
 have hq:=(List.getElem?_eq_some_iff.1 h).1
 simp only [gindex]
 rw [show telem Tryz.prog 24 = some 3 by kernel_rfl,show tarr Tryz.prog 24 = none by kernel_rfl]
 simp only []
 rw [show tsize Tryz.prog 3 = some 1 by kernel_rfl]
 simp only [Option.bind_some]
 rw [if_pos (by simp; omega)]
 simp
theorem ldI {A:List Int} {q:Nat} {z:Int} (h:A[q]? = some z) (σ:Sto):gload Tryz.prog σ 3 (.ptr (A.map vI) q) = some (vI z):=by
 simp only [gload]
 unfold gpart
 rw [show tagg Tryz.prog 3 = some false by kernel_rfl,show tsize Tryz.prog 3 = some 1 by kernel_rfl]
 simp [h]
set_option maxHeartbeats 4000000 in
theorem acts_mc (gl:List (Nat × List G)) (A:List Int) (hA:∀ z ∈ A,Is64 z) (σ:Sto) (c:Nat) :
  Mc Tryz.prog gl 23 [.sl (A.map vI) A.length] σ c (fun v σ' c' => ∃ j l,v = .rsl j 0 l.length ∧ sget σ' j = some (rowAct l) ∧ c ≤ j ∧ j < c' ∧ (∀ k,k < c → sget σ' k = sget σ k) ∧ l.length ≤ 10 ∧ ∀ x ∈ l,x.a < 16 ∧ x.n < 4 ∧ x.p < 18446744073709551616):=by
 refine mc_enter (by kernel_rfl) Tryz.func23 rfl (by simp [Tryz.ntmps23]) ?_
 simp only [enterFr,Tryz.ntmps23]
 refine wS ?_
 refine zv (.lit (.slice none 0 0)) ?_
 refine wS ?_
 refine zv (.lit (.slice none 0 0)) ?_
 refine wS ?_
 refine zv (vI ((0:Nat):Int)) ?_
 apply run_nil
 apply thn_n
 refine wS ?_
 refine Ex.le ?_ (le_virt 76 (d:=3) (by show 3 < 35; decide) (by kernel_rfl))
 refine ex_loop (fun t s => ∃ (q:Nat) (σ1:Sto) (c1 jo:Nat) (lo:List Act),s = ⟨35,gl,[(0,.sl (A.map vI) A.length),(3,.rsl jo 0 lo.length),(4,vI (q:Int))],σ1,c1,c,false⟩ ∧ t = 10 - q ∧ q ≤ 10 ∧ sget σ1 jo = some (rowAct lo) ∧ c ≤ jo ∧ jo < c1 ∧ (∀ k,k < c → sget σ1 k = sget σ k) ∧ lo.length = q ∧ ∀ x ∈ lo,x.a < 16 ∧ x.n < 4 ∧ x.p < 18446744073709551616) 10 (le_frs (fr':=[(0,.sl (A.map vI) A.length),(3,.rsl c 0 0),(4,vI ((0:Nat):Int))]) (by repeat' (first|exact ⟨⟩|refine ⟨rfl,?_⟩))) ⟨0,_,c + 1,c,[],rfl,rfl,by omega,sget_eq rfl,by omega,by omega,fun k hk => (by rw [sget_ne (show c ≠ k by omega)]),rfl,fun x hx => (by cases hx)⟩ ?_
 rintro t s ⟨q,σ1,c1,jo,lo,rfl,rfl,hq,hjo,hj1,hj2,hk,hlo,hin⟩
 refine wN ?_
 refine ex_region_k (fun s => ∃ fr',s = ⟨35,gl,fr',σ1,c1,c,false⟩ ∧ FrOk fr' [(0,.sl (A.map vI) A.length),(3,.rsl jo 0 lo.length),(4,vI (q:Int)),(13,vB (decide (q < A.length ∧ q < 10)))]) ?_ ?_
 ·refine zv (vI (q:Int)) ?_
  refine zv (.sl (A.map vI) A.length) ?_
  refine run_ln rfl (by kernel_rfl) rfl (by decide) ?_
  refine run_bin rfl rfl (ltI (a:=(q:Int)) (b:=(A.length:Int))) (by decide) ?_
  by_cases h1:(q:Int) < (A.length:Int)
  ·rw [decide_eq_true h1,show decide (q < A.length ∧ q < 10) = decide ((q:Int) < 10) from decide_eq_decide.2 ⟨fun h => by omega,fun h => by omega⟩]
   refine zv (vB true) ?_
   refine zg (vI (q:Int)) ?_
   refine ged_bin (by kernel_rfl) rfl rfl (ltI (a:=(q:Int)) (b:=10)) (by decide) ?_
   refine zv (vB (decide (((q:Int):Int) < 10))) ?_
   exact run_nil ⟨_,rfl,(by repeat' (first|exact ⟨⟩|refine ⟨rfl,?_⟩))⟩
  ·rw [decide_eq_false h1,show decide (q < A.length ∧ q < 10) = false from decide_eq_false fun h => by omega]
   refine zv (vB false) ?_
   refine zn ?_
   refine zn ?_
   refine zv (vB false) ?_
   exact run_nil ⟨_,rfl,(by repeat' (first|exact ⟨⟩|refine ⟨rfl,?_⟩))⟩
 rintro s' ⟨fr',rfl,hfr⟩
 apply thn_n
 refine Ex.le ?_ (le_frs hfr)
 refine ex_condP (p:=q < A.length ∧ q < 10) rfl (fun hgo => ?_) (fun hst => ?_)
 ·obtain ⟨z,hz⟩:∃ z,A[q]? = some z:=⟨_,List.getElem?_eq_getElem (by omega)⟩
  have hz64:=hA z (List.mem_of_getElem? hz)
  obtain ⟨hm0,hm1⟩:=arI_bd (n:=z) (m:=1000000) (by decide)
  obtain ⟨mn,emn⟩:∃ mn:Nat,(mn:Int) = arI z 1000000:=⟨(arI z 1000000).toNat,by omega⟩
  have hmn:mn < 1000000:=by omega
  have hAr:=around_fn gl z 1000000 hz64 (by decide)
  rw [← emn] at hAr
  obtain ⟨x,ex⟩:∃ x:Act,x = ⟨mn % 16,mn / 16 % 4,1 + (mn / 64) % 2305843009213693949⟩:=⟨_,rfl⟩
  have hx:x.a < 16 ∧ x.n < 4 ∧ x.p < 18446744073709551616:=by
   rw [ex]
   refine ⟨Nat.mod_lt _ (by decide),Nat.mod_lt _ (by decide),?_⟩
   have:mn / 64 % 2305843009213693949 < 2305843009213693949:=Nat.mod_lt _ (by decide)
   show 1 + _ < _
   omega
  obtain ⟨σ2,e2⟩:∃ σ2:Sto,σ2 = (c1,some ⟨76,cA x,none⟩) :: σ1:=⟨_,rfl⟩
  have hap:=aRowS (σ:=σ2) (l:=lo) (m:=[x]) (j:=jo) (by rw [e2,sget_ne (by omega)]; exact hjo) (one_view len_cA (by rw [e2]; exact sget_eq rfl)) (by simp; omega) (c1 + 1)
  refine wS ?_
  refine zv (.sl (A.map vI) A.length) ?_
  refine zv (vI (q:Int)) ?_
  refine run_v (g:=.ptr (A.map vI) q) (Eq.trans (by kernel_rfl) (ixI hz)) (by decide) ?_
  refine run_ld rfl (ldI hz _) (by decide) ?_
  refine run_c hAr (by kernel_rfl) (by decide) rfl (im2 (imm_lit _) (imm_lit _)) ?_
  refine zv (vI (mn:Int)) ?_
  refine wS ?_
  refine zv (.rsl jo 0 lo.length) ?_
  refine zv (vI (mn:Int)) ?_
  refine run_bin rfl rfl (remN (a:=mn) (b:=16) (by decide)) (by decide) ?_
  refine zv (vI (mn:Int)) ?_
  refine run_bin rfl rfl (quoN (a:=mn) (b:=16) (by decide) (by omega)) (by decide) ?_
  refine run_bin rfl rfl (remN (a:=mn / 16) (b:=4) (by decide)) (by decide) ?_
  refine zv (vI (mn:Int)) ?_
  refine run_bin rfl rfl (quoN (a:=mn) (b:=64) (by decide) (by omega)) (by decide) ?_
  refine run_conv (Eq.trans (by kernel_rfl) (cvU (k:=.u64) (n:=mn / 64) (by omega))) (by decide) ?_
  refine run_c (secret01_fn gl (mn / 64)) (by kernel_rfl) (by decide) rfl (im1 (imm_lit _)) ?_
  refine run_build (g:=.agg (cA x)) (by rw [ex]; kernel_rfl) (by decide) ?_
  refine run_bs (l:=cA x) (e:=76) (by kernel_rfl) (by decide) ?_
  refine run_app (by rw [← e2]; exact hap) (by decide) ?_
  refine zv (.rsl (c1 + 1) 0 (lo ++ [x]).length) ?_
  refine wS ?_
  refine zv (vI (q:Int)) ?_
  refine run_v (g:=vI ((q + 1:Nat):Int)) (Eq.trans (by kernel_rfl) (congrArg some (show G.lit (.int .i64 (IntKind.i64.wrap ((q:Int) + 1))) = _ by rw [w64 (by omega)]; rfl))) (by decide) ?_
  refine zv (vI ((q + 1:Nat):Int)) ?_
  refine wS ?_
  refine ⟨10 - (q + 1),_,by omega,le_frs (fr':=[(0,.sl (A.map vI) A.length),(3,.rsl (c1 + 1) 0 (lo ++ [x]).length),(4,vI ((q + 1:Nat):Int))]) (by repeat' (first|exact ⟨⟩|refine ⟨rfl,?_⟩)),q + 1,_,c1 + 1 + 1,c1 + 1,lo ++ [x],rfl,rfl,by omega,sget_eq rfl,by omega,by omega,fun k hk' => ?_,by simp [hlo],fun y hy => ?_⟩
  ·rw [sget_ne (by omega),sget_ne (by omega),sget_ne (by omega)]; exact hk k hk'
  ·rcases List.mem_append.1 hy with hy | hy
   ·exact hin y hy
   ·obtain rfl:=List.mem_singleton.1 hy
    exact hx
 ·refine wS ?_
  refine zv (.rsl jo 0 lo.length) ?_
  refine zv (.rsl jo 0 lo.length) ?_
  refine wS ?_
  exact endx (.inr rfl) (gs:=[.rsl jo 0 lo.length]) (by kernel_rfl) ⟨jo,lo,rfl,hjo,hj1,hj2,hk,by omega,hin⟩
theorem bool04_fn (gl:List (Nat × List G)) (b:Bool):FnR Tryz.prog gl 27 [vB b] 5 (nb (if b then 2 else 0)).length ((nb (if b then 2 else 0)).map gY):=by
 refine fnr_enter Tryz.func27 rfl (by simp [Tryz.ntmps27]) (Ex.tr ?_)
 simp only [St.enter,enterFr,Tryz.ntmps27]
 refine wS ?_
 refine zv (.lit (.slice none 0 0)) ?_
 refine wS ?_
 refine zv (vB b) ?_
 refine wS ?_
 refine ex_condB (t:=b) rfl (fun h => ?_) (fun h => ?_)
 ·subst h
  refine wS ?_
  refine run_cR (number04_fn gl 1 (by unfold Is64; omega)) (by kernel_rfl) (by decide) rfl (im1 (imm_lit _)) (imm_bytes _) (fun i ob h ↦ by cases h) ?_
  refine zv (.rsl 0 0 (nb (zig 1)).length) ?_
  refine wS ?_
  exact endR (i:=0) (u:=2) rfl rfl rfl (sget_eq rfl) (imm_bytes _) (.inr rfl)
 ·subst h
  refine wS ?_
  refine run_cR (number04_fn gl 0 (by unfold Is64; omega)) (by kernel_rfl) (by decide) rfl (im1 (imm_lit _)) (imm_bytes _) (fun i ob h ↦ by cases h) ?_
  refine zv (.rsl 0 0 (nb (zig 0)).length) ?_
  refine wS ?_
  exact endR (i:=0) (u:=2) rfl rfl rfl (sget_eq rfl) (imm_bytes _) (.inr rfl)
end
section
open Go.RowKit
attribute [local irreducible] Tr Run RunD RunF GS TG Le Wk Frz Fn' ImmG Flat WkFr WkSt EndM Ex EndX McK FnM gNm gK
theorem byt_app {σ:Sto} {jo q:Nat} {lb m:List UInt8} (h1:sget σ jo = some (obB lb)) (h2:sget σ q = some (obB m)) (hb:lb.length + m.length ≤ 140737488355328) (c:Nat):gapp Tryz.prog σ c 22 (.rsl jo 0 lb.length) (.rsl q 0 m.length) = some (5,jo,(lb ++ m).length,(lb ++ m).map gY):=by
 rw [row_appS (s:=1) (b:=1) (zs:=[.int .u8 0]) (by kernel_rfl) (by kernel_rfl) (by omega) (by kernel_rfl) rfl (by kernel_rfl) h1 (by simp) (show gview σ 1 (.rsl q 0 m.length) = some (m.map gY,m.length) by simp [gview,h2]; rw [List.take_of_length_le (by simp)]) ⟨by omega,by omega⟩ c]
 simp
structure OB (σ σ1:Sto) (c c1:Nat) (d:Int) (g:G) (jo:Nat) (lb:List UInt8):Prop where
 h0:sget σ1 c = some (hO d g)
 ho:sget σ1 jo = some (obB lb)
 j1:c < jo
 j2:jo < c1
 hk:∀ k,k < c → sget σ1 k = sget σ k
theorem OB.step {σ σ1:Sto} {c c1:Nat} {d:Int} {g:G} {jo:Nat} {lb:List UInt8} (h:OB σ σ1 c c1 d g jo lb) (m:List UInt8) (hb:lb.length + m.length ≤ 100000000) :
  gapp Tryz.prog ((c1,some (obB m)) :: σ1) (c1 + 1) 22 (.rsl jo 0 lb.length) (.rsl c1 0 m.length) = some (5,jo,(lb ++ m).length,(lb ++ m).map gY) ∧ OB σ ((c1 + 1,some (obB (lb ++ m))) :: (jo,none) :: (c1,some (obB m)) :: σ1) c (c1 + 1 + 1) d g (c1 + 1) (lb ++ m):=by
 have h1:=h.j1
 have h2:=h.j2
 refine ⟨byt_app (by rw [sget_ne (by omega)]; exact h.ho) (sget_eq rfl) (by omega) _,?_,sget_eq rfl,by omega,by omega,fun k hk => ?_⟩
 ·rw [sget_ne (by omega),sget_ne (by omega),sget_ne (by omega)]; exact h.h0
 ·rw [sget_ne (by omega),sget_ne (by omega),sget_ne (by omega)]; exact h.hk k hk
structure WfK (x:KK):Prop where
 a:Is64 x.i.a
 b:Is64 x.i.b
 c:x.i.c < 18446744073709551616
 n:Is64 x.n
 p:x.p < 18446744073709551616
theorem k_fld {σ:Sto} {j q:Nat} {l:List KK} {x:KK} (h:sget σ j = some (rowK l)) (hx:l[q]? = some x):gload Tryz.prog σ 4 (.ref j (q * 6 + 0)) = some (vB x.lead) ∧ gload Tryz.prog σ 61 (.ref j (q * 6 + 1)) = some (vIdn x.i) ∧ gload Tryz.prog σ 3 (.ref j (q * 6 + 4)) = some (vI x.n) ∧ gload Tryz.prog σ 23 (.ref j (q * 6 + 5)) = some (vU x.p) :=
 ⟨rowA_fld (P:=Tryz.prog) (e:=81) len_cK (by kernel_rfl) (by kernel_rfl) h hx (by omega) rfl,rowA_sub (P:=Tryz.prog) (e:=81) (m:=3) len_cK (by kernel_rfl) (by kernel_rfl) h hx (by omega),rowA_fld (P:=Tryz.prog) (e:=81) len_cK (by kernel_rfl) (by kernel_rfl) h hx (by omega) rfl,rowA_fld (P:=Tryz.prog) (e:=81) len_cK (by kernel_rfl) (by kernel_rfl) h hx (by omega) rfl⟩
theorem k_ixo (j k0 m q:Nat) (hq:q < m):gindex Tryz.prog 34 (.rsl j (k0 * 6) m) (q:Int) = some (.ref j ((k0 + q) * 6)):=by
 simp only [gindex]
 rw [show telem Tryz.prog 34 = some 81 by kernel_rfl,show tarr Tryz.prog 34 = none by kernel_rfl]
 simp only []
 rw [show tsize Tryz.prog 81 = some 6 by kernel_rfl]
 simp only [Option.bind_some]
 rw [if_pos (by omega),Nat.add_mul]
 simp
set_option maxHeartbeats 8000000 in
theorem rput_mc (gl:List (Nat × List G)) (d:Int) (hd:Is64 d) {jg:Nat} {l:List KK} (σ:Sto) (c:Nat) (hg:sget σ jg = some (rowK l)) (hgc:jg < c) (hl:l.length ≤ 1000) (hne:l ≠ []) (hw:∀ x ∈ l,WfK x) :
  Mc Tryz.prog gl 6 [.agg [vI d,.rsl jg 0 l.length]] σ c (fun v σ' c' => ∃ j B,v = .rsl j 0 B.length ∧ sget σ' j = some (obB B) ∧ c ≤ j ∧ j < c' ∧ (∀ k,k < c → sget σ' k = sget σ k) ∧ 1 ≤ B.length ∧ B.length ≤ 1000000):=by
 obtain ⟨x0,hx0⟩:∃ x,l[0]? = some x:=⟨_,List.getElem?_eq_getElem (List.length_pos_iff.2 hne)⟩
 have hl0:0 < l.length:=List.length_pos_iff.2 hne
 obtain ⟨le,ele⟩:∃ b,b = x0.lead:=⟨_,rfl⟩
 have hw0:=hw x0 (List.mem_of_getElem? hx0)
 -- the device
 have hd10:=nb_len64 (zig_lt hd)
 have hd1:1 ≤ (nb (zig d)).length:=by
  rw [nb]; split <;> simp
 obtain ⟨b1,eb1⟩:∃ b,b = nb (zig d):=⟨_,rfl⟩
 rw [← eb1] at hd10 hd1
 have hFn:=number04_fn gl d hd
 rw [← eb1] at hFn
 obtain ⟨σ1,e1⟩:∃ σ1:Sto,σ1 = (c + 1,some (obB b1)) :: (c,some (hO d (.rsl jg 0 l.length))) :: σ:=⟨_,rfl⟩
 have O1:OB σ σ1 c (c + 1 + 1) d (.rsl jg 0 l.length) (c + 1) b1:=⟨by rw [e1,sget_ne (by omega),sget_eq rfl],by rw [e1,sget_eq rfl],by omega,by omega,fun k hk => by rw [e1,sget_ne (by omega),sget_ne (by omega)]⟩
 obtain ⟨ld,_,_⟩:=hO_ld (σ:=(c,some (hO d (.rsl jg 0 l.length))) :: σ) (k:=c) (d:=d) (g:=.rsl jg 0 l.length) (sget_eq rfl)
 obtain ⟨_,lg1,_⟩:=hO_ld O1.h0
 have hrow:∀ {σx:Sto} {cx jx:Nat} {lx:List UInt8},OB σ σx c cx d (.rsl jg 0 l.length) jx lx → sget σx jg = some (rowK l):=fun h => (h.hk jg hgc).trans hg
 obtain ⟨f0,_,_,_⟩:=k_fld (hrow O1) hx0
 rw [← ele] at f0
 refine mc_enter (by kernel_rfl) Tryz.func6 rfl (by simp [Tryz.ntmps6]) ?_
 simp only [enterFr,Tryz.ntmps6]
 refine wS ?_
 refine run_box (l:=[vI d,.rsl jg 0 l.length]) (by kernel_rfl) (by decide) ?_
 refine zv (gN0) ?_
 refine wS ?_
 refine zv (.ref c 0) ?_
 refine zt (vI d) ld ?_
 refine run_r hFn (by kernel_rfl) (by decide) rfl (im1 (imm_lit _)) (imm_lits _) ?_
 refine zv (.rsl (c + 1) 0 b1.length) ?_
 rw [show ((c + 1,some (⟨5,b1.map gY,none⟩:Ob)) :: (c,some ⟨36,[vI d,.rsl jg 0 l.length],none⟩) :: σ:Sto) = σ1 from e1.symm]
 refine wS ?_
 refine zv (.ref c 1) ?_
 refine zt (.rsl jg 0 l.length) lg1 ?_
 refine zv (vI l.length) ?_
 refine run_bin rfl rfl (gtI (a:=l.length) (b:=0)) (by decide) ?_
 rw [decide_eq_true (show (0:Int) < (l.length:Int) by omega)]
 refine zv (vB true) ?_
 refine zg (.ref c 1) ?_
 refine ged_v (g:=.rsl jg 0 l.length) (by kernel_rfl) (Eq.trans (by kernel_rfl) (lg1)) (by decide) ?_
 refine ged_v (g:=.ref jg 0) (by kernel_rfl) (Eq.trans (by kernel_rfl) (k_ixo jg 0 l.length 0 hl0)) (by decide) ?_
 refine zg (.ref jg 0) ?_
 refine ged_v (g:=vB le) (by kernel_rfl) (Eq.trans (by kernel_rfl) f0) (by decide) ?_
 refine zv (vB le) ?_
 refine zv (vB le) ?_
 obtain ⟨bb,ebb⟩:∃ b,b = nb (if le then 2 else 0):=⟨_,rfl⟩
 have hFb:=bool04_fn gl le
 rw [← ebb] at hFb
 have hbb:bb.length ≤ 10:=by rw [ebb]; exact nb_len64 (by split <;> omega)
 obtain ⟨ap2,O2⟩:=O1.step bb (by omega)
 obtain ⟨b2,eb2⟩:∃ b,b = b1 ++ bb:=⟨_,rfl⟩
 rw [← eb2] at ap2 O2
 have hb2:1 ≤ b2.length ∧ b2.length ≤ 20:=by rw [eb2,List.length_append]; omega
 obtain ⟨σ2,e2⟩:∃ σ2:Sto,σ2 = (c + 1 + 1 + 1,some (obB b2)) :: (c + 1,none) :: (c + 1 + 1,some (obB bb)) :: σ1:=⟨_,rfl⟩
 rw [← e2] at O2
 refine wS ?_
 refine zv (.rsl (c + 1) 0 b1.length) ?_
 refine zv (vB le) ?_
 refine run_r hFb (by kernel_rfl) (by decide) rfl (im1 (imm_lit _)) (imm_lits _) ?_
 refine run_app ap2 (by decide) ?_
 refine zv (.rsl (c + 1 + 1 + 1) 0 b2.length) ?_
 rw [← e2]
 obtain ⟨_,lg2,_⟩:=hO_ld O2.h0
 refine wS ?_
 refine zv (.ref c 1) ?_
 refine zt (.rsl jg 0 l.length) lg2 ?_
 refine zv (.rsl jg 0 l.length) ?_
 refine wS ?_
 refine zv (vB le) ?_
 refine wS ?_
 refine ex_thn (K:=fun s => ∃ fr' σ3 c3 j3 b3 k0,s = ⟨75,gl,fr',σ3,c3,c,false⟩ ∧ FrOk fr' [(1,.ref c 0),(3,.rsl j3 0 b3.length),(5,.rsl jg (k0 * 6) (l.length - k0))] ∧ OB σ σ3 c c3 d (.rsl jg 0 l.length) j3 b3 ∧ k0 ≤ l.length ∧ 1 ≤ b3.length ∧ b3.length ≤ 30) ?_ ?_
 ·refine ex_condB (t:=le) rfl (fun h => ?_) (fun h => ?_)
  ·obtain ⟨_,_,_,f3⟩:=k_fld (hrow O2) hx0
   obtain ⟨bp,ebp⟩:∃ b,b = nb x0.p:=⟨_,rfl⟩
   have hFp:=num04_fn gl x0.p hw0.p
   rw [← ebp] at hFp
   have hbp:bp.length ≤ 10:=by rw [ebp]; exact nb_len64 hw0.p
   obtain ⟨ap3,O3⟩:=O2.step bp (by omega)
   obtain ⟨b3,eb3⟩:∃ b,b = b2 ++ bp:=⟨_,rfl⟩
   rw [← eb3] at ap3 O3
   have hb3:1 ≤ b3.length ∧ b3.length ≤ 30:=by rw [eb3,List.length_append]; omega
   obtain ⟨_,lg3,_⟩:=hO_ld O3.h0
   refine wS ?_
   refine zv (.rsl (c + 1 + 1 + 1) 0 b2.length) ?_
   refine zv (.ref c 1) ?_
   refine zt (.rsl jg 0 l.length) lg2 ?_
   refine run_v (g:=.ref jg 0) (Eq.trans (by kernel_rfl) (k_ixo jg 0 l.length 0 hl0)) (by decide) ?_
   refine zv (.ref jg 5) ?_
   refine zt (vU x0.p) f3 ?_
   refine run_r hFp (by kernel_rfl) (by decide) rfl (im1 (imm_lit _)) (imm_lits _) ?_
   refine run_app ap3 (by decide) ?_
   refine zv (.rsl (c + 1 + 1 + 1 + 1 + 1) 0 b3.length) ?_
   refine wS ?_
   refine zv (.ref c 1) ?_
   refine zt (.rsl jg 0 l.length) lg3 ?_
   refine run_v (g:=.rsl jg (1 * 6) (l.length - 1)) (Eq.trans (by kernel_rfl) (sliceK_suf jg l.length 1 (by omega))) (by decide) ?_
   refine zv (.rsl jg (1 * 6) (l.length - 1)) ?_
   refine wS ?_
   exact ⟨rfl,_,_,_,_,b3,1,rfl,(by repeat' (first|exact ⟨⟩|refine ⟨rfl,?_⟩)),O3,by omega,hb3⟩
  ·
   refine wS ?_
   exact ⟨rfl,_,_,_,_,b2,0,rfl,(by repeat' (first|exact ⟨⟩|refine ⟨rfl,?_⟩)),O2,by omega,by omega,by omega⟩
 rintro s ⟨fr',σ3,c3,j3,b3,k0,rfl,hfr,O3,hk0,hb3a,hb3b⟩
 refine Ex.le ?_ (le_frs hfr)
 obtain ⟨m,em⟩:∃ m,m = l.length - k0:=⟨_,rfl⟩
 rw [← em]
 obtain ⟨bm,ebm⟩:∃ b,b = nb (zig (m:Int)):=⟨_,rfl⟩
 have hm64:Is64 (m:Int):=by unfold Is64; omega
 have hFm:=number04_fn gl (m:Int) hm64
 rw [← ebm] at hFm
 have hbm:bm.length ≤ 10:=by rw [ebm]; exact nb_len64 (zig_lt hm64)
 obtain ⟨ap4,O4⟩:=O3.step bm (by omega)
 obtain ⟨b4,eb4⟩:∃ b,b = b3 ++ bm:=⟨_,rfl⟩
 rw [← eb4] at ap4 O4
 have hb4:1 ≤ b4.length ∧ b4.length ≤ 40:=by rw [eb4,List.length_append]; omega
 refine wS ?_
 refine zv (.rsl j3 0 b3.length) ?_
 refine zv (.rsl jg (k0 * 6) m) ?_
 refine zv (vI m) ?_
 refine run_r hFm (by kernel_rfl) (by decide) rfl (im1 (imm_lit _)) (imm_lits _) ?_
 refine run_app ap4 (by decide) ?_
 refine zv (.rsl (c3 + 1) 0 b4.length) ?_
 refine wS ?_
 refine zv (vI ((0:Nat):Int)) ?_
 refine wS ?_
 refine ex_loop (fun t s => ∃ (q:Nat) (σ5:Sto) (c5 j5:Nat) (b5:List UInt8),s = ⟨75,gl,[(3,.rsl j5 0 b5.length),(5,.rsl jg (k0 * 6) m),(6,vI (q:Int))],σ5,c5,c,false⟩ ∧ t = m - q ∧ q ≤ m ∧ OB σ σ5 c c5 d (.rsl jg 0 l.length) j5 b5 ∧ 1 ≤ b5.length ∧ b5.length ≤ 40 + 50 * q) m (le_frs (fr':=[(3,.rsl (c3 + 1) 0 b4.length),(5,.rsl jg (k0 * 6) m),(6,vI ((0:Nat):Int))]) (by repeat' (first|exact ⟨⟩|refine ⟨rfl,?_⟩))) ⟨0,_,_,c3 + 1,b4,rfl,rfl,by omega,O4,by omega,by omega⟩ ?_
 rintro t s ⟨q,σ5,c5,j5,b5,rfl,rfl,hq,O5,hb5a,hb5b⟩
 refine wS ?_
 refine zv (vI (q:Int)) ?_
 refine zv (.rsl jg (k0 * 6) m) ?_
 refine zv (vI m) ?_
 refine run_bin rfl rfl (ltI (a:=(q:Int)) (b:=m)) (by decide) ?_
 refine wS ?_
 refine ex_condP (p:=(q:Int) < (m:Int)) rfl (fun hlt => ?_) (fun hlt => ?_)
 ·obtain ⟨x,hx⟩:∃ x,l[k0 + q]? = some x:=⟨_,List.getElem?_eq_getElem (by omega)⟩
  have hwx:=hw x (List.mem_of_getElem? hx)
  have hix:=k_ixo jg k0 m q (by omega)
  obtain ⟨_,f5,_,_⟩:=k_fld (hrow O5) hx
  obtain ⟨bi,ebi⟩:∃ b,b = idB x.i.a x.i.b x.i.c:=⟨_,rfl⟩
  have hFi:=ident04_fn gl x.i.a x.i.b x.i.c hwx.a hwx.b hwx.c
  rw [← ebi] at hFi
  have hbi:bi.length ≤ 30:=by
   have h1:=nb_len64 (zig_lt hwx.a)
   have h2:=nb_len64 (zig_lt hwx.b)
   have h3:=nb_len64 hwx.c
   rw [ebi]; unfold idB; simp only [List.length_append]; omega
  obtain ⟨ap6,O6⟩:=O5.step bi (by omega)
  obtain ⟨b6,eb6⟩:∃ b,b = b5 ++ bi:=⟨_,rfl⟩
  rw [← eb6] at ap6 O6
  have hb6:b6.length = b5.length + bi.length:=by rw [eb6,List.length_append]
  obtain ⟨_,_,f6,_⟩:=k_fld (hrow O6) hx
  obtain ⟨bn,ebn⟩:∃ b,b = nb (zig x.n):=⟨_,rfl⟩
  have hFn2:=number04_fn gl x.n hwx.n
  rw [← ebn] at hFn2
  have hbn:bn.length ≤ 10:=by rw [ebn]; exact nb_len64 (zig_lt hwx.n)
  obtain ⟨ap7,O7⟩:=O6.step bn (by omega)
  obtain ⟨b7,eb7⟩:∃ b,b = b6 ++ bn:=⟨_,rfl⟩
  rw [← eb7] at ap7 O7
  have hb7:b7.length = b6.length + bn.length:=by rw [eb7,List.length_append]
  obtain ⟨_,_,_,f7⟩:=k_fld (hrow O7) hx
  obtain ⟨bp,ebp⟩:∃ b,b = nb x.p:=⟨_,rfl⟩
  have hFp:=num04_fn gl x.p hwx.p
  rw [← ebp] at hFp
  have hbp:bp.length ≤ 10:=by rw [ebp]; exact nb_len64 hwx.p
  obtain ⟨ap8,O8⟩:=O7.step bp (by omega)
  obtain ⟨b8,eb8⟩:∃ b,b = b7 ++ bp:=⟨_,rfl⟩
  rw [← eb8] at ap8 O8
  have hb8:b8.length = b7.length + bp.length:=by rw [eb8,List.length_append]
  refine wS ?_
  refine zv (.rsl j5 0 b5.length) ?_
  refine zv (.rsl jg (k0 * 6) m) ?_
  refine zv (vI (q:Int)) ?_
  refine zt (.ref jg ((k0 + q) * 6)) hix ?_
  refine zv (.ref jg (((k0 + q) * 6) + 1)) ?_
  refine run_ld rfl f5 (by decide) ?_
  refine run_r hFi (by kernel_rfl) (by decide) rfl (im1 (imm_id ..)) (imm_lits _) ?_
  refine run_app ap6 (by decide) ?_
  refine zv (.rsl (c5 + 1) 0 b6.length) ?_
  refine wS ?_
  refine zv (.rsl (c5 + 1) 0 b6.length) ?_
  refine zv (.rsl jg (k0 * 6) m) ?_
  refine zv (vI (q:Int)) ?_
  refine zt (.ref jg ((k0 + q) * 6)) hix ?_
  refine zv (.ref jg (((k0 + q) * 6) + 4)) ?_
  refine run_ld rfl f6 (by decide) ?_
  refine run_r hFn2 (by kernel_rfl) (by decide) rfl (im1 (imm_lit _)) (imm_lits _) ?_
  refine run_app ap7 (by decide) ?_
  refine zv (.rsl (c5 + 1 + 1 + 1) 0 b7.length) ?_
  refine wS ?_
  refine zv (.rsl (c5 + 1 + 1 + 1) 0 b7.length) ?_
  refine zv (.rsl jg (k0 * 6) m) ?_
  refine zv (vI (q:Int)) ?_
  refine zt (.ref jg ((k0 + q) * 6)) hix ?_
  refine zv (.ref jg (((k0 + q) * 6) + 5)) ?_
  refine run_ld rfl f7 (by decide) ?_
  refine run_r hFp (by kernel_rfl) (by decide) rfl (im1 (imm_lit _)) (imm_lits _) ?_
  refine run_app ap8 (by decide) ?_
  refine zv (.rsl (c5 + 1 + 1 + 1 + 1 + 1) 0 b8.length) ?_
  refine wS ?_
  refine zv (vI (q:Int)) ?_
  refine run_v (g:=vI ((q + 1:Nat):Int)) (Eq.trans (by kernel_rfl) (congrArg some (show G.lit (.int .i64 (IntKind.i64.wrap ((q:Int) + 1))) = _ by rw [w64 (by omega)]; rfl))) (by decide) ?_
  refine zv (vI ((q + 1:Nat):Int)) ?_
  refine wS ?_
  exact ⟨m - (q + 1),_,by omega,le_frs (fr':=[(3,.rsl (c5 + 1 + 1 + 1 + 1 + 1) 0 b8.length),(5,.rsl jg (k0 * 6) m),(6,vI ((q + 1:Nat):Int))]) (by repeat' (first|exact ⟨⟩|refine ⟨rfl,?_⟩)),q + 1,_,_,_,b8,rfl,rfl,by omega,O8,by omega,by omega⟩
 ·refine wS ?_
  refine zv (.rsl j5 0 b5.length) ?_
  refine zv (.rsl j5 0 b5.length) ?_
  refine wS ?_
  have:=O5.j1
  exact endx (.inr rfl) (gs:=[.rsl j5 0 b5.length]) (by kernel_rfl) ⟨j5,b5,rfl,O5.ho,by omega,O5.j2,O5.hk,hb5a,by omega⟩
end
end Go.Proofs.YtpehhhbmobmedaaGreatDoor
