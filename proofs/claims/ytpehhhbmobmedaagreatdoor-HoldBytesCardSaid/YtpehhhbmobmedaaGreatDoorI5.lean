/- The document's reader of bytes (huddleref04.I): walked. -/
import Derived.Test.YtpehhhbmobmedaaGreatDoorPj
namespace Go.Proofs.YtpehhhbmobmedaaGreatDoor
set_option linter.unusedVariables false
set_option linter.unusedSimpArgs false
set_option linter.unusedSectionVars false
section
open Go.RowKit
attribute [local irreducible] Tr Run RunD GS TG Le Wk Frz Fn' ImmG Flat WkFr WkSt EndM Ex EndX McK
abbrev i4O (j n at':Nat) (e:Int):Ob:=⟨101,[.rsl j 0 n,vI at',vI e],none⟩
theorem i4_ld {σ:Sto} {i j n at':Nat} {e:Int} (h:sget σ i = some (i4O j n at' e)):gload Tryz.prog σ 22 (.ref i 0) = some (.rsl j 0 n) ∧ gload Tryz.prog σ 3 (.ref i 1) = some (vI at') ∧ gload Tryz.prog σ 43 (.ref i 2) = some (vI e):=by
 simp only [gload,h]
 exact ⟨by kernel_rfl,by kernel_rfl,by kernel_rfl⟩
theorem i4_st1 {σ:Sto} {i j n at' a:Nat} {e:Int} (h:sget σ i = some (i4O j n at' e)):gsto Tryz.prog σ 3 (.ref i 1) (vI a) = some (i,i4O j n a e):=by
 simp only [gsto,h]
 kernel_rfl
theorem i4_st2 {σ:Sto} {i j n at':Nat} {e a:Int} (h:sget σ i = some (i4O j n at' e)):gsto Tryz.prog σ 43 (.ref i 2) (vI a) = some (i,i4O j n at' a):=by
 simp only [gsto,h]
 kernel_rfl
structure I4At (σ:Sto) (i j:Nat) (L:List UInt8) (at':Nat) (e:Int):Prop where
 ne:i ≠ j
 i:sget σ i = some (i4O j L.length at' e)
 j:sget σ j = some ⟨5,L.map gY,none⟩
 at':at' ≤ L.length
 L:L.length ≤ 1000000000000
theorem I4At.next {σ:Sto} {i j:Nat} {L:List UInt8} {a a2:Nat} {e e2:Int} (h:I4At σ i j L a e) (h2:a2 ≤ L.length):I4At ((i,some (i4O j L.length a2 e2)) :: σ) i j L a2 e2:=⟨h.ne,sget_eq rfl,by rw [sget_ne h.ne]; exact h.j,h2,h.L⟩
theorem I4At.of {σ σ':Sto} {i j:Nat} {L:List UInt8} {a:Nat} {e:Int} (h:I4At σ i j L a e) (h1:sget σ' i = sget σ i) (h2:sget σ' j = sget σ j):I4At σ' i j L a e:=⟨h.ne,h1.trans h.i,h2.trans h.j,h.at',h.L⟩
def Reads4 (gl:List (Nat × List G)) (f:FuncId) (i j:Nat) (L:List UInt8) (σ:Sto) (c:Nat) (xs:List G) (r:G) (s:Cur):Prop:=∃ (a2:Nat) (e2:Int),a2 ≤ L.length ∧ curOf L a2 e2 = s ∧ McK Tryz.prog gl f (.ref i 0 :: xs) σ c r ((i,some (i4O j L.length a2 e2)) :: σ) c
theorem reads4_enter {gl:List (Nat × List G)} {f:FuncId} {fn:Func} {body:Code} {i j:Nat} {L:List UInt8} {σ:Sto} {c:Nat} {xs:List G} {r:G} {s:Cur} (hc:callable Tryz.prog f = true) (hf:Tryz.prog.funcs[f]? = some fn) (hb:fn.body = some body) (hn:(G.ref i 0 :: xs).length ≤ fn.ntmps)
  (h:Ex Tryz.prog body ⟨fn.ntmps,gl,enterFr 0 (.ref i 0 :: xs),σ,c,c,false⟩ (EndX Tryz.prog fn gl fun v σ' c' => ∃ (a2:Nat) (e2:Int),a2 ≤ L.length ∧ curOf L a2 e2 = s ∧ v = r ∧ c' = c ∧ ∀ k,sget σ' k = sget ((i,some (i4O j L.length a2 e2)) :: σ) k)):Reads4 gl f i j L σ c xs r s:=by
 obtain ⟨v,σ',c',⟨a2,e2,h1,h2,rfl,rfl,h3⟩,hM⟩:=mc_enter hc hf hb hn h
 exact ⟨a2,e2,h1,h2,hM.ext h3⟩
def endB (L:List UInt8) (k:Nat):Int:=if lowAt (L.drop k) < (L.drop k).length then ((k + lowAt (L.drop k):Nat):Int) else -1
theorem endB_hi {L:List UInt8} {k:Nat} {x:UInt8} (hx:L[k]? = some x) (h:¬ x.toNat < 128):endB L k = endB L (k + 1):=by
 have hk:=(List.getElem?_eq_some_iff.1 hx).1
 have hd:L.drop k = x :: L.drop (k + 1):=by
  rw [List.drop_eq_getElem_cons hk]
  rw [List.getElem?_eq_getElem hk] at hx
  cases hx; rfl
 unfold endB
 rw [hd,lowAt,if_neg h]
 simp only [List.length_cons,Nat.add_lt_add_iff_right]
 congr 2
 omega
theorem end_mc4 (gl:List (Nat × List G)) (j k:Nat) (L:List UInt8) (σ:Sto) (c:Nat) (hj:sget σ j = some (⟨5,L.map gY,none⟩:Ob)) (hk:k ≤ L.length) (hL:L.length ≤ 1000000000000):McK Tryz.prog gl 78 [.rsl j 0 L.length,vI k] σ c (vI (endB L k)) σ c:=by
 suffices hM:Mc Tryz.prog gl 78 [.rsl j 0 L.length,vI k] σ c (fun v σ' c' => v = vI (endB L k) ∧ σ' = σ ∧ c' = c) by
  obtain ⟨v,σ',c',⟨rfl,rfl,rfl⟩,hM⟩:=hM
  exact hM
 refine mc_enter (by kernel_rfl) Tryz.func78 rfl (by simp [Tryz.ntmps78]) ?_
 simp only [enterFr,Tryz.ntmps78]
 refine wS ?_
 refine zv (vI 0) ?_
 refine wS ?_
 refine ex_loop (fun m s => ∃ q:Nat,s = ⟨17,gl,[(0,.rsl j 0 L.length),(1,vI (q:Int))],σ,c,c,false⟩ ∧ m = L.length - q ∧ q ≤ L.length ∧ endB L q = endB L k) (L.length - k) (le_frs (by repeat' (first|exact ⟨⟩|refine ⟨rfl,?_⟩))) ⟨k,rfl,rfl,hk,rfl⟩ ?_
 rintro m s ⟨q,rfl,rfl,hq,he⟩
 refine wS ?_
 refine zv (vI q) ?_
 refine zv (.rsl j 0 L.length) ?_
 refine zv (vI L.length) ?_
 refine run_bin rfl rfl (ltI (a:=q) (b:=L.length)) (by decide) ?_
 refine wS ?_
 refine ex_condP (p:=(q:Int) < L.length) rfl (fun hlt => ?_) (fun hlt => ?_)
 ·obtain ⟨x,hx⟩:∃ x,L[q]? = some x:=⟨_,List.getElem?_eq_getElem (by omega)⟩
  obtain ⟨v1,v2⟩:=view_at hj hx
  refine wS ?_
  refine zv (.rsl j 0 L.length) ?_
  refine zv (vI q) ?_
  refine zt (.ref j q) v1 ?_
  refine zt (gY x) v2 ?_
  refine run_bin rfl rfl (ltY (b:=128)) (by decide) ?_
  refine wS ?_
  refine ex_condP (p:=x.toNat < 128) rfl (fun hlo => ?_) (fun hlo => ?_)
  ·
   refine wS ?_
   refine zv (vI q) ?_
   refine zv (vI q) ?_
   refine wS ?_
   have hd:L.drop q = x :: L.drop (q + 1):=by
    have hq':q < L.length:=by omega
    rw [List.drop_eq_getElem_cons hq']
    rw [List.getElem?_eq_getElem hq'] at hx
    cases hx; rfl
   have e1:endB L q = q:=by
    unfold endB
    rw [hd,lowAt,if_pos hlo]
    simp
   refine endx (.inr rfl) (gs:=[vI q]) (by kernel_rfl) ⟨?_,rfl,rfl⟩
   rw [← he,e1]; rfl
  ·
   refine wS ?_
   refine zv (vI q) ?_
   refine run_bin (g:=vI ((q + 1:Nat):Int)) rfl rfl (addI (b:=1) (by unfold Is64; omega)) (by decide) ?_
   refine zv (vI ((q + 1:Nat):Int)) ?_
   refine wS ?_
   exact ⟨L.length - (q + 1),_,by omega,le_frs (fr':=[(0,.rsl j 0 L.length),(1,vI ((q + 1:Nat):Int))]) (by repeat' (first|exact ⟨⟩|refine ⟨rfl,?_⟩)),q + 1,rfl,rfl,by omega,by rw [← he,endB_hi hx hlo]⟩
 ·
  refine wS ?_
  refine zv (vI (-1)) ?_
  refine wS ?_
  refine endx (.inr rfl) (gs:=[vI (-1)]) (by kernel_rfl) ⟨?_,rfl,rfl⟩
  rw [← he]
  unfold endB
  rw [List.drop_of_length_le (by omega)]
  rfl

theorem val7_drop:∀ (l:List UInt8) (i:Nat),val7 (l.drop i) ≤ val7 l
 | l,0 => Nat.le_refl _
 | [],i + 1 => Nat.le_refl _
 | x :: r,i + 1 => by
  have:=val7_drop r i
  rw [List.drop_succ_cons,val7]; omega
set_option maxHeartbeats 4000000 in
theorem num_rd4 (gl:List (Nat × List G)) {i j a:Nat} {L:List UInt8} {e:Int} {σ:Sto} (c:Nat) (h:I4At σ i j L a e):Reads4 gl 41 i j L σ c [] (vU (cNum (curOf L a e)).1) (cNum (curOf L a e)).2:=by
 obtain ⟨l0,l1,l2⟩:=i4_ld h.i
 have ha:=h.at'
 have hL:=h.L
 refine reads4_enter (by kernel_rfl) Tryz.func41 rfl (by simp [Tryz.ntmps41]) ?_
 simp only [enterFr,Tryz.ntmps41]
 refine wS ?_
 refine zv (vU 0) ?_
 refine wS ?_
 refine zv (.ref i 0) ?_
 refine zv (.ref i 0) ?_
 refine zv (.ref i 2) ?_
 refine zt (vI e) l2 ?_
 refine run_bin rfl rfl (neI (a:=e) (b:=0)) (by decide) ?_
 refine wS ?_
 refine ex_condP (p:=e ≠ 0) rfl (fun he => ?_) (fun he => ?_)
 ·
  refine wS ?_
  refine zv (vU 0) ?_
  refine wS ?_
  rw [curOf_err he]
  refine endx (.inr rfl) (gs:=[vU 0]) (by kernel_rfl) ⟨a,e,ha,curOf_err he,rfl,rfl,fun k => ?_⟩
  rw [sget_cons]
  split
  ·rename_i hk; rw [← hk,h.i]
  ·rfl
 obtain rfl:e = 0:=Decidable.of_not_not he
 rw [curOf_ok]
 have hE:=end_mc4 gl j a L σ c h.j ha hL
 obtain ⟨m,hm⟩:∃ m,m = lowAt (L.drop a):=⟨_,rfl⟩
 obtain ⟨n,hn⟩:∃ n,n = (L.drop a).length:=⟨_,rfl⟩
 have hn':n = L.length - a:=by rw [hn]; simp
 have hmn:m ≤ n:=by rw [hm,hn]; exact lowAt_le _
 obtain ⟨last,hlast⟩:∃ z:Int,z = if m < n then ((a + m:Nat):Int) else -1:=⟨_,rfl⟩
 obtain ⟨sz,hsz⟩:∃ z:Nat,z = if m < n then m + 1 else n:=⟨_,rfl⟩
 rw [show endB L a = last by rw [hlast,hm,hn]; rfl] at hE
 have hrd:=rdN_eq (L.drop a) 0 (by omega)
 rw [← hm,← hn] at hrd
 have hsk:∀ (o:Option Ob),∀ q,sget ((i,o) :: σ) q = sget ((i,o) :: σ) q:=fun _ _ => rfl
 have hlb : -1 ≤ last ∧ last < L.length:=by rw [hlast]; split <;> omega
 refine wS ?_
 refine ex_region_draw (bars:=[]) mixed (by kernel_rfl) ?_
 refine zd (.ref i 0) ?_
 refine zd (.ref i 0) ?_
 refine zd (.ref i 0) ?_
 refine rund_v (g:=.rsl j 0 L.length) (Eq.trans (by kernel_rfl) (l0)) (by decide) ?_
 refine zd (.ref i 0) ?_
 refine zd (.ref i 0) ?_
 refine zd (.ref i 1) ?_
 refine rund_v (g:=vI a) (Eq.trans (by kernel_rfl) (l1)) (by decide) ?_
 refine rund_p hE [] [] (by kernel_rfl) (by kernel_rfl) (by decide) ?_
 refine zd (vI last) ?_
 apply rund_nil
 refine wS ?_
 refine zv (vI last) ?_
 refine zv (.ref i 0) ?_
 refine zv (.ref i 0) ?_
 refine zv (.ref i 1) ?_
 refine zt (vI a) l1 ?_
 refine run_bin rfl rfl (subI (a:=last) (b:=a) (by unfold Is64; omega)) (by decide) ?_
 refine run_bin rfl rfl (addI (a:=last - a) (b:=1) (by unfold Is64; omega)) (by decide) ?_
 refine zv (vI ((last - a) + 1)) ?_
 refine wS ?_
 refine zv (vI last) ?_
 refine run_bin rfl rfl (ltI (a:=last) (b:=0)) (by decide) ?_
 refine wS ?_
 refine ex_thn (K:=fun s => ∃ fr',s = ⟨110,gl,fr',σ,c,c,false⟩ ∧ FrOk fr' [(0,.ref i 0),(3,vI last),(4,vI sz)]) ?_ ?_
 ·refine ex_condP (p:=last < 0) rfl (fun hl => ?_) (fun hl => ?_)
  ·have hno:¬ m < n:=fun h => by rw [hlast,if_pos h] at hl; omega
   have e1:sz = n:=by rw [hsz,if_neg hno]
   have e2:(sz:Int) = (L.length:Int) - a:=by omega
   refine wS ?_
   refine ex_region_draw (bars:=[]) mixed (by kernel_rfl) ?_
   refine zd (.ref i 0) ?_
   refine zd (.ref i 0) ?_
   refine zd (.ref i 0) ?_
   refine rund_v (g:=.rsl j 0 L.length) (Eq.trans (by kernel_rfl) (l0)) (by decide) ?_
   refine zd (vI L.length) ?_
   refine zd (.ref i 0) ?_
   refine zd (.ref i 0) ?_
   refine zd (.ref i 1) ?_
   refine rund_v (g:=vI a) (Eq.trans (by kernel_rfl) (l1)) (by decide) ?_
   refine rund_bin rfl rfl (subI (a:=L.length) (b:=a) (by unfold Is64; omega)) (by decide) ?_
   refine zd (vI (L.length - a)) ?_
   apply rund_nil
   refine ⟨rfl,_,rfl,rfl,rfl,?_,trivial⟩
   rw [e2]; rfl
  ·have hyes:m < n:=by
    rcases Nat.lt_or_ge m n with h | h
    ·exact h
    ·rw [hlast,if_neg (by omega)] at hl; omega
   have e2:(sz:Int) = last - a + 1:=by rw [hsz,hlast,if_pos hyes,if_pos hyes]; omega
   refine wS ?_
   refine ⟨rfl,_,rfl,rfl,rfl,?_,trivial⟩
   rw [e2]; rfl
 rintro s ⟨fr1,rfl,hfr1⟩
 refine Ex.le ?_ (le_frs hfr1)
 obtain ⟨b9,hb9⟩:∃ b:Bool,b = decide (10 < sz ∨ (sz = 10 ∧ 1 < (L.getD (a + 9) 0).toNat)):=⟨_,rfl⟩
 have h10:sz = 10 → a + 9 < L.length:=fun h => by
  rw [hsz] at h
  split at h <;> omega
 refine wN ?_
 refine ex_region_drawk (bars:=[]) (fun s => ∃ fr',s = ⟨110,gl,fr',σ,c,c,false⟩ ∧ FrOk fr' [(0,.ref i 0),(3,vI last),(4,vI sz),(59,vB b9)]) mixed (by kernel_rfl) ?_ ?_
 ·refine zd (vI sz) ?_
  refine rund_bin rfl rfl (gtI (a:=sz) (b:=10)) (by decide) ?_
  refine zd (vB (decide ((10:Int) < sz))) ?_
  by_cases h1:(10:Int) < sz
  ·rw [decide_eq_true h1]
   refine zm ?_
   refine zm ?_
   refine zm ?_
   refine zm ?_
   refine zm ?_
   refine zm ?_
   refine zm ?_
   refine zm ?_
   refine zm ?_
   refine zm ?_
   refine zm ?_
   refine zm ?_
   refine zm ?_
   refine zm ?_
   refine zm ?_
   refine zm ?_
   refine zd (vB true) ?_
   refine rund_nil ⟨_,rfl,rfl,rfl,rfl,?_,trivial⟩
   rw [hb9]; exact vBt (.inl (by omega))
  ·rw [decide_eq_false h1]
   refine zh (vI sz) ?_
   refine gdd_bin (by kernel_rfl) rfl rfl (eqI (a:=sz) (b:=10)) (by decide) ?_
   refine zh (vB (decide ((sz:Int) = 10))) ?_
   by_cases h2:(sz:Int) = 10
   ·obtain ⟨x9,hx9⟩:∃ x,L[a + 9]? = some x:=⟨_,List.getElem?_eq_getElem (h10 (by omega))⟩
    obtain ⟨v1,v2⟩:=view_at h.j hx9
    have hg:L.getD (a + 9) 0 = x9:=by rw [List.getD_eq_getElem?_getD,hx9]; rfl
    rw [decide_eq_true h2]
    refine zh (.ref i 0) ?_
    refine zh (.ref i 0) ?_
    refine zh (.ref i 0) ?_
    refine gdd_v (g:=.rsl j 0 L.length) (by kernel_rfl) (Eq.trans (by kernel_rfl) (l0)) (by decide) ?_
    refine zh (.ref i 0) ?_
    refine zh (.ref i 0) ?_
    refine zh (.ref i 1) ?_
    refine gdd_v (g:=vI a) (by kernel_rfl) (Eq.trans (by kernel_rfl) (l1)) (by decide) ?_
    refine gdd_bin (g:=vI ((a + 9:Nat):Int)) (by kernel_rfl) rfl rfl (addI (b:=9) (by unfold Is64; omega)) (by decide) ?_
    refine gdd_v (g:=.ref j (a + 9)) (by kernel_rfl) (Eq.trans (by kernel_rfl) v1) (by decide) ?_
    refine gdd_v (g:=gY x9) (by kernel_rfl) (Eq.trans (by kernel_rfl) (v2)) (by decide) ?_
    refine gdd_bin (by kernel_rfl) rfl rfl (gtY (b:=1)) (by decide) ?_
    refine zh (vB (decide (1 < x9.toNat))) ?_
    refine zd (vB (decide (1 < x9.toNat))) ?_
    refine rund_nil ⟨_,rfl,rfl,rfl,rfl,?_,trivial⟩
    rw [hb9]
    exact vBc ⟨fun h => .inr ⟨by omega,by rw [hg]; exact h⟩,fun h => by
     rcases h with h | h
     ·omega
     ·rw [hg] at h; exact h.2⟩
   ·rw [decide_eq_false h2]
    refine zm ?_
    refine zm ?_
    refine zm ?_
    refine zm ?_
    refine zm ?_
    refine zm ?_
    refine zm ?_
    refine zm ?_
    refine zm ?_
    refine zm ?_
    refine zm ?_
    refine zm ?_
    refine zh (vB false) ?_
    refine zd (vB false) ?_
    refine rund_nil ⟨_,rfl,rfl,rfl,rfl,?_,trivial⟩
    rw [hb9]
    exact vBf fun h => by omega
 rintro s ⟨fr2,rfl,hfr2⟩
 apply thn_n
 refine Ex.le ?_ (le_frs hfr2)
 refine ex_condB (t:=b9) rfl (fun h9 => ?_) (fun h9 => ?_)
 ·refine wS ?_
  refine zv (.ref i 0) ?_
  refine zv (.ref i 0) ?_
  refine zv (.ref i 2) ?_
  refine run_sto (i4_st2 h.i) ?_
  refine wS ?_
  refine zv (vU 0) ?_
  refine wS ?_
  rw [hb9] at h9
  have h9:=of_decide_eq_true h9
  have e1:cNum (.ok (L.drop a)) = (0,.error 7):=by
   have:rdN 0 (L.drop a) = .error 7:=by
    rw [hrd]
    split
    ·rename_i hlt
     rw [if_pos]
     rw [hsz,if_pos hlt] at h9
     rcases h9 with h9 | ⟨h9,h9'⟩
     ·exact .inl (by omega)
     ·refine .inr ⟨by omega,?_⟩
      rw [show m = 9 by omega]
      simpa [List.getD_eq_getElem?_getD,List.getElem?_drop] using h9'
    ·rename_i hlt
     rw [if_pos]
     rw [hsz,if_neg hlt] at h9
     omega
   simp only [cNum,this]
  rw [e1]
  exact endx (.inr rfl) (gs:=[vU 0]) (by kernel_rfl) ⟨a,7,ha,curOf_err (by decide),rfl,rfl,fun _ => rfl⟩
 rw [hb9] at h9
 have h9:=of_decide_eq_false h9
 refine wS ?_
 refine zv (vI last) ?_
 refine run_bin rfl rfl (ltI (a:=last) (b:=0)) (by decide) ?_
 refine wS ?_
 refine ex_condP (p:=last < 0) rfl (fun hl => ?_) (fun hl => ?_)
 ·
  have hno:¬ m < n:=fun h => by rw [hlast,if_pos h] at hl; omega
  refine wS ?_
  refine zv (.ref i 0) ?_
  refine zv (.ref i 0) ?_
  refine zv (.ref i 2) ?_
  refine run_sto (i4_st2 h.i) ?_
  refine wS ?_
  refine zv (vU 0) ?_
  refine wS ?_
  have e1:cNum (.ok (L.drop a)) = (0,.error 9):=by
   have:rdN 0 (L.drop a) = .error 9:=by
    rw [hrd,if_neg hno,if_neg]
    rw [hsz,if_neg hno] at h9
    intro h10'
    refine h9 ?_
    rcases Nat.lt_or_ge 10 n with hh | hh
    ·exact .inl hh
    ·have hn10:n = 10:=by omega
     refine .inr ⟨hn10,?_⟩
     have hx9:(L.drop a)[9]? = some ((L.drop a)[9]'(by omega)):=List.getElem?_eq_getElem _
     have:=lowAt_hi (L.drop a) 9 _ (by omega) hx9
     rw [List.getElem?_drop] at hx9
     rw [List.getD_eq_getElem?_getD,hx9]
     show 1 < UInt8.toNat _
     exact Nat.lt_of_lt_of_le (by decide) this
   simp only [cNum,this]
  rw [e1]
  exact endx (.inr rfl) (gs:=[vU 0]) (by kernel_rfl) ⟨a,9,ha,curOf_err (by decide),rfl,rfl,fun _ => rfl⟩
 have hyes:m < n:=by
  rcases Nat.lt_or_ge m n with h | h
  ·exact h
  ·rw [hlast,if_neg (by omega)] at hl; omega
 rw [if_pos hyes] at hrd
 obtain rfl:sz = m + 1:=by rw [hsz,if_pos hyes]
 obtain rfl:last = ((a + m:Nat):Int):=by rw [hlast,if_pos hyes]
 obtain ⟨xm,hxm⟩:∃ x,L[a + m]? = some x:=⟨_,List.getElem?_eq_getElem (by omega)⟩
 have hgm:(L.drop a).getD m 0 = xm:=by rw [List.getD_eq_getElem?_getD,List.getElem?_drop,hxm]; rfl
 obtain ⟨w1,w2⟩:=view_at h.j hxm
 obtain ⟨b0,hb0⟩:∃ b:Bool,b = decide (0 < m ∧ xm.toNat = 0):=⟨_,rfl⟩
 refine wN ?_
 refine ex_region_k (fun s => ∃ fr',s = ⟨110,gl,fr',σ,c,c,false⟩ ∧ FrOk fr' [(0,.ref i 0),(3,vI ((a + m:Nat):Int)),(79,vB b0)]) ?_ ?_
 ·refine zv (vI ((m + 1:Nat):Int)) ?_
  refine run_bin rfl rfl (gtI (a:=((m + 1:Nat):Int)) (b:=1)) (by decide) ?_
  refine zv (vB (decide ((1:Int) < ((m + 1:Nat):Int)))) ?_
  by_cases h1:(1:Int) < ((m + 1:Nat):Int)
  ·rw [decide_eq_true h1]
   refine zg (.ref i 0) ?_
   refine zg (.ref i 0) ?_
   refine zg (.ref i 0) ?_
   refine ged_v (g:=.rsl j 0 L.length) (by kernel_rfl) (Eq.trans (by kernel_rfl) (l0)) (by decide) ?_
   refine zg (vI ((a + m:Nat):Int)) ?_
   refine ged_v (g:=.ref j (a + m)) (by kernel_rfl) (Eq.trans (by kernel_rfl) w1) (by decide) ?_
   refine ged_v (g:=gY xm) (by kernel_rfl) (Eq.trans (by kernel_rfl) (w2)) (by decide) ?_
   refine ged_bin (by kernel_rfl) rfl rfl (eqY (b:=0)) (by decide) ?_
   refine zv (vB (decide (xm.toNat = 0))) ?_
   refine run_nil ⟨_,rfl,rfl,rfl,?_,trivial⟩
   rw [hb0]
   exact vBc ⟨fun h => ⟨by omega,h⟩,fun h => h.2⟩
  ·rw [decide_eq_false h1]
   refine zn ?_
   refine zn ?_
   refine zn ?_
   refine zn ?_
   refine zn ?_
   refine zn ?_
   refine zn ?_
   refine zn ?_
   refine zv (vB false) ?_
   refine run_nil ⟨_,rfl,rfl,rfl,?_,trivial⟩
   rw [hb0]
   exact vBf fun h => by omega
 rintro s ⟨fr3,rfl,hfr3⟩
 apply thn_n
 refine Ex.le ?_ (le_frs hfr3)
 refine ex_condB (t:=b0) rfl (fun h0 => ?_) (fun h0 => ?_)
 ·rw [hb0] at h0
  have h0:=of_decide_eq_true h0
  refine wS ?_
  refine zv (.ref i 0) ?_
  refine zv (.ref i 0) ?_
  refine zv (.ref i 2) ?_
  refine run_sto (i4_st2 h.i) ?_
  refine wS ?_
  refine zv (vU 0) ?_
  refine wS ?_
  have e1:cNum (.ok (L.drop a)) = (0,.error 7):=by
   have:rdN 0 (L.drop a) = .error 7:=by
    rw [hrd]
    split
    ·rfl
    ·rw [hgm,if_pos ⟨by omega,h0.2⟩]
   simp only [cNum,this]
  rw [e1]
  exact endx (.inr rfl) (gs:=[vU 0]) (by kernel_rfl) ⟨a,7,ha,curOf_err (by decide),rfl,rfl,fun _ => rfl⟩
 rw [hb0] at h0
 have h0:=of_decide_eq_false h0
 have hrd':rdN 0 (L.drop a) = .ok (val7 ((L.drop a).take (m + 1)),(L.drop a).drop (m + 1)):=by
  rw [hrd,if_neg,if_neg]
  ·rw [hgm]; omega
  ·rw [hgm]
   rintro (h | ⟨h,h'⟩)
   ·exact h9 (.inl (by omega))
   ·refine h9 (.inr ⟨by omega,?_⟩)
    rw [show a + 9 = a + m by omega,List.getD_eq_getElem?_getD,hxm]
    exact h'
 have hu:=(rd_canon hrd').2
 have e1:cNum (.ok (L.drop a)) = (val7 ((L.drop a).take (m + 1)),.ok (L.drop (a + (m + 1)))):=by
  simp only [cNum,hrd',List.drop_drop]
 rw [e1]
 obtain ⟨T,hT⟩:∃ T,T = (L.drop a).take (m + 1):=⟨_,rfl⟩
 rw [← hT] at hu ⊢
 have hTl:T.length = m + 1:=by rw [hT]; simp; omega
 refine wS ?_
 refine zv (vU 0) ?_
 refine wS ?_
 refine zv (vI ((a + m:Nat):Int)) ?_
 refine zv (vI ((a + m:Nat):Int)) ?_
 refine wS ?_
 refine ex_loop (fun t s => ∃ q:Nat,s = ⟨110,gl,[(0,.ref i 0),(3,vI ((a + m:Nat):Int)),(5,vU (val7 (T.drop q))),(6,vI ((a:Int) + q - 1))],σ,c,c,false⟩ ∧ t = q ∧ q ≤ m + 1) (m + 1) (le_frs (fr':=[(0,.ref i 0),(3,vI ((a + m:Nat):Int)),(5,vU 0),(6,vI ((a + m:Nat):Int))]) (by repeat' (first|exact ⟨⟩|refine ⟨rfl,?_⟩))) ⟨m + 1,?_,rfl,Nat.le_refl _⟩ ?_
 ·rw [List.drop_of_length_le (by omega),show ((a + m:Nat):Int) = (a:Int) + ((m + 1:Nat):Int) - 1 by omega]
  rfl
 rintro q s ⟨_,rfl,rfl,hq⟩
 refine wS ?_
 refine zv (vI ((a:Int) + q - 1)) ?_
 refine zv (.ref i 0) ?_
 refine zv (.ref i 0) ?_
 refine zv (.ref i 1) ?_
 refine zt (vI a) l1 ?_
 refine run_bin rfl rfl (geI (a:=(a:Int) + q - 1) (b:=a)) (by decide) ?_
 refine wS ?_
 refine ex_condP (p:=(a:Int) ≤ (a:Int) + q - 1) rfl (fun hge => ?_) (fun hge => ?_)
 ·obtain ⟨q,rfl⟩:∃ q',q = q' + 1:=⟨q - 1,by omega⟩
  obtain ⟨x,hx⟩:∃ x,L[a + q]? = some x:=⟨_,List.getElem?_eq_getElem (by omega)⟩
  obtain ⟨v1,v2⟩:=view_at h.j hx
  have hTx:T[q]? = some x:=by rw [hT,List.getElem?_take_of_lt (by omega),List.getElem?_drop,hx]
  have hTq:T.drop q = x :: T.drop (q + 1):=by
   have hl:q < T.length:=by omega
   rw [List.drop_eq_getElem_cons hl]
   rw [List.getElem?_eq_getElem hl] at hTx
   cases hTx; rfl
  have hv:val7 (T.drop q) = val7 (T.drop (q + 1)) * 128 + x.toNat % 128:=by rw [hTq,val7]; omega
  have hvle:=val7_drop T q
  have ek:(a:Int) + ((q + 1:Nat):Int) - 1 = ((a + q:Nat):Int):=by omega
  have hxlt:=x.toNat_lt
  rw [ek]
  refine wS ?_
  refine zv (vU (val7 (T.drop (q + 1)))) ?_
  refine run_bin rfl rfl (mulU (a:=val7 (T.drop (q + 1))) (b:=128) (by omega)) (by decide) ?_
  refine zv (.ref i 0) ?_
  refine zv (.ref i 0) ?_
  refine zv (.ref i 0) ?_
  refine zt (.rsl j 0 L.length) l0 ?_
  refine zv (vI ((a + q:Nat):Int)) ?_
  refine zt (.ref j (a + q)) v1 ?_
  refine zt (gY x) v2 ?_
  refine run_bin rfl rfl remY (by decide) ?_
  refine run_conv (Eq.trans (by kernel_rfl) (cvU (k:=.u64) (n:=x.toNat % 128) (by omega))) (by decide) ?_
  refine run_bin rfl rfl (addU (a:=(val7 (T.drop (q + 1))) * 128) (b:=x.toNat % 128) (by omega)) (by decide) ?_
  refine zv (vU (((val7 (T.drop (q + 1))) * 128) + (x.toNat % 128))) ?_
  refine wS ?_
  refine zv (vI ((a + q:Nat):Int)) ?_
  refine run_bin rfl rfl (subI (a:=((a + q:Nat):Int)) (b:=1) (by unfold Is64; omega)) (by decide) ?_
  refine zv (vI (((a + q:Nat):Int) - 1)) ?_
  refine wS ?_
  refine ⟨q,_,by omega,le_frs (fr':=[(0,.ref i 0),(3,vI ((a + m:Nat):Int)),(5,vU (val7 (T.drop q))),(6,vI ((a:Int) + q - 1))]) ⟨rfl,rfl,?_,?_,trivial⟩,q,rfl,rfl,by omega⟩
  ·rw [hv]; rfl
  ·rw [show (a:Int) + q - 1 = ((a + q:Nat):Int) - 1 by omega]; rfl
 ·obtain rfl:q = 0:=by omega
  rw [List.drop_zero]
  refine wS ?_
  refine zv (.ref i 0) ?_
  refine zv (vI ((a + m:Nat):Int)) ?_
  refine run_bin (g:=vI ((a + (m + 1):Nat):Int)) rfl rfl (addI (b:=1) (by unfold Is64; omega)) (by decide) ?_
  refine zv (.ref i 0) ?_
  refine zv (.ref i 1) ?_
  refine run_sto (i4_st1 h.i) ?_
  refine wS ?_
  refine zv (vU (val7 T)) ?_
  refine zv (vU (val7 T)) ?_
  refine wS ?_
  exact endx (.inr rfl) (gs:=[vU (val7 T)]) (by kernel_rfl) ⟨a + (m + 1),0,by omega,curOf_ok,rfl,rfl,fun _ => rfl⟩
end
section
open Go.RowKit
attribute [local irreducible] Tr Run RunD GS TG Le Wk Frz Fn' ImmG Flat WkFr WkSt EndM Ex EndX McK
theorem int_rd4 (gl:List (Nat × List G)) {i j a:Nat} {L:List UInt8} {e:Int} {σ:Sto} (c:Nat) (h:I4At σ i j L a e):Reads4 gl 39 i j L σ c [] (vI (cInt (curOf L a e)).1) (cInt (curOf L a e)).2:=by
 obtain ⟨a2,e2,h1,h2,hM⟩:=num_rd4 gl c h
 have hu:=cNum_lt (curOf L a e)
 unfold cInt
 generalize cNum (curOf L a e) = q at *
 obtain ⟨u,s⟩:=q
 dsimp only at *
 refine reads4_enter (by kernel_rfl) Tryz.func39 rfl (by simp [Tryz.ntmps39]) ?_
 simp only [enterFr,Tryz.ntmps39]
 refine wS ?_
 refine zv (vI 0) ?_
 refine wS ?_
 refine zv (.ref i 0) ?_
 refine run_m hM [] [] (by kernel_rfl) (by kernel_rfl) (by decide) ?_
 refine zv (vU u) ?_
 refine wS ?_
 refine zv (vU u) ?_
 refine run_bin rfl rfl (remU (a:=u) (b:=2) (by decide)) (by decide) ?_
 refine run_bin rfl rfl (eqU (a:=u % 2) (b:=1)) (by decide) ?_
 refine wS ?_
 refine ex_condP (p:=(u % 2:Nat) = 1) rfl (fun ho => ?_) (fun ho => ?_)
 ·
  refine wS ?_
  refine zv (vU u) ?_
  refine run_bin rfl rfl (quoU (a:=u) (b:=2) (by decide) (by omega)) (by decide) ?_
  refine run_conv (Eq.trans (by kernel_rfl) (cvI (a:=((u / 2:Nat):Int)) (by unfold Is64; omega))) (by decide) ?_
  refine run_un rfl (negI (a:=((u / 2:Nat):Int)) (by unfold Is64; omega)) (by decide) ?_
  refine run_bin rfl rfl (subI (a := -((u / 2:Nat):Int)) (b:=1) (by unfold Is64; omega)) (by decide) ?_
  refine zv (vI ((-((u / 2:Nat):Int)) - 1)) ?_
  refine wS ?_
  refine endx (.inr rfl) (gs:=[vI (-((u / 2:Nat):Int) - 1)]) (by kernel_rfl) ⟨a2,e2,h1,h2,?_,rfl,fun _ => rfl⟩
  unfold zag
  rw [if_pos ho]; rfl
 ·
  refine wS ?_
  refine zv (vU u) ?_
  refine run_bin rfl rfl (quoU (a:=u) (b:=2) (by decide) (by omega)) (by decide) ?_
  refine run_conv (Eq.trans (by kernel_rfl) (cvI (a:=((u / 2:Nat):Int)) (by unfold Is64; omega))) (by decide) ?_
  refine zv (vI ((u / 2:Nat):Int)) ?_
  refine wS ?_
  refine endx (.inr rfl) (gs:=[vI ((u / 2:Nat):Int)]) (by kernel_rfl) ⟨a2,e2,h1,h2,?_,rfl,fun _ => rfl⟩
  unfold zag
  rw [if_neg ho]; rfl
theorem over24 {σ:Sto} {i:Nat} {o o' o'':Option Ob} (k:Nat):sget ((i,o) :: (i,o') :: (i,o'') :: σ) k = sget ((i,o) :: σ) k:=by
 simp only [sget_cons]
 split <;> rfl
theorem zag_two (u:Nat):(zag u ≠ 0 ∧ zag u ≠ 1) ↔ (u ≠ 0 ∧ u ≠ 2):=by unfold zag; split <;> omega
theorem zag_one (u:Nat):zag u = 1 ↔ u = 2:=by unfold zag; split <;> omega
theorem cNum_err0 {s:Cur} {e:Int} (h:(cNum s).2 = .error e):(cNum s).1 = 0:=by
 cases s with
 | error e => rfl
 | ok l =>
  cases hq:rdN 0 l with
  | error e => simp [cNum,hq]
  | ok q => simp [cNum,hq] at h
theorem bool_rd4 (gl:List (Nat × List G)) {i j a:Nat} {L:List UInt8} {e:Int} {σ:Sto} (c:Nat) (h:I4At σ i j L a e):Reads4 gl 40 i j L σ c [] (vB (cBool (curOf L a e)).1) (cBool (curOf L a e)).2:=by
 obtain ⟨a2,e2,h1,h2,hM⟩:=int_rd4 gl c h
 obtain ⟨l0,l1,l2⟩:=i4_ld h.i
 have hn:=h.next (e2:=e2) h1
 obtain ⟨m0,m1,m2⟩:=i4_ld hn.i
 have h0:e2 ≠ 0 → (cNum (curOf L a e)).1 = 0:=fun hne => by
  rw [curOf_err hne] at h2
  exact cNum_err0 h2.symm
 unfold cBool
 rw [show (cNum (curOf L a e)).2 = (cInt (curOf L a e)).2 from rfl]
 unfold cInt at hM h2 ⊢
 generalize cNum (curOf L a e) = q at *
 obtain ⟨u,s⟩:=q
 dsimp only at *
 obtain ⟨z,hz⟩:∃ z,z = zag u:=⟨_,rfl⟩
 have hz2:=zag_two u
 have hz1:=zag_one u
 rw [← hz] at hM hz2 hz1
 refine reads4_enter (by kernel_rfl) Tryz.func40 rfl (by simp [Tryz.ntmps40]) ?_
 simp only [enterFr,Tryz.ntmps40]
 refine wS ?_
 refine zv (vB false) ?_
 refine wS ?_
 refine zv (.ref i 0) ?_
 refine zv (.ref i 0) ?_
 refine zv (.ref i 1) ?_
 refine zt (vI a) l1 ?_
 refine zv (vI a) ?_
 refine wS ?_
 refine zv (.ref i 0) ?_
 refine run_m hM [] [] (by kernel_rfl) (by kernel_rfl) (by decide) ?_
 refine zv (vI z) ?_
 refine wN ?_
 refine ex_region_k (fun s => ∃ fr',s = ⟨33,gl,fr',(i,some (i4O j L.length a2 e2)) :: σ,c,c,false⟩ ∧ FrOk fr' [(0,.ref i 0),(3,vI a),(4,vI z),(23,vB (decide (u ≠ 0 ∧ u ≠ 2)))]) ?_ ?_
 ·refine zv (.ref i 0) ?_
  refine zv (.ref i 0) ?_
  refine zv (.ref i 2) ?_
  refine zt (vI e2) m2 ?_
  refine run_bin rfl rfl (eqI (a:=e2) (b:=0)) (by decide) ?_
  refine zv (vB (decide ((e2:Int) = 0))) ?_
  by_cases c1:e2 = 0
  ·rw [decide_eq_true c1]
   refine zg (vI z) ?_
   refine ged_bin (by kernel_rfl) rfl rfl (neI (a:=z) (b:=0)) (by decide) ?_
   refine zv (vB (decide ((z:Int) ≠ 0))) ?_
   refine zv (vB (decide ((z:Int) ≠ 0))) ?_
   by_cases c2:z ≠ 0
   ·rw [decide_eq_true c2]
    refine zg (vI z) ?_
    refine ged_bin (by kernel_rfl) rfl rfl (neI (a:=z) (b:=1)) (by decide) ?_
    refine zv (vB (decide ((z:Int) ≠ 1))) ?_
    refine run_nil ⟨_,rfl,rfl,rfl,rfl,?_,trivial⟩
    exact vBc ⟨fun h => hz2.1 ⟨c2,h⟩,fun h => (hz2.2 h).2⟩
   ·rw [decide_eq_false c2]
    refine zn ?_
    refine zn ?_
    refine zv (vB false) ?_
    refine run_nil ⟨_,rfl,rfl,rfl,rfl,?_,trivial⟩
    exact vBf fun h => c2 (hz2.2 h).1
  ·rw [decide_eq_false c1]
   refine zn ?_
   refine zn ?_
   refine zv (vB false) ?_
   refine zv (vB false) ?_
   refine zn ?_
   refine zn ?_
   refine zv (vB false) ?_
   refine run_nil ⟨_,rfl,rfl,rfl,rfl,?_,trivial⟩
   exact vBf fun h => h.1 (h0 c1)
 ·rintro s' ⟨fr',rfl,hfr⟩
  apply thn_n
  refine Ex.le ?_ (le_frs hfr)
  refine ex_condP (p:=u ≠ 0 ∧ u ≠ 2) rfl (fun hb => ?_) (fun hb => ?_)
  ·refine wS ?_
   refine zv (.ref i 0) ?_
   refine zv (.ref i 0) ?_
   refine zv (.ref i 2) ?_
   refine run_sto (i4_st2 hn.i) ?_
   refine wS ?_
   refine zv (.ref i 0) ?_
   refine zv (vI a) ?_
   refine zv (.ref i 0) ?_
   refine zv (.ref i 1) ?_
   refine run_sto (i4_st1 (sget_eq rfl)) ?_
   refine wS ?_
   refine zv (vB false) ?_
   refine wS ?_
   rw [if_pos hb]
   exact endx (.inr rfl) (gs:=[vB false]) (by kernel_rfl) ⟨a,7,h.at',curOf_err (by decide),rfl,rfl,over24⟩
  ·
   refine wS ?_
   refine zv (vI z) ?_
   refine run_bin rfl rfl (eqI (a:=z) (b:=1)) (by decide) ?_
   refine zv (vB (decide ((z:Int) = 1))) ?_
   refine wS ?_
   rw [if_neg hb]
   refine endx (.inr rfl) (gs:=[vB (decide (z = 1))]) (by kernel_rfl) ⟨a2,e2,h1,h2,?_,rfl,fun _ => rfl⟩
   exact vBc hz1
theorem many_rd4 (gl:List (Nat × List G)) {i j a:Nat} {L:List UInt8} {e:Int} {σ:Sto} (c:Nat) (m:Int) (hm0:0 ≤ m) (h:I4At σ i j L a e):Reads4 gl 42 i j L σ c [vI m] (vI (cMany m (curOf L a e)).1) (cMany m (curOf L a e)).2:=by
 obtain ⟨a2,e2,h1,h2,hM⟩:=int_rd4 gl c h
 obtain ⟨l0,l1,l2⟩:=i4_ld h.i
 have hn:=h.next (e2:=e2) h1
 obtain ⟨m0,m1,m2⟩:=i4_ld hn.i
 have h0:e2 ≠ 0 → (cInt (curOf L a e)).1 = 0:=fun hne => by
  rw [curOf_err hne] at h2
  unfold cInt at h2 ⊢
  rw [cNum_err0 h2.symm]; rfl
 unfold cMany
 generalize cInt (curOf L a e) = q at *
 obtain ⟨z,s⟩:=q
 dsimp only at *
 refine reads4_enter (by kernel_rfl) Tryz.func42 rfl (by simp [Tryz.ntmps42]) ?_
 simp only [enterFr,Tryz.ntmps42]
 refine wS ?_
 refine zv (vI 0) ?_
 refine wS ?_
 refine zv (.ref i 0) ?_
 refine zv (.ref i 0) ?_
 refine zv (.ref i 1) ?_
 refine zt (vI a) l1 ?_
 refine zv (vI a) ?_
 refine wS ?_
 refine zv (.ref i 0) ?_
 refine run_m hM [] [] (by kernel_rfl) (by kernel_rfl) (by decide) ?_
 refine zv (vI z) ?_
 refine wN ?_
 refine ex_region_k (fun s => ∃ fr',s = ⟨35,gl,fr',(i,some (i4O j L.length a2 e2)) :: σ,c,c,false⟩ ∧ FrOk fr' [(0,.ref i 0),(5,vI a),(6,vI z),(26,vB (decide (z < 0 ∨ m < z)))]) ?_ ?_
 ·refine zv (.ref i 0) ?_
  refine zv (.ref i 0) ?_
  refine zv (.ref i 2) ?_
  refine zt (vI e2) m2 ?_
  refine run_bin rfl rfl (eqI (a:=e2) (b:=0)) (by decide) ?_
  refine zv (vB (decide ((e2:Int) = 0))) ?_
  by_cases c1:e2 = 0
  ·rw [decide_eq_true c1]
   refine zg (vI z) ?_
   refine ged_bin (by kernel_rfl) rfl rfl (ltI (a:=z) (b:=0)) (by decide) ?_
   refine zg (vB (decide ((z:Int) < 0))) ?_
   by_cases c2:z < 0
   ·rw [decide_eq_true c2]
    refine zn ?_
    refine zn ?_
    refine zn ?_
    refine zg (vB true) ?_
    refine zv (vB true) ?_
    refine run_nil ⟨_,rfl,rfl,rfl,rfl,?_,trivial⟩
    exact vBt (.inl c2)
   ·rw [decide_eq_false c2]
    refine zg (vI z) ?_
    refine zg (vI m) ?_
    refine ged_bin (by kernel_rfl) rfl rfl (gtI (a:=z) (b:=m)) (by decide) ?_
    refine zg (vB (decide ((m:Int) < z))) ?_
    refine zv (vB (decide ((m:Int) < z))) ?_
    refine run_nil ⟨_,rfl,rfl,rfl,rfl,?_,trivial⟩
    exact vBc ⟨fun h => .inr h,fun h => h.resolve_left c2⟩
  ·rw [decide_eq_false c1]
   refine zn ?_
   refine zn ?_
   refine zn ?_
   refine zn ?_
   refine zn ?_
   refine zn ?_
   refine zn ?_
   refine zv (vB false) ?_
   refine run_nil ⟨_,rfl,rfl,rfl,rfl,?_,trivial⟩
   exact vBf fun h => by have:=h0 c1; omega
 ·rintro s' ⟨fr',rfl,hfr⟩
  apply thn_n
  refine Ex.le ?_ (le_frs hfr)
  refine ex_condP (p:=z < 0 ∨ m < z) rfl (fun hb => ?_) (fun hb => ?_)
  ·refine wS ?_
   refine zv (.ref i 0) ?_
   refine zv (.ref i 0) ?_
   refine zv (.ref i 2) ?_
   refine run_sto (i4_st2 hn.i) ?_
   refine wS ?_
   refine zv (.ref i 0) ?_
   refine zv (vI a) ?_
   refine zv (.ref i 0) ?_
   refine zv (.ref i 1) ?_
   refine run_sto (i4_st1 (sget_eq rfl)) ?_
   refine wS ?_
   refine zv (vI 0) ?_
   refine wS ?_
   rw [if_pos hb]
   exact endx (.inr rfl) (gs:=[vI 0]) (by kernel_rfl) ⟨a,7,h.at',curOf_err (by decide),rfl,rfl,over24⟩
  ·
   refine wS ?_
   refine zv (vI z) ?_
   refine zv (vI z) ?_
   refine wS ?_
   rw [if_neg hb]
   exact endx (.inr rfl) (gs:=[vI z]) (by kernel_rfl) ⟨a2,e2,h1,h2,rfl,rfl,fun _ => rfl⟩
theorem end4_mc (gl:List (Nat × List G)) {i j a:Nat} {L:List UInt8} {e:Int} {σ:Sto} (c:Nat) (h:I4At σ i j L a e):McK Tryz.prog gl 44 [.ref i 0] σ c (vI (endOf (curOf L a e))) σ c:=by
 suffices hM:Mc Tryz.prog gl 44 [.ref i 0] σ c (fun v σ' c' => v = vI (endOf (curOf L a e)) ∧ σ' = σ ∧ c' = c) by
  obtain ⟨v,σ',c',⟨rfl,rfl,rfl⟩,hM⟩:=hM
  exact hM
 rw [endOf_cur h.at']
 obtain ⟨l0,l1,l2⟩:=i4_ld h.i
 refine mc_enter (by kernel_rfl) Tryz.func44 rfl (by simp [Tryz.ntmps44]) ?_
 simp only [enterFr,Tryz.ntmps44]
 refine wS ?_
 refine zv (vI 0) ?_
 refine wN ?_
 refine ex_region_drawk (bars:=[]) (fun s => ∃ fr',s = ⟨24,gl,fr',σ,c,c,false⟩ ∧ FrOk fr' [(0,.ref i 0),(19,vB (decide (e = 0 ∧ a < L.length)))]) mixed (by kernel_rfl) ?_ ?_
 ·refine zd (.ref i 0) ?_
  refine zd (.ref i 0) ?_
  refine zd (.ref i 2) ?_
  refine rund_v (g:=vI e) (Eq.trans (by kernel_rfl) (l2)) (by decide) ?_
  refine rund_bin rfl rfl (eqI (a:=e) (b:=0)) (by decide) ?_
  refine zd (vB (decide ((e:Int) = 0))) ?_
  by_cases c1:e = 0
  ·rw [decide_eq_true c1]
   refine zh (.ref i 0) ?_
   refine zh (.ref i 0) ?_
   refine zh (.ref i 1) ?_
   refine gdd_v (g:=vI a) (by kernel_rfl) (Eq.trans (by kernel_rfl) (l1)) (by decide) ?_
   refine zh (.ref i 0) ?_
   refine zh (.ref i 0) ?_
   refine zh (.ref i 0) ?_
   refine gdd_v (g:=.rsl j 0 L.length) (by kernel_rfl) (Eq.trans (by kernel_rfl) (l0)) (by decide) ?_
   refine zh (vI L.length) ?_
   refine gdd_bin (by kernel_rfl) rfl rfl (ltI (a:=a) (b:=L.length)) (by decide) ?_
   refine zd (vB (decide ((a:Int) < L.length))) ?_
   refine rund_nil ⟨_,rfl,rfl,?_,trivial⟩
   exact vBc ⟨fun h => ⟨c1,by omega⟩,fun h => by omega⟩
  ·rw [decide_eq_false c1]
   refine zm ?_
   refine zm ?_
   refine zm ?_
   refine zm ?_
   refine zm ?_
   refine zm ?_
   refine zm ?_
   refine zm ?_
   refine zm ?_
   refine zm ?_
   refine zd (vB false) ?_
   refine rund_nil ⟨_,rfl,rfl,?_,trivial⟩
   exact vBf fun h => c1 h.1
 ·rintro s' ⟨fr',rfl,hfr⟩
  apply thn_n
  refine Ex.le ?_ (le_frs hfr)
  refine ex_condP (p:=e = 0 ∧ a < L.length) rfl (fun hb => ?_) (fun hb => ?_)
  ·rw [if_pos hb.1,if_pos (by omega)]
   refine wS ?_
   refine zv (vI 2) ?_
   refine wS ?_
   exact endx (.inr rfl) (gs:=[vI 2]) (by kernel_rfl) ⟨rfl,rfl,rfl⟩
  ·have e1:(if e = 0 then if (0:Int) < (L.length:Int) - a then (2:Int) else 0 else e) = e:=by
    by_cases h0:e = 0
    ·rw [if_pos h0,if_neg (fun h => hb ⟨h0,by omega⟩),h0]
    ·rw [if_neg h0]
   rw [e1]
   refine wS ?_
   refine zv (.ref i 0) ?_
   refine zv (.ref i 0) ?_
   refine zv (.ref i 2) ?_
   refine zt (vI e) l2 ?_
   refine zv (vI e) ?_
   refine wS ?_
   exact endx (.inr rfl) (gs:=[vI e]) (by kernel_rfl) ⟨rfl,rfl,rfl⟩
end
end Go.Proofs.YtpehhhbmobmedaaGreatDoor
