/- hold.names, Terms: walked. -/
import Derived.Test.YtpehhhbmobmedaaGreatDoorLT
import Derived.Test.YtpehhhbmobmedaaGreatDoorMY
namespace Go.Proofs.YtpehhhbmobmedaaGreatDoor
set_option linter.unusedVariables false
set_option linter.unusedSimpArgs false
set_option linter.unusedSectionVars false
section
open Go.RowKit
attribute [local irreducible] Tr Run RunD GS TG Le Wk Frz Fn' ImmG Flat WkFr WkSt EndM Ex EndX McK FnM gNm
theorem rho_c {a b i:Nat} {ρ:List (Nat × Nat)}:rho ((a,b) :: ρ) i = if i = a then some b else rho ρ i:=by
 unfold rho
 rw [List.lookup_cons]
 by_cases h:i = a
 ·subst h; simp
 ·rw [if_neg h,show (i == a) = false by simpa using h]
theorem rho_n {i:Nat}:rho [] i = none:=rfl
abbrev holdO (d:Int) (m:Nat):Ob:=⟨90,[vI d,.mref m],none⟩
structure HoldAt (σ:Sto) (i m:Nat) (d:Int) (kp:List (Nm × Nat)):Prop where
 ne:i ≠ m
 i:sget σ i = some (holdO d m)
 m:sget σ m = some (mapN kp)
theorem HoldAt.of {σ σ':Sto} {i m:Nat} {d:Int} {kp:List (Nm × Nat)} (h:HoldAt σ i m d kp) (h1:sget σ' i = sget σ i) (h2:sget σ' m = sget σ m):HoldAt σ' i m d kp:=⟨h.ne,h1.trans h.i,h2.trans h.m⟩
theorem hold_ld {σ:Sto} {i m:Nat} {d:Int} (h:sget σ i = some (holdO d m)):gload Tryz.prog σ 3 (.ref i 0) = some (vI d) ∧ gload Tryz.prog σ 88 (.ref i 1) = some (.mref m):=by
 simp only [gload,h]
 exact ⟨by kernel_rfl,by kernel_rfl⟩
theorem vw_mref' {P:Program} {st:St} {ρ:List (Nat × Nat)} {L:List Nat} {i j:Nat} (h:rho ρ i = some j):Vw P st ρ L (.mref j) (.mref i):=fun cx a w β r v hv => by
 obtain ⟨b,C,hb,rfl⟩:=hv.mref_form
 exact .mref i b C (by simp [h,hb])
theorem keys_mc (gl:List (Nat × List G)) (m:Nat) (σ:Sto) (c:Nat):McK Tryz.prog gl 82 [.mref m] σ c (.clo (.func 124) [] [.ref c 0]) ((c,some ⟨88,[.mref m],none⟩) :: σ) (c + 1):=by
 suffices hM:Mc Tryz.prog gl 82 [.mref m] σ c (fun v σ' c' => v = .clo (.func 124) [] [.ref c 0] ∧ σ' = (c,some ⟨88,[.mref m],none⟩) :: σ ∧ c' = c + 1) by
  obtain ⟨v,σ',c',⟨rfl,rfl,rfl⟩,hM⟩:=hM
  exact hM
 refine mc_enter (by kernel_rfl) Tryz.func82 rfl (by simp [Tryz.ntmps82]) ?_
 simp only [enterFr,Tryz.ntmps82]
 refine wS ?_
 refine run_box (l:=[.mref m]) (by kernel_rfl) (by decide) ?_
 refine zv (.lit .nilFunc) ?_
 refine wS ?_
 refine zv (.clo (.func 124) [] [.ref c 0]) ?_
 refine zv (.clo (.func 124) [] [.ref c 0]) ?_
 refine wS ?_
 exact endx (.inr rfl) (gs:=[.clo (.func 124) [] [.ref c 0]]) (by kernel_rfl) ⟨rfl,rfl,rfl⟩
theorem names_mc (gl:List (Nat × List G)) {i m:Nat} {d:Int} {kp:List (Nm × Nat)} {σ:Sto} (c:Nat) (h:HoldAt σ i m d kp) (hi:i < c) (hm:m < c) (srt:List Nm) (hsp:(kp.map (·.1)).Perm srt) (hss:srt.Pairwise fun a b => ltN a b) (hsb:∀ m ∈ srt,SmallN m) (hk:kp.length < 100000) :
  McK Tryz.prog gl 47 [.ref i 0] σ c (.rsl (c + 1) 0 srt.length) ((c + 1,some (rowN srt)) :: (c,none) :: σ) (c + 2):=by
 suffices hM:Mc Tryz.prog gl 47 [.ref i 0] σ c (fun v σ' c' => v = .rsl (c + 1) 0 srt.length ∧ σ' = (c + 1,some (rowN srt)) :: (c,none) :: σ ∧ c' = c + 2) by
  obtain ⟨v,σ',c',⟨rfl,rfl,rfl⟩,hM⟩:=hM
  exact hM
 obtain ⟨l0,l1⟩:=hold_ld h.i
 refine mc_enter (by kernel_rfl) Tryz.func47 rfl (by simp [Tryz.ntmps47]) ?_
 simp only [enterFr,Tryz.ntmps47]
 refine wS ?_
 refine zv (.lit (.slice none 0 0)) ?_
 refine wS ?_
 refine zv (.ref i 0) ?_
 refine zv (.ref i 0) ?_
 refine zv (.ref i 1) ?_
 refine zt (.mref m) l1 ?_
 refine run_m (keys_mc gl m σ c) [] [] (by kernel_rfl) (by kernel_rfl) (by decide) ?_
 refine run_e rfl (gs_callN (fst:=[]) (cap:=[]) (σ':=(c + 1,some (rowN srt)) :: (c,none) :: σ) (c':=c + 2) (r':=.rsl (c + 1) 0 srt.length) [(0,m),(1,c)] [(c + 1,2),(m,0)] [] rfl (fun d e => by cases e; show 8 < 9; decide) rfl (by kernel_rfl) (sorted_fnM gl kp srt hsp hss hsb hk) rfl ?_ ?_ (by simp) ?_ ?_ ?_ ?_ ?_ ?_ ?_) ?_
 ·intro k g g' h1 h2
  match k,h1,h2 with
  | 0,h1,h2 => cases h1; cases h2; exact vw_clo rfl rfl (fun _ _ _ h => by cases h) (fun k g g' h1 h2 => by
    match k,h1,h2 with
    | 0,h1,h2 => cases h1; cases h2; exact vw_ref rfl
    | n + 1,h1,h2 => simp at h2)
  | 1,h1,h2 => cases h1; cases h2; exact vw_imm (imm_clo (fun _ h => by cases h) (fun _ h => by cases h))
  | n + 2,h1,h2 => simp at h2
 ·intro k k' j h1 h2
  simp only [rho_c,rho_n] at h1 h2
  split at h1 <;> split at h2 <;> simp_all <;> omega
 ·intro k ob' hk'
  simp only [sget_cons] at hk'
  split at hk'
  ·rename_i e
   cases hk'
   subst e
   exact ⟨c,_,rfl,by simp,sget_eq rfl,rfl,Nat.le_refl _,(fun h => by cases h),.inl ⟨rfl,rfl⟩,fun k g g' h1 h2 => by
    match k,h1,h2 with
    | 0,h1,h2 => cases h1; cases h2; exact vw_mref' rfl
    | n + 1,h1,h2 => simp at h2⟩
  ·split at hk'
   ·rename_i e
    cases hk'
    subst e
    exact ⟨m,_,rfl,by simp,by rw [sget_ne (by omega)]; exact h.m,rfl,Nat.le_refl _,fun h => h,.inr ⟨_,_,rfl,rfl,entsN_lit kp⟩,fun k g g' h1 h2 => by simp at h1⟩
   ·cases hk'
 ·show c + 1 ≤ c + 2
  omega
 ·intro k j h1 h2
  have h2:k < c + 1:=h2
  simp only [rho_c,rho_n] at h1
  split at h1
  ·omega
  ·split at h1
   ·rename_i e
    cases h1
    exact ⟨by decide,by rw [e]; rfl⟩
   ·cases h1
 ·intro k k' j h1 h2
  simp only [rho_c,rho_n] at h1 h2
  split at h1 <;> split at h2 <;> simp_all <;> omega
 ·simp
  omega
 ·intro k ob' hk'
  rw [sget_cons] at hk'
  split at hk'
  ·rename_i e
   cases hk'
   subst e
   exact .inl ⟨2,_,by rw [rho_c,if_pos rfl],rfl,rfl,Nat.le_refl _,fun h => h,.inl ⟨rfl,rfl⟩,fun x g g' h1 h2 => by rw [h1] at h2; cases h2; exact rn_imm (cellsN_imm _ _ (List.mem_of_getElem? h1))⟩
  ·rw [sget_cons] at hk'
   split at hk'
   ·cases hk'
   ·rename_i e1 e2
    by_cases e3:k = m
    ·subst e3
     rw [h.m] at hk'
     cases hk'
     exact .inl ⟨0,_,by rw [rho_c,if_neg (by omega),rho_c,if_pos rfl],rfl,rfl,Nat.le_refl _,fun h => h,.inr ⟨_,_,rfl,rfl,entsN_lit kp⟩,fun x g g' h1 h2 => by simp at h1⟩
    ·refine .inr ⟨by rw [rho_c,if_neg (by omega),rho_c,if_neg e3]; rfl,?_,?_,by simp⟩
     ·show sget ((c,_) :: σ) k = _
      rw [sget_ne (by omega)]
      exact hk'
     ·simp
      omega
 ·exact rn_rsl (by rw [rho_c,if_pos rfl])
 ·
  simp only [St.put]
  refine zv (.rsl (c + 1) 0 srt.length) ?_
  refine wS ?_
  exact endx (.inr rfl) (gs:=[.rsl (c + 1) 0 srt.length]) (by kernel_rfl) ⟨rfl,rfl,rfl⟩
end
section
open Go.RowKit
theorem gb_eql_ag {P:Program} {t:TypeId} {p q:Operand} {l m:List G} {us vs:List Value} {r:Bool} (hl:glits l = some us) (hm:glits m = some vs) (hg:spure P (eqGuard .eql t p q (.agg us.toArray) (.agg vs.toArray)) = some ()) (he:spure P (Op.equalIn 10000 t (.agg us.toArray) (.agg vs.toArray)) = some r):gbin P .eql t p q (.agg l) (.agg m) = some (.lit (.bool r)):=by
 unfold gbin
 simp only [gval,hl,hm,Option.map_some]
 rw [sp_bind hg]
 have e:spure P (binOp .eql t (.agg us.toArray) (.agg vs.toArray)) = some (.bool r):=by
  show spure P (Op.equalIn 10000 t (.agg us.toArray) (.agg vs.toArray) >>= fun b => pure (Value.bool b)) = _
  rw [sp_bind he]
  rfl
 rw [e]
 rfl
theorem eqlNm {p q:Operand} (m x:Nm):gbin Tryz.prog .eql 92 p q (gNm m) (gNm x) = some (vB (decide (m = x))) :=
 gb_eql_ag (us:=eN m) (vs:=eN x) (by kernel_rfl) (by kernel_rfl) (by kernel_rfl) (eq_nm 9996 m x)
theorem eqlId {p q:Operand} (m x:Idn):gbin Tryz.prog .eql 61 p q (vIdn m) (vIdn x) = some (vB (decide (m = x))) :=
 gb_eql_ag (us:=eId m) (vs:=eId x) (by kernel_rfl) (by kernel_rfl) (by kernel_rfl) (eq_id 9997 m x)
theorem neqId {p q:Operand} (m x:Idn):gbin Tryz.prog .neq 61 p q (vIdn m) (vIdn x) = some (vB (!decide (m = x))) :=
 gb_neq_agg (us:=eId m) (vs:=eId x) (by kernel_rfl) (by kernel_rfl) (by kernel_rfl) (eq_id 9997 m x)
def termC (d:Int) (x:Nm):List G:=if x = .zero then [vI 1,vI 0,vI 0,vU 0,vI d,vI 0] else [vI 3,vI x.i.a,vI x.i.b,vU x.i.c,vI x.n,vI 0]
theorem len_termC (d:Int) (x:Nm):(termC d x).length = 6:=by unfold termC; split <;> rfl
theorem term_st {σ:Sto} {k:Nat} {l:List G} {x0 x1 x2:Int} {x3:Nat} {x4 x5:Int} (h:sget σ k = some ⟨105,l,none⟩) (hl:l.length = 6):gsto Tryz.prog σ 105 (.ref k 0) (.agg [vI x0,vI x1,vI x2,vU x3,vI x4,vI x5]) = some (k,⟨105,[vI x0,vI x1,vI x2,vU x3,vI x4,vI x5],none⟩):=by
 obtain ⟨a0,a1,a2,a3,a4,a5,rfl⟩:∃ a0 a1 a2 a3 a4 a5,l = [a0,a1,a2,a3,a4,a5]:=by
  match l,hl with
  | [a0,a1,a2,a3,a4,a5],_ => exact ⟨_,_,_,_,_,_,rfl⟩
 simp only [gsto,h]
 kernel_rfl
theorem term_ld {σ:Sto} {k:Nat} {x0 x1 x2:Int} {x3:Nat} {x4 x5:Int} (h:sget σ k = some ⟨105,[vI x0,vI x1,vI x2,vU x3,vI x4,vI x5],none⟩):gload Tryz.prog σ 105 (.ref k 0) = some (.agg [vI x0,vI x1,vI x2,vU x3,vI x4,vI x5]):=by
 simp only [gload,h]
 kernel_rfl
attribute [local irreducible] Tr Run RunD GS TG Le Wk Frz Fn' ImmG Flat WkFr WkSt EndM Ex EndX McK FnM gNm
theorem gNm_box (m:Nm):gbox Tryz.prog 92 (gNm m) = some (cN m):=nm_box m
theorem term_mc (gl:List (Nat × List G)) {i m:Nat} {d:Int} {σ:Sto} (c:Nat) (h:sget σ i = some (holdO d m)) (hi:i < c) (x:Nm) :
  McK Tryz.prog gl 48 [.ref i 0,gNm x] σ c (.agg (termC d x)) ((c + 1,none) :: (c,none) :: σ) (c + 2):=by
 suffices hM:Mc Tryz.prog gl 48 [.ref i 0,gNm x] σ c (fun v σ' c' => v = .agg (termC d x) ∧ c' = c + 2 ∧ ∀ k,k ≠ c → k ≠ c + 1 → sget σ' k = sget σ k) by
  obtain ⟨v,σ',c',⟨rfl,rfl,h1⟩,hM⟩:=hM
  refine hM.sub fun k o hk => ?_
  rw [sget_cons] at hk
  split at hk
  ·cases hk
  ·rw [sget_cons] at hk
   split at hk
   ·cases hk
   ·rw [h1 k (by omega) (by omega)]; exact hk
 obtain ⟨l0,l1⟩:=hold_ld (i:=i) (m:=m) (d:=d) (σ:=(c + 1,some ⟨105,[vI 0,vI 0,vI 0,vU 0,vI 0,vI 0],none⟩) :: (c,some ⟨92,cN x,none⟩) :: σ) (by rw [sget_ne (by omega),sget_ne (by omega)]; exact h)
 obtain ⟨n0,n1,n2,n3,n4,n5⟩:=nm_ld (σ:=(c + 1,some ⟨105,[vI 0,vI 0,vI 0,vU 0,vI 0,vI 0],none⟩) :: (c,some ⟨92,cN x,none⟩) :: σ) (k:=c) (m:=x) (by rw [sget_ne (by omega),sget_eq rfl])
 have hz:sget ((c + 1,some (⟨105,[vI 0,vI 0,vI 0,vU 0,vI 0,vI 0],none⟩:Ob)) :: (c,some ⟨92,cN x,none⟩) :: σ) (c + 1) = some ⟨105,[vI 0,vI 0,vI 0,vU 0,vI 0,vI 0],none⟩:=sget_eq rfl
 have fin:∀ (o1 o2 o3:Option Ob) (k:Nat),k ≠ c → k ≠ c + 1 → sget ((c + 1,o1) :: (c + 1,o2) :: (c,o3) :: σ) k = sget σ k:=fun o1 o2 o3 k h1 h2 => by
  rw [sget_ne (by omega),sget_ne (by omega),sget_ne (by omega)]
 refine mc_enter (by kernel_rfl) Tryz.func48 rfl (by simp [Tryz.ntmps48]) ?_
 simp only [enterFr,Tryz.ntmps48]
 refine wS ?_
 refine run_box (gNm_box x) (by decide) ?_
 refine run_alloc (l:=[vI 0,vI 0,vI 0,vU 0,vI 0,vI 0]) (by kernel_rfl) (by decide) ?_
 refine wS ?_
 refine zt (gNm x) n0 ?_
 refine run_build (g:=gNm .zero) (by kernel_rfl) (by decide) ?_
 refine run_bin rfl rfl (eqlNm x .zero) (by decide) ?_
 refine wS ?_
 refine ex_condP (p:=x = .zero) rfl (fun hx => ?_) (fun hx => ?_)
 ·refine wS ?_
  refine zv (.ref i 0) ?_
  refine zv (.ref i 0) ?_
  refine zv (.ref i 0) ?_
  refine zt (vI d) l0 ?_
  refine run_build (g:=.agg [vI 1,vI 0,vI 0,vU 0,vI d,vI 0]) (by kernel_rfl) (by decide) ?_
  refine run_sto (term_st hz rfl) ?_
  refine wS ?_
  refine endx (.inr rfl) (gs:=[.agg [vI 1,vI 0,vI 0,vU 0,vI d,vI 0]]) (res_cell (a:=4) (t:=105) rfl (term_ld (sget_eq rfl))) ⟨?_,rfl,fin _ _ _⟩
  unfold termC
  rw [if_pos hx]
  rfl
 ·
  refine wS ?_
  refine zv (.ref c 0) ?_
  refine run_ld rfl n1 (by decide) ?_
  refine zv (.ref c 3) ?_
  refine zt (vI x.n) n2 ?_
  refine run_build (g:=.agg [vI 3,vI x.i.a,vI x.i.b,vU x.i.c,vI x.n,vI 0]) (by kernel_rfl) (by decide) ?_
  refine run_sto (term_st hz rfl) ?_
  refine wS ?_
  refine endx (.inr rfl) (gs:=[.agg [vI 3,vI x.i.a,vI x.i.b,vU x.i.c,vI x.n,vI 0]]) (res_cell (a:=4) (t:=105) rfl (term_ld (sget_eq rfl))) ⟨?_,rfl,fin _ _ _⟩
  unfold termC
  rw [if_neg hx]
  rfl

theorem termRow_app (d:Int) {σ:Sto} {g:G} {l:List Nm} {r:Option Nat} (h:RowA (termC d) 6 105 σ g l r) {q:Nat} {x:Nm} (hq:sget σ q = some ⟨105,termC d x,none⟩) (hb:l.length ≤ 100000) (c:Nat) :
  ∃ q',gapp Tryz.prog σ c 49 g (.rsl q 0 1) = some (105,q',(l ++ [x]).length,(l ++ [x]).flatMap (termC d)) ∧ (q' = c ∨ r = some q') :=
 rowA_app (len_termC d) (b:=48) (zs:=[.int .i64 0,.int .i64 0,.int .i64 0,.int .u64 0,.int .i64 0,.int .i64 0]) (by kernel_rfl) (by kernel_rfl) (by omega) (by kernel_rfl) rfl (by kernel_rfl) h (one_view (len_termC d) hq) (by simp; omega) (by simp; omega) c
theorem termRow_bs (d:Int) (x:Nm):gbs Tryz.prog 49 1 [(0,.agg (termC d x))] = some (105,termC d x):=by
 unfold termC
 split <;> kernel_rfl
set_option maxHeartbeats 4000000 in
theorem terms_mc (gl:List (Nat × List G)) {i m:Nat} {d:Int} {kp:List (Nm × Nat)} {σ:Sto} (c:Nat) (h:HoldAt σ i m d kp) (hi:i < c) (hm:m < c) (srt:List Nm) (hsp:(kp.map (·.1)).Perm srt) (hss:srt.Pairwise fun a b => ltN a b) (hsb:∀ m ∈ srt,SmallN m) (hk:kp.length < 100000) :
  Mc Tryz.prog gl 12 [.ref i 0] σ c (fun v σ' c' => ∃ r,RowA (termC d) 6 105 σ' v srt r ∧ (∀ j,r = some j → c ≤ j ∧ j < c') ∧ c ≤ c' ∧ ∀ k,k < c → sget σ' k = sget σ k):=by
 have hsl:srt.length < 100000:=by rw [← hsp.length_eq]; simpa using hk
 have hN:=names_mc gl c h hi hm srt hsp hss hsb hk
 refine mc_enter (by kernel_rfl) Tryz.func12 rfl (by simp [Tryz.ntmps12]) ?_
 simp only [enterFr,Tryz.ntmps12]
 refine wS ?_
 refine zv (.lit (.slice none 0 0)) ?_
 refine wS ?_
 refine zv (.lit (.slice none 0 0)) ?_
 refine wS ?_
 refine zv (.ref i 0) ?_
 refine run_m hN [] [] (by kernel_rfl) (by kernel_rfl) (by decide) ?_
 refine zv (vI srt.length) ?_
 refine zv (vI ((0:Nat):Int)) ?_
 refine wS ?_
 refine ex_loop (fun t s => ∃ (q:Nat) (σ1:Sto) (c1:Nat) (g:G) (r:Option Nat),s = ⟨21,gl,[(0,.ref i 0),(3,g),(7,.rsl (c + 1) 0 srt.length),(8,vI srt.length),(9,vI (q:Int))],σ1,c1,c,false⟩ ∧ t = srt.length - q ∧ q ≤ srt.length ∧ RowA (termC d) 6 105 σ1 g (srt.take q) r ∧ (∀ j,r = some j → c + 2 ≤ j ∧ j < c1) ∧ c + 2 ≤ c1 ∧ (∀ k,k < c → sget σ1 k = sget σ k) ∧ sget σ1 (c + 1) = some (rowN srt)) srt.length (le_frs (fr':=[(0,.ref i 0),(3,.lit (.slice none 0 0)),(7,.rsl (c + 1) 0 srt.length),(8,vI srt.length),(9,vI ((0:Nat):Int))]) (by repeat' (first|exact ⟨⟩|refine ⟨rfl,?_⟩))) ⟨0,_,c + 2,_,none,rfl,rfl,by omega,rowA_nil,(fun j hj => by cases hj),by omega,(fun k hk => by rw [sget_ne (by omega),sget_ne (by omega)]),sget_eq rfl⟩ ?_
 rintro t s ⟨q,σ1,c1,g,r,rfl,rfl,hq,h1,h2,h3,h4,h5⟩
 refine wS ?_
 refine run_bin rfl rfl (ltI (a:=(q:Int)) (b:=srt.length)) (by decide) ?_
 refine wS ?_
 refine ex_condP (p:=(q:Int) < srt.length) rfl (fun hlt => ?_) (fun hlt => ?_)
 ·obtain ⟨x,hx⟩:∃ x,srt[q]? = some x:=⟨_,List.getElem?_eq_getElem (by omega)⟩
  obtain ⟨q0,hq0,hix,_⟩:=rowA_ix (P:=Tryz.prog) (t:=106) (e:=92) len_cN (by kernel_rfl) (by kernel_rfl) (rowA_new (σ:=σ1) len_cN h5 rfl) hx
  cases hq0
  have hld:gload Tryz.prog σ1 92 (.ref (c + 1) (q * 4)) = some (gNm x):=by
   rw [gNm_c]
   exact rowA_ld (P:=Tryz.prog) (e:=92) len_cN (by kernel_rfl) (by kernel_rfl) h5 hx
  have hH:sget ((c1,some (⟨92,cN x,none⟩:Ob)) :: (c1,some ⟨92,cN .zero,none⟩) :: σ1) i = some (holdO d m):=by
   rw [sget_ne (by omega),sget_ne (by omega),h4 i hi]; exact h.i
  have hT:=term_mc gl (c1 + 1) hH (by omega) x
  refine wS ?_
  refine zt (.ref (c + 1) (q * 4)) hix ?_
  refine run_ld rfl hld (by decide) ?_
  refine run_alloc (l:=cN .zero) (by kernel_rfl) (by decide) ?_
  refine run_sto (nm_st (q:=.zero) (sget_eq rfl)) ?_
  obtain ⟨n0,_⟩:=nm_ld (σ:=(c1,some (⟨92,cN x,none⟩:Ob)) :: (c1,some ⟨92,cN .zero,none⟩) :: σ1) (k:=c1) (m:=x) (sget_eq rfl)
  refine wS ?_
  refine zv (g) ?_
  refine zv (.ref i 0) ?_
  refine run_ld rfl n0 (by decide) ?_
  refine run_m hT [] [] (by kernel_rfl) (by kernel_rfl) (by decide) ?_
  refine run_bs (termRow_bs d x) (by decide) ?_
  obtain ⟨q',hq',hq2⟩:=termRow_app d (σ:=(c1 + 1 + 2,some ⟨105,termC d x,none⟩) :: (c1 + 1 + 1,none) :: (c1 + 1,none) :: (c1,some ⟨92,cN x,none⟩) :: (c1,some ⟨92,cN .zero,none⟩) :: σ1) (rowA_more h1 (fun j hj => by
   have:=h2 j hj
   rw [sget_ne (by omega),sget_ne (by omega),sget_ne (by omega),sget_ne (by omega),sget_ne (by omega)])) (q:=c1 + 1 + 2) (x:=x) (sget_eq rfl) (by simp; omega) (c1 + 1 + 2 + 1)
  refine run_app hq' (by decide) ?_
  refine zv (.rsl (c1 + 1 + 2 + 1) 0 (srt.take q ++ [x]).length) ?_
  refine wS ?_
  refine run_v (g:=vI ((q + 1:Nat):Int)) (Eq.trans (by kernel_rfl) (congrArg some (show G.lit (.int .i64 (IntKind.i64.wrap ((q:Int) + 1))) = _ by rw [w64 (by omega)]; rfl))) (by decide) ?_
  refine zv (vI ((q + 1:Nat):Int)) ?_
  refine wS ?_
  have htk:srt.take (q + 1) = srt.take q ++ [x]:=by rw [List.take_add_one,hx]; rfl
  have hqr:q' ≥ c + 2:=by
   rcases hq2 with rfl | hq2
   ·omega
   ·exact (h2 q' hq2).1
  refine ⟨srt.length - (q + 1),_,by omega,le_frs (fr':=[(0,.ref i 0),(3,.rsl (c1 + 1 + 2 + 1) 0 (srt.take q ++ [x]).length),(7,.rsl (c + 1) 0 srt.length),(8,vI srt.length),(9,vI ((q + 1:Nat):Int))]) (by repeat' (first|exact ⟨⟩|refine ⟨rfl,?_⟩)),q + 1,_,_,_,some (c1 + 1 + 2 + 1),rfl,rfl,by omega,rowA_new (len_termC d) (by rw [htk]; exact sget_eq rfl) (by rw [htk]),fun j hj => by cases hj; omega,by omega,fun k hk => ?_,?_⟩
  ·rw [sget_ne (by omega),sget_ne (by omega),sget_ne (by omega),sget_ne (by omega),sget_ne (by omega),sget_ne (by omega),sget_ne (by omega)]
   exact h4 k hk
  ·rw [sget_ne (by omega),sget_ne (by omega),sget_ne (by omega),sget_ne (by omega),sget_ne (by omega),sget_ne (by omega),sget_ne (by omega)]
   exact h5
 ·
  refine wS ?_
  refine zv (g) ?_
  refine zv (g) ?_
  refine wS ?_
  rw [List.take_of_length_le (by omega)] at h1
  exact endx (.inr rfl) (gs:=[g]) (by kernel_rfl) ⟨r,h1,fun j hj => by have:=h2 j hj; omega,by omega,h4⟩
end
section
open Go.RowKit
attribute [local irreducible] Tr Run RunD GS TG Le Wk Frz Fn' ImmG Flat WkFr WkSt EndM Ex EndX McK FnM gNm
theorem outBool_mc (gl:List (Nat × List G)) (i:Nat) (r:Option Nat) (l:List UInt8) (b:Bool) (σ:Sto) (c:Nat) (ho:OutAt σ i r l) (hi:i < c) (hr:∀ k,r = some k → k < c) (hl:l.length ≤ 1000000000000) :
  Mc Tryz.prog gl 51 [.ref i 0,vB b] σ c (fun v σ' c' => Wrote σ σ' c c' i r l (nb (if b then 2 else 0)) v):=by
 obtain ⟨v,σ',c',hF,hM⟩:=int_mc gl i r l (if b then 1 else 0) σ c (by unfold Is64; split <;> omega) ho hi hr hl
 rw [show zig (if b then 1 else 0) = (if b then 2 else 0) by cases b <;> rfl] at hF
 refine mc_enter (by kernel_rfl) Tryz.func51 rfl (by simp [Tryz.ntmps51]) ?_
 simp only [enterFr,Tryz.ntmps51]
 refine wS ?_
 refine zv (vI 0) ?_
 refine wS ?_
 refine zv (vB b) ?_
 refine wS ?_
 refine ex_thn (K:=fun s => ∃ fr',s = ⟨9,gl,fr',σ,c,c,false⟩ ∧ FrOk fr' [(0,.ref i 0),(4,vI (if b then 1 else 0))]) ?_ ?_
 ·refine ex_condB (t:=b) rfl (fun hb => ?_) (fun hb => ?_)
  ·subst hb
   refine wS ?_
   refine zv (vI 1) ?_
   exact run_nil ⟨rfl,_,rfl,rfl,rfl,trivial⟩
  ·subst hb
   refine wS ?_
   exact ⟨rfl,_,rfl,rfl,rfl,trivial⟩
 rintro s ⟨fr',rfl,hfr⟩
 refine Ex.le ?_ (le_frs hfr)
 refine wS ?_
 refine zv (.ref i 0) ?_
 refine zv (vI (if b then 1 else 0)) ?_
 refine run_m hM [] [] (by kernel_rfl) (by kernel_rfl) (by decide) ?_
 refine wS ?_
 exact endx (.inl rfl) (gs:=[]) rfl ⟨rfl,hF.2⟩
theorem outBytes_mc (gl:List (Nat × List G)) (i j:Nat) (l:List UInt8) (σ:Sto) (c:Nat) (ho:OutAt σ i (some j) l) (hl:l.length ≤ 1000000000000) :
  McK Tryz.prog gl 54 [.ref i 0] σ c (.rsl c 0 l.length) ((c,some ⟨5,l.map gY,none⟩) :: σ) (c + 1):=by
 suffices hM:Mc Tryz.prog gl 54 [.ref i 0] σ c (fun v σ' c' => v = .rsl c 0 l.length ∧ c' = c + 1 ∧ ∀ k,sget σ' k = sget ((c,some ⟨5,l.map gY,none⟩) :: σ) k) by
  obtain ⟨v,σ',c',⟨rfl,rfl,h3⟩,hM⟩:=hM
  exact hM.ext h3
 obtain ⟨g,hg0,hg1,_⟩:=out_ld ho
 obtain ⟨hne,ho1,ho2⟩:=ho
 rw [ho1] at hg0
 cases hg0
 obtain ⟨q,hq,hq2⟩:=row_app (P:=Tryz.prog) (t:=22) (e:=5) (s:=1) (b:=1) (zs:=[.int .u8 0]) (g:=.lit (.slice none 0 0)) (n:=0) (l:=[]) (r:=none) (by kernel_rfl) (by kernel_rfl) (by omega) (by kernel_rfl) rfl (by kernel_rfl) ⟨rfl,rfl,rfl⟩ (σ:=σ) (gy:=.rsl j 0 l.length) (news:=l.map gY) (m:=l.length) (by simp [gview,ho2]; rw [List.take_of_length_le (by simp)]) (by omega) c
 simp only [reduceCtorEq,or_false] at hq2
 subst hq2
 rw [Nat.zero_add,List.nil_append] at hq
 refine mc_enter (by kernel_rfl) Tryz.func54 rfl (by simp [Tryz.ntmps54]) ?_
 simp only [enterFr,Tryz.ntmps54]
 refine wS ?_
 refine zv (.lit (.slice none 0 0)) ?_
 refine wS ?_
 refine zv (.ref i 0) ?_
 refine zv (.ref i 0) ?_
 refine zv (.ref i 0) ?_
 refine run_ld rfl hg1 (by decide) ?_
 refine run_app hq (by decide) ?_
 refine zv (.rsl q 0 l.length) ?_
 refine wS ?_
 refine endx (.inr rfl) (gs:=[.rsl q 0 l.length]) (by kernel_rfl) ⟨rfl,rfl,fun k => ?_⟩
 simp only [sget_cons]
 split <;> rfl
def nmB (kp:List (Nm × Nat)) (x:Nm):List UInt8:=idB x.i.a x.i.b x.i.c ++ (nb (zig x.n) ++ nb ((lookM kp x).getD 0))
def othersN (kp:List (Nm × Nat)) (srt:List Nm):List Nm:=if (lookM kp .zero).isSome then srt.drop 1 else srt
def headB (d:Int) (kp:List (Nm × Nat)) (srt:List Nm):List UInt8:=nb (zig d) ++ (nb (if (lookM kp .zero).isSome then 2 else 0) ++ ((if (lookM kp .zero).isSome then nb ((lookM kp .zero).getD 0) else []) ++ nb (zig (othersN kp srt).length)))
def putB (d:Int) (kp:List (Nm × Nat)) (srt:List Nm):List UInt8:=headB d kp srt ++ (othersN kp srt).flatMap (nmB kp)
structure WfN (x:Nm):Prop where
 a:Is64 x.i.a
 b:Is64 x.i.b
 c:x.i.c < 18446744073709551616
 n:Is64 x.n
theorem nmB_len {kp:List (Nm × Nat)} {x:Nm} (h:WfN x) (hp:(lookM kp x).getD 0 < 18446744073709551616):(nmB kp x).length ≤ 50:=by
 have h1:=nb_len64 (zig_lt h.a)
 have h2:=nb_len64 (zig_lt h.b)
 have h3:=nb_len64 h.c
 have h4:=nb_len64 (zig_lt h.n)
 have h5:=nb_len64 hp
 unfold nmB idB
 simp only [List.length_append]
 omega
theorem flat_len {α:Type} {f:α → List UInt8} {m:Nat}:∀ (l:List α),(∀ x ∈ l,(f x).length ≤ m) → (l.flatMap f).length ≤ l.length * m
 | [],_ => by simp
 | x :: r,h => by
  have h1:=h x List.mem_cons_self
  have h2:=flat_len r fun y hy => h y (List.mem_cons_of_mem _ hy)
  rw [List.flatMap_cons,List.length_append,List.length_cons,Nat.add_mul]
  omega
end
end Go.Proofs.YtpehhhbmobmedaaGreatDoor
