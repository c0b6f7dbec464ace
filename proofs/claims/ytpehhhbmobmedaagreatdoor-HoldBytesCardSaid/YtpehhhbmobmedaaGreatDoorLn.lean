/- Names of a hold's keys; a map of them. -/
import Derived.Test.YtpehhhbmobmedaaGreatDoorHQ
import Derived.Test.YtpehhhbmobmedaaGreatDoorMY
import Derived.Test.YtpehhhbmobmedaaGreatDoorHc
import Derived.Test.YtpehhhbmobmedaaGreatDoorPj
namespace Go.Proofs.YtpehhhbmobmedaaGreatDoor
set_option linter.unusedVariables false
set_option linter.unusedSimpArgs false
set_option linter.unusedSectionVars false
section
open Go.RowKit
structure Nm where
 i:Idn
 n:Int
deriving DecidableEq
def Nm.zero:Nm:=⟨.zero,0⟩
instance:Inhabited Nm:=⟨.zero⟩
def cN (m:Nm):List G:=[vI m.i.a,vI m.i.b,vU m.i.c,vI m.n]
def gNm (m:Nm):G:=.agg (cN m)
def eN (m:Nm):List Value:=[.int .i64 m.i.a,.int .i64 m.i.b,.int .u64 (m.i.c:Int),.int .i64 m.n]
def vN (m:Nm):Value:=.agg (eN m).toArray
theorem len_cN (m:Nm):(cN m).length = 4:=rfl
theorem cN_imm (m:Nm):∀ g ∈ cN m,ImmG g:=fun g hg => by
 simp only [cN,List.mem_cons,List.not_mem_nil,or_false] at hg
 rcases hg with rfl | rfl | rfl | rfl <;> exact imm_lit _
theorem gNm_imm (m:Nm):ImmG (gNm m):=imm_agg (cN_imm m)
def eId (i:Idn):List Value:=[.int .i64 i.a,.int .i64 i.b,.int .u64 (i.c:Int)]
theorem eq_id (d:Nat) (i j:Idn):spure Tryz.prog (Op.equalIn (d + 3) 61 (.agg (eId i).toArray) (.agg (eId j).toArray)) = some (decide (i = j)):=by
 obtain ⟨a,b,c⟩:=i
 obtain ⟨x,y,z⟩:=j
 rw [sp_struct (fs:=#[⟨ "By",3,0,false, "", "",0⟩,⟨ "Seq",3,1,false, "", "",8⟩,⟨ "Sum",23,2,false, "", "",16⟩]) (by kernel_rfl) (by kernel_rfl)]
 simp only [Array.toList]
 rw [sp_int (k:=.i64) (k':=.i64) (a:=a) (b:=x) (by decide) (by kernel_rfl) (by kernel_rfl) (by kernel_rfl)]
 rw [sp_int (k:=.i64) (k':=.i64) (a:=b) (b:=y) (by decide) (by kernel_rfl) (by kernel_rfl) (by kernel_rfl)]
 rw [sp_int (k:=.u64) (k':=.u64) (a:=(c:Int)) (b:=(z:Int)) (by decide) (by kernel_rfl) (by kernel_rfl) (by kernel_rfl)]
 simp only [Idn.mk.injEq]
 by_cases h1:a = x
 ·by_cases h2:b = y
  ·by_cases h3:c = z
   ·simp [h1,h2,h3,Op.eqFields,spure_pure]
   ·have:¬ ((c:Int) = (z:Int)):=by omega
    simp [h1,h2,h3,this]
  ·simp [h1,h2]
 ·simp [h1]
theorem eq_nm (d:Nat) (m q:Nm):spure Tryz.prog (Op.equalIn (d + 4) 92 (vN m) (vN q)) = some (decide (m = q)):=by
 obtain ⟨i,n⟩:=m
 obtain ⟨j,k⟩:=q
 unfold vN
 rw [sp_struct (fs:=#[⟨ "commit",61,0,false, "", "huddle/hold",0⟩,⟨ "n",3,3,false, "", "huddle/hold",24⟩]) (by kernel_rfl) (by kernel_rfl)]
 simp only [Array.toList]
 rw [sp_sub (d:=d + 3) (f:=⟨ "commit",61,0,false, "", "huddle/hold",0⟩) (fs:=[⟨ "n",3,3,false, "", "huddle/hold",24⟩]) (us:=(eId i).toArray) (vs:=(eId j).toArray) (by decide) (by kernel_rfl) (by kernel_rfl) (eq_id d i j)]
 rw [sp_int (k:=.i64) (k':=.i64) (a:=n) (b:=k) (by decide) (by kernel_rfl) (by kernel_rfl) (by kernel_rfl)]
 simp only [Nm.mk.injEq]
 by_cases h1:i = j
 ·by_cases h2:n = k
  ·simp [h1,h2,Op.eqFields,spure_pure]
  ·simp [h1,h2]
 ·simp [h1]

/-! ### the map -/
abbrev EntsN:=List (Value × G × Nat)
def entsN (kp:List (Nm × Nat)):EntsN:=kp.zipIdx.map fun q => (vN q.1.1,vU q.1.2,q.2)
theorem entsN_len (kp:List (Nm × Nat)):(entsN kp).length = kp.length:=by simp [entsN]
theorem entsN_get {kp:List (Nm × Nat)} {i:Nat}:(entsN kp)[i]? = kp[i]?.map fun m => (vN m.1,vU m.2,i):=by
 unfold entsN
 rw [List.getElem?_map,List.getElem?_zipIdx]
 cases kp[i]? <;> simp
theorem entsN_keys (kp:List (Nm × Nat)):(entsN kp).map (·.1) = (kp.map (·.1)).map vN:=by
 apply List.ext_getElem?
 intro i
 rw [List.getElem?_map,entsN_get,List.getElem?_map,List.getElem?_map]
 cases kp[i]? <;> rfl
theorem entsN_snoc (kp:List (Nm × Nat)) (m:Nm) (p:Nat):entsN (kp ++ [(m,p)]) = entsN kp ++ [(vN m,vU p,kp.length)]:=by
 unfold entsN
 rw [List.zipIdx_append]
 simp
theorem entsN_mem {kp:List (Nm × Nat)} {k:Value} {g:G} {n:Nat} (h:(k,g,n) ∈ entsN kp):n < kp.length ∧ ∃ m p,kp[n]? = some (m,p) ∧ k = vN m ∧ g = vU p:=by
 obtain ⟨i,hi⟩:=List.getElem?_of_mem h
 rw [entsN_get] at hi
 cases hm:kp[i]? with
 | none => rw [hm] at hi; cases hi
 | some m =>
  rw [hm] at hi
  simp only [Option.map_some,Option.some.injEq,Prod.mk.injEq] at hi
  obtain ⟨rfl,rfl,rfl⟩:=hi
  exact ⟨(List.getElem?_eq_some_iff.1 hm).1,m.1,m.2,hm,rfl,rfl⟩
theorem entsN_born (kp:List (Nm × Nat)):(entsN kp).map (·.2.2) = List.range kp.length:=by
 apply List.ext_getElem?
 intro i
 rw [List.getElem?_map,entsN_get]
 by_cases h:i < kp.length
 ·simp [h]
 ·simp [h]
theorem entsN_lit (kp:List (Nm × Nat)):∀ e ∈ entsN kp,∃ v,e.2.1 = .lit v:=by
 rintro ⟨k,g,n⟩ he
 obtain ⟨_,m,p,_,_,rfl⟩:=entsN_mem he
 exact ⟨_,rfl⟩
def atN (m:Nm):List Nm → Option Nat
 | [] => none
 | x :: r => if m = x then some 0 else (atN m r).map (· + 1)
theorem atN_some {m:Nm}:∀ {l:List Nm} {j:Nat},atN m l = some j → l[j]? = some m
 | [],j,h => by cases h
 | x :: r,j,h => by
  unfold atN at h
  split at h
  ·rename_i e; cases h; rw [e]; rfl
  ·rw [Option.map_eq_some_iff] at h
   obtain ⟨j',h',rfl⟩:=h
   simpa using atN_some h'
theorem atN_none {m:Nm}:∀ {l:List Nm},atN m l = none ↔ m ∉ l
 | [] => by simp [atN]
 | x :: r => by
  unfold atN
  by_cases h:m = x
  ·simp [h]
  ·simp [h,atN_none (l:=r)]
theorem kaskN (m:Nm):∀ (ks:List Nm) (n:Nat),kask Tryz.prog 92 (vN m) (ks.map vN) n = some ((atN m ks).map (n + ·))
 | [],n => rfl
 | x :: r,n => by
  have e:spure Tryz.prog (Op.equal 92 (vN m) (vN x)) = some (decide (m = x)):=eq_nm 9996 m x
  rw [List.map_cons,kask,e,atN]
  by_cases h:m = x
  ·rw [decide_eq_true h,if_pos h]; rfl
  ·rw [decide_eq_false h,if_neg h]
   simp only []
   rw [kaskN m r (n + 1)]
   cases atN m r with
   | none => rfl
   | some j => simp; omega
theorem gkeyN (m:Nm) (ks:List Nm):gkey Tryz.prog 92 (vN m) (ks.map vN) = some (atN m ks):=by
 have h1:=kaskN m ks 0
 obtain ⟨fs,hd⟩:∃ fs,Tryz.prog.underlying 92 = some (.struct fs):=⟨#[⟨ "commit",61,0,false, "", "huddle/hold",0⟩,⟨ "n",3,3,false, "", "huddle/hold",24⟩],by kernel_rfl⟩
 unfold gkey
 rw [hd]
 dsimp only
 cases ks with
 | nil => rfl
 | cons x r =>
  have e:know (.struct fs) (vN m) ((x :: r).map vN) 0 = none:=rfl
  rw [e]
  dsimp only
  rw [h1]
  cases atN m (x :: r) with
  | none => rfl
  | some j => simp
abbrev mapN (kp:List (Nm × Nat)):Ob:=⟨88,[],some (.map (entsN kp) kp.length)⟩
theorem gmapN {σ:Sto} {i:Nat} {kp:List (Nm × Nat)} (h:sget σ i = some (mapN kp)):gmap σ (.mref i) = some (i,88,entsN kp,kp.length):=by
 simp only [gmap,h]
theorem gvalN (m:Nm):gval (gNm m) = some (vN m):=rfl
theorem gchkN (b:Bool) (m:Nm):gchk Tryz.prog b 92 (vN m) = true:=by cases b <;> (show _ = _; kernel_rfl)
def lookM (kp:List (Nm × Nat)) (m:Nm):Option Nat:=(atN m (kp.map (·.1))).bind fun j => kp[j]?.map (·.2)
def putM (kp:List (Nm × Nat)) (m:Nm) (p:Nat):List (Nm × Nat):=match atN m (kp.map (·.1)) with
 | some j => kp.set j (m,p)
 | none => kp ++ [(m,p)]
theorem putM_new {kp:List (Nm × Nat)} {m:Nm} {p:Nat} (h:m ∉ kp.map (·.1)):putM kp m p = kp ++ [(m,p)]:=by
 unfold putM
 rw [atN_none.2 h]
theorem look_at {kp:List (Nm × Nat)} {m:Nm} {j:Nat} (h:atN m (kp.map (·.1)) = some j):∃ p,kp[j]? = some (m,p) ∧ lookM kp m = some p:=by
 have h1:=atN_some h
 rw [List.getElem?_map,Option.map_eq_some_iff] at h1
 obtain ⟨⟨x,p⟩,h2,rfl⟩:=h1
 exact ⟨p,h2,by unfold lookM; rw [h]; simp [h2]⟩
theorem lookN {σ:Sto} {i:Nat} {kp:List (Nm × Nat)} (h:sget σ i = some (mapN kp)) (m:Nm):glookup Tryz.prog σ 88 false (.mref i) (gNm m) = some (vU ((lookM kp m).getD 0)):=by
 have h1:=gkeyN m (kp.map (·.1))
 unfold glookup
 rw [show tmap Tryz.prog 88 = some (92,23) by kernel_rfl,gvalN]
 dsimp only
 rw [gmapN h]
 dsimp only
 rw [gchkN,entsN_keys,h1]
 cases hm:atN m (kp.map (·.1)) with
 | none =>
  have:lookM kp m = none:=by unfold lookM; rw [hm]; rfl
  rw [this]
  show _ = _
  kernel_rfl
 | some j =>
  obtain ⟨p,h2,h3⟩:=look_at hm
  rw [h3]
  dsimp only [cond_true]
  rw [entsN_get,h2]
  rfl
theorem lookN2 {σ:Sto} {i:Nat} {kp:List (Nm × Nat)} (h:sget σ i = some (mapN kp)) (m:Nm):glookup Tryz.prog σ 88 true (.mref i) (gNm m) = some (.tup [vU ((lookM kp m).getD 0),vB (lookM kp m).isSome]):=by
 have h1:=gkeyN m (kp.map (·.1))
 unfold glookup
 rw [show tmap Tryz.prog 88 = some (92,23) by kernel_rfl,gvalN]
 dsimp only
 rw [gmapN h]
 dsimp only
 rw [gchkN,entsN_keys,h1]
 cases hm:atN m (kp.map (·.1)) with
 | none =>
  have:lookM kp m = none:=by unfold lookM; rw [hm]; rfl
  rw [this]
  show _ = _
  kernel_rfl
 | some j =>
  obtain ⟨p,h2,h3⟩:=look_at hm
  rw [h3]
  dsimp only [cond_true]
  rw [entsN_get,h2]
  rfl
theorem putN {σ:Sto} {i:Nat} {kp:List (Nm × Nat)} (h:sget σ i = some (mapN kp)) (m:Nm) (p:Nat):gmapPut Tryz.prog σ 88 (.mref i) (gNm m) (vU p) = some (i,mapN (putM kp m p)):=by
 have h1:=gkeyN m (kp.map (·.1))
 unfold gmapPut
 rw [show tmap Tryz.prog 88 = some (92,23) by kernel_rfl,gvalN,gmapN h]
 dsimp only
 rw [gchkN,entsN_keys,h1]
 unfold putM
 cases hm:atN m (kp.map (·.1)) with
 | none =>
  dsimp only [cond_true]
  rw [← entsN_snoc]
  simp
 | some j =>
  obtain ⟨p0,h2,h3⟩:=look_at hm
  dsimp only [cond_true]
  rw [entsN_get,h2]
  dsimp only [Option.map_some]
  rw [show Instr.sameBits 10000 (vN m) (vN m) = true by unfold vN eN; simp [Instr.sameBits],cond_true]
  have e:(entsN kp).set j (vN m,vU p,j) = entsN (kp.set j (m,p)):=by
   apply List.ext_getElem?
   intro q
   rw [List.getElem?_set,entsN_get,entsN_get,List.getElem?_set,entsN_len]
   split
   ·rename_i hq
    subst hq
    have:=(List.getElem?_eq_some_iff.1 h2).1
    simp [this]
   ·rfl
  rw [e]
  simp
end
section
open Go.RowKit
attribute [local irreducible] Tr Run RunD GS TG Le Wk Frz Fn' ImmG Flat WkFr WkSt EndM Ex EndX McK
def ltId (i j:Idn):Prop:=i.a < j.a ∨ i.a = j.a ∧ (i.b < j.b ∨ i.b = j.b ∧ i.c < j.c)
instance (i j:Idn):Decidable (ltId i j):=by unfold ltId; exact inferInstance
theorem opC_lt (i j:Idn):opC i.a i.b i.c j.a j.b j.c = decide (ltId i j):=by
 unfold opC ltId
 apply decide_eq_decide.2
 simp only [orI,sgn]
 constructor
 ·intro h
  repeat' split at h
  all_goals omega
 ·intro h
  repeat' split
  all_goals omega
theorem opR_lt (i j:Idn):opR i.a i.b i.c j.a j.b j.c = decide (ltId i j):=by
 unfold opR ltId
 split
 ·split
  ·apply decide_eq_decide.2; omega
  ·apply decide_eq_decide.2; omega
 ·apply decide_eq_decide.2; omega
theorem lessO (gl:List (Nat × List G)) (i j:Idn):Fn' Tryz.prog gl 76 [vIdn i,vIdn j] (vB (decide (ltId i j))):=by
 rw [← opC_lt]
 exact fn_glC (lessO_fn ..)
theorem lessR (gl:List (Nat × List G)) (i j:Idn):Fn' Tryz.prog gl 80 [vIdn i,vIdn j] (vB (decide (ltId i j))):=by
 rw [← opR_lt]
 exact fn_glC (lessR_fn ..)
def cmpN (m q:Nm):Int:=if ltId m.i q.i then -1 else if ltId q.i m.i then 1 else IntKind.i64.wrap (m.n - q.n)
theorem nm_box (m:Nm):gbox Tryz.prog 92 (gNm m) = some (cN m):=by kernel_rfl
theorem nm_ld {σ:Sto} {k:Nat} {m:Nm} (h:sget σ k = some ⟨92,cN m,none⟩):gload Tryz.prog σ 92 (.ref k 0) = some (gNm m) ∧ gload Tryz.prog σ 61 (.ref k 0) = some (vIdn m.i) ∧ gload Tryz.prog σ 3 (.ref k 3) = some (vI m.n) ∧ gload Tryz.prog σ 3 (.ref k 0) = some (vI m.i.a) ∧ gload Tryz.prog σ 3 (.ref k 1) = some (vI m.i.b) ∧ gload Tryz.prog σ 23 (.ref k 2) = some (vU m.i.c):=by
 simp only [gload,h]
 exact ⟨by kernel_rfl,by kernel_rfl,by kernel_rfl,by kernel_rfl,by kernel_rfl,by kernel_rfl⟩
theorem nm_st {σ:Sto} {k:Nat} {m q:Nm} (h:sget σ k = some ⟨92,cN q,none⟩):gsto Tryz.prog σ 92 (.ref k 0) (gNm m) = some (k,⟨92,cN m,none⟩):=by
 simp only [gsto,h]
 kernel_rfl
theorem less_fn (gl:List (Nat × List G)) (m q:Nm):Fn' Tryz.prog gl 37 [gNm m,gNm q] (vI (cmpN m q)):=by
 refine fn_enter Tryz.func37 rfl (by simp [Tryz.ntmps37]) (Ex.tr ?_)
 simp only [St.enter,enterFr,Tryz.ntmps37]
 refine wS ?_
 refine run_box (nm_box m) (by decide) ?_
 refine run_box (nm_box q) (by decide) ?_
 refine zv (vI 0) ?_
 obtain ⟨h1,h2,h3,_⟩:=nm_ld (σ:=[(1,some ⟨92,cN q,none⟩),(0,some ⟨92,cN m,none⟩)]) (k:=0) (m:=m) rfl
 obtain ⟨g1,g2,g3,_⟩:=nm_ld (σ:=[(1,some ⟨92,cN q,none⟩),(0,some ⟨92,cN m,none⟩)]) (k:=1) (m:=q) rfl
 refine wS ?_
 refine zv (.ref 0 0) ?_
 refine zt (vIdn m.i) h2 ?_
 refine zv (.ref 1 0) ?_
 refine zt (vIdn q.i) g2 ?_
 refine run_c (lessO gl m.i q.i) (by kernel_rfl) (by decide) rfl (im2 (imm_id ..) (imm_id ..)) ?_
 refine zv (vB (decide (ltId m.i q.i))) ?_
 refine wS ?_
 refine ex_condP (p:=ltId m.i q.i) rfl (fun hp => ?_) (fun hp => ?_)
 ·refine wS ?_
  refine zv (vI (-1)) ?_
  refine wS ?_
  exact ended_r rfl (frz_int (by unfold cmpN; rw [if_pos hp]))
 ·
  refine wS ?_
  refine zv (.ref 1 0) ?_
  refine zt (vIdn q.i) g2 ?_
  refine zv (.ref 0 0) ?_
  refine zt (vIdn m.i) h2 ?_
  refine run_c (lessO gl q.i m.i) (by kernel_rfl) (by decide) rfl (im2 (imm_id ..) (imm_id ..)) ?_
  refine zv (vB (decide (ltId q.i m.i))) ?_
  refine wS ?_
  refine ex_condP (p:=ltId q.i m.i) rfl (fun hq => ?_) (fun hq => ?_)
  ·refine wS ?_
   refine zv (vI 1) ?_
   refine wS ?_
   exact ended_r rfl (frz_int (by unfold cmpN; rw [if_neg hp,if_pos hq]))
  ·
   refine wS ?_
   refine zv (.ref 0 3) ?_
   refine zt (vI m.n) h3 ?_
   refine zv (.ref 1 3) ?_
   refine zt (vI q.n) g3 ?_
   refine run_bin rfl rfl gb_sub (by decide) ?_
   refine zv (.lit (.int .i64 (IntKind.i64.wrap (m.n - q.n)))) ?_
   refine wS ?_
   exact ended_r rfl (frz_int (by unfold cmpN; rw [if_neg hp,if_neg hq]))
end
end Go.Proofs.YtpehhhbmobmedaaGreatDoor
