/- huddleref23's keys: ahead, may, Term; huddleref11.Named: walked. -/
import Derived.Test.YtpehhhbmobmedaaGreatDoorHh
import Derived.Test.YtpehhhbmobmedaaGreatDoorI5
namespace Go.Proofs.YtpehhhbmobmedaaGreatDoor
set_option linter.unusedVariables false
set_option linter.unusedSimpArgs false
set_option linter.unusedSectionVars false
section
open Go.RowKit
attribute [local irreducible] Tr Run RunD RunF GS TG Le Wk Frz Fn' ImmG Flat WkFr WkSt EndM Ex EndX McK FnM gNm
theorem in_fn (gl:List (Nat × List G)) (n a b:Int):Fn' Tryz.prog gl 120 [vI n,vI a,vI b] (vB (decide (a ≤ n ∧ n ≤ b))):=by
 refine fn_enter Tryz.func120 rfl (by simp [Tryz.ntmps120]) (Ex.tr ?_)
 simp only [St.enter,enterFr,Tryz.ntmps120]
 refine wS ?_
 refine zv (vB false) ?_
 refine wS ?_
 refine zv (vI n) ?_
 refine zv (vI a) ?_
 refine run_bin rfl rfl (geI (a:=n) (b:=a)) (by decide) ?_
 by_cases h:a ≤ n
 ·rw [decide_eq_true h]
  refine zv (vB true) ?_
  refine zg (vI n) ?_
  refine zg (vI b) ?_
  refine ged_bin (by kernel_rfl) rfl rfl (leI (a:=n) (b:=b)) (by decide) ?_
  refine zv (vB (decide ((n:Int) ≤ b))) ?_
  refine zv (vB (decide ((n:Int) ≤ b))) ?_
  refine wS ?_
  exact ended_r rfl (frz_bool (decide_eq_decide.2 ⟨fun h' => ⟨h,h'⟩,And.right⟩))
 ·rw [decide_eq_false h]
  refine zv (vB false) ?_
  refine zn ?_
  refine zn ?_
  refine zn ?_
  refine zv (vB false) ?_
  refine zv (vB false) ?_
  refine wS ?_
  exact ended_r rfl (frz_bool (decide_eq_false fun h' => h h'.1).symm)
theorem ok_fn (gl:List (Nat × List G)) (n:Nat):Fn' Tryz.prog gl 121 [vU n] (vB (decide (n < 2305843009213693951))):=by
 refine fn_enter Tryz.func121 rfl (by simp [Tryz.ntmps121]) (Ex.tr ?_)
 simp only [St.enter,enterFr,Tryz.ntmps121]
 refine wS ?_
 refine zv (vB false) ?_
 refine wS ?_
 refine zv (vU n) ?_
 refine run_bin rfl rfl (ltU (a:=n) (b:=2305843009213693951)) (by decide) ?_
 refine zv (vB (decide ((n:Nat) < 2305843009213693951))) ?_
 refine wS ?_
 exact ended_r rfl (frz_bool rfl)
def nmdI (x:Idn):Bool:=decide ((1 ≤ x.a ∧ x.a ≤ 12) ∧ (1 ≤ x.b ∧ x.b ≤ 2147483647) ∧ x.c < 2305843009213693951)
theorem idc_ld {σ:Sto} {k:Nat} {x:Idn} (h:sget σ k = some ⟨61,[vI x.a,vI x.b,vU x.c],none⟩):gload Tryz.prog σ 3 (.ref k 0) = some (vI x.a) ∧ gload Tryz.prog σ 3 (.ref k 1) = some (vI x.b) ∧ gload Tryz.prog σ 23 (.ref k 2) = some (vU x.c):=by
 simp only [gload,h]
 exact ⟨by kernel_rfl,by kernel_rfl,by kernel_rfl⟩
theorem named_fn (gl:List (Nat × List G)) (x:Idn):Fn' Tryz.prog gl 79 [vIdn x] (vB (nmdI x)):=by
 refine fn_enter Tryz.func79 rfl (by simp [Tryz.ntmps79]) (Ex.tr ?_)
 simp only [St.enter,enterFr,Tryz.ntmps79]
 refine wS ?_
 refine run_box (cells_id x.a x.b x.c) (by decide) ?_
 refine zv (vB false) ?_
 obtain ⟨l0,l1,l2⟩:=idc_ld (σ:=[(0,some ⟨61,[vI x.a,vI x.b,vU x.c],none⟩)]) (k:=0) (x:=x) rfl
 refine wS ?_
 refine zv (.ref 0 0) ?_
 refine zt (vI x.a) l0 ?_
 refine run_c (in_fn gl x.a 1 12) (by kernel_rfl) (by decide) rfl (im3 (imm_lit _) (imm_lit _) (imm_lit _)) ?_
 by_cases h1:1 ≤ x.a ∧ x.a ≤ 12
 ·rw [decide_eq_true h1]
  refine zv (vB true) ?_
  refine zg (.ref 0 1) ?_
  refine ged_v (g:=vI x.b) (by kernel_rfl) (Eq.trans (by kernel_rfl) (l1)) (by decide) ?_
  refine ged_cf (by kernel_rfl) (in_fn gl x.b 1 2147483647) (by kernel_rfl) [] [] rfl rfl (im3 (imm_lit _) (imm_lit _) (imm_lit _)) (by decide) ?_
  by_cases h2:1 ≤ x.b ∧ x.b ≤ 2147483647
  ·rw [decide_eq_true h2]
   refine zv (vB true) ?_
   refine zv (vB true) ?_
   refine zg (.ref 0 2) ?_
   refine ged_v (g:=vU x.c) (by kernel_rfl) (Eq.trans (by kernel_rfl) (l2)) (by decide) ?_
   refine ged_cf (by kernel_rfl) (ok_fn gl x.c) (by kernel_rfl) [] [] rfl rfl (im1 (imm_lit _)) (by decide) ?_
   refine zv (vB (decide (x.c < 2305843009213693951))) ?_
   refine zv (vB (decide (x.c < 2305843009213693951))) ?_
   refine wS ?_
   exact ended_r rfl (frz_bool (decide_eq_decide.2 ⟨fun h => ⟨h1,h2,h⟩,fun h => h.2.2⟩))
  ·rw [decide_eq_false h2]
   refine zv (vB false) ?_
   refine zv (vB false) ?_
   refine zn ?_
   refine zn ?_
   refine zn ?_
   refine zv (vB false) ?_
   refine zv (vB false) ?_
   refine wS ?_
   exact ended_r rfl (frz_bool (decide_eq_false fun h => h2 h.2.1).symm)
 ·rw [decide_eq_false h1]
  refine zv (vB false) ?_
  refine zn ?_
  refine zn ?_
  refine zn ?_
  refine zv (vB false) ?_
  refine zv (vB false) ?_
  refine zn ?_
  refine zn ?_
  refine zn ?_
  refine zv (vB false) ?_
  refine zv (vB false) ?_
  refine wS ?_
  exact ended_r rfl (frz_bool (decide_eq_false fun h => h1 h.1).symm)

structure KK where
 lead:Bool
 i:Idn
 n:Int
 p:Nat
deriving DecidableEq
def cK (k:KK):List G:=[vB k.lead,vI k.i.a,vI k.i.b,vU k.i.c,vI k.n,vU k.p]
theorem len_cK (k:KK):(cK k).length = 6:=rfl
def gK (k:KK):G:=.agg (cK k)
theorem gK_c (k:KK):gK k = .agg (cK k):=rfl
theorem cK_imm (k:KK):∀ g ∈ cK k,ImmG g:=fun g hg => by
 simp only [cK,List.mem_cons,List.not_mem_nil,or_false] at hg
 rcases hg with rfl | rfl | rfl | rfl | rfl | rfl <;> exact imm_lit _
theorem gK_imm (k:KK):ImmG (gK k):=imm_agg (cK_imm k)
def KK.zero:KK:=⟨false,.zero,0,0⟩
theorem gK_box (k:KK):gbox Tryz.prog 81 (gK k) = some (cK k):=by kernel_rfl
theorem k_ld {σ:Sto} {j:Nat} {k:KK} (h:sget σ j = some ⟨81,cK k,none⟩):gload Tryz.prog σ 4 (.ref j 0) = some (vB k.lead) ∧ gload Tryz.prog σ 61 (.ref j 1) = some (vIdn k.i) ∧ gload Tryz.prog σ 3 (.ref j 4) = some (vI k.n) ∧ gload Tryz.prog σ 23 (.ref j 5) = some (vU k.p) ∧ gload Tryz.prog σ 3 (.ref j 2) = some (vI k.i.b) ∧ gload Tryz.prog σ 81 (.ref j 0) = some (gK k):=by
 simp only [gload,h]
 exact ⟨by kernel_rfl,by kernel_rfl,by kernel_rfl,by kernel_rfl,by kernel_rfl,by kernel_rfl⟩
def aheadK (a b:KK):Bool:=if a.lead || b.lead then a.lead && !b.lead else if a.i ≠ b.i then decide (ltId a.i b.i) else decide (a.n < b.n)
theorem ahead_fn (gl:List (Nat × List G)) (a b:KK):Fn' Tryz.prog gl 46 [gK a,gK b] (vB (aheadK a b)):=by
 refine fn_enter Tryz.func46 rfl (by simp [Tryz.ntmps46]) (Ex.tr ?_)
 simp only [St.enter,enterFr,Tryz.ntmps46]
 refine wS ?_
 refine run_box (gK_box a) (by decide) ?_
 refine run_box (gK_box b) (by decide) ?_
 refine zv (vB false) ?_
 obtain ⟨a0,a1,a2,_⟩:=k_ld (σ:=[(1,some ⟨81,cK b,none⟩),(0,some ⟨81,cK a,none⟩)]) (j:=0) (k:=a) rfl
 obtain ⟨b0,b1,b2,_⟩:=k_ld (σ:=[(1,some ⟨81,cK b,none⟩),(0,some ⟨81,cK a,none⟩)]) (j:=1) (k:=b) rfl
 have hal:∃ l,l = a.lead:=⟨_,rfl⟩
 obtain ⟨al,hal⟩:=hal
 obtain ⟨bl,hbl⟩:∃ l,l = b.lead:=⟨_,rfl⟩
 have eA:aheadK a b = if al || bl then al && !bl else if a.i ≠ b.i then decide (ltId a.i b.i) else decide (a.n < b.n):=by rw [hal,hbl]; rfl
 rw [← hal] at a0
 rw [← hbl] at b0
 refine wS ?_
 refine zv (.ref 0 0) ?_
 refine zt (vB al) a0 ?_
 cases al with
 | true =>
  refine zv (vB true) ?_
  refine zn ?_
  refine zn ?_
  refine zv (vB true) ?_
  refine wS ?_
  refine ex_condT rfl ?_
  refine wS ?_
  refine zv (.ref 0 0) ?_
  refine zt (vB true) a0 ?_
  refine zv (vB true) ?_
  refine zg (.ref 1 0) ?_
  refine ged_v (g:=vB bl) (by kernel_rfl) (Eq.trans (by kernel_rfl) (b0)) (by decide) ?_
  refine zg (vB (!bl)) ?_
  refine zv (vB (!bl)) ?_
  refine zv (vB (!bl)) ?_
  refine wS ?_
  refine ended_r rfl (frz_bool ?_)
  rw [eA]; rfl
 | false =>
  refine zv (vB false) ?_
  refine zg (.ref 1 0) ?_
  refine ged_v (g:=vB bl) (by kernel_rfl) (Eq.trans (by kernel_rfl) (b0)) (by decide) ?_
  refine zv (vB bl) ?_
  refine wS ?_
  refine ex_condB (t:=bl) rfl (fun hb => ?_) (fun hb => ?_)
  ·subst hb
   refine wS ?_
   refine zv (.ref 0 0) ?_
   refine zt (vB false) a0 ?_
   refine zv (vB false) ?_
   refine zn ?_
   refine zn ?_
   refine zn ?_
   refine zv (vB false) ?_
   refine zv (vB false) ?_
   refine wS ?_
   refine ended_r rfl (frz_bool ?_)
   rw [eA]; rfl
  ·subst hb
   refine wS ?_
   refine zv (.ref 0 1) ?_
   refine zt (vIdn a.i) a1 ?_
   refine zv (.ref 1 1) ?_
   refine zt (vIdn b.i) b1 ?_
   refine run_bin rfl rfl (neqId a.i b.i) (by decide) ?_
   refine wS ?_
   refine ex_condB (t:=!decide (a.i = b.i)) rfl (fun hi => ?_) (fun hi => ?_)
   ·
    refine wS ?_
    refine zv (.ref 0 1) ?_
    refine zt (vIdn a.i) a1 ?_
    refine zv (.ref 1 1) ?_
    refine zt (vIdn b.i) b1 ?_
    refine run_c (lessR gl a.i b.i) (by kernel_rfl) (by decide) rfl (im2 (imm_id ..) (imm_id ..)) ?_
    refine zv (vB (decide (ltId a.i b.i))) ?_
    refine wS ?_
    refine ended_r rfl (frz_bool ?_)
    rw [eA,if_neg (by decide),if_pos (by simpa using hi)]
   ·
    refine wS ?_
    refine zv (.ref 0 4) ?_
    refine zt (vI a.n) a2 ?_
    refine zv (.ref 1 4) ?_
    refine zt (vI b.n) b2 ?_
    refine run_bin rfl rfl (ltI (a:=a.n) (b:=b.n)) (by decide) ?_
    refine zv (vB (decide ((a.n:Int) < b.n))) ?_
    refine wS ?_
    refine ended_r rfl (frz_bool ?_)
    rw [eA,if_neg (by decide),if_neg (by simpa using hi)]
def mayK (k:KK):Bool:=okK k.p && (k.lead || (nmdI k.i && decide (k.i.b ≤ 1000 ∧ 0 ≤ k.n ∧ k.n ≤ 63)))
theorem may_fn (gl:List (Nat × List G)) (k:KK):Fn' Tryz.prog gl 45 [gK k] (vB (mayK k)):=by
 refine fn_enter Tryz.func45 rfl (by simp [Tryz.ntmps45]) (Ex.tr ?_)
 simp only [St.enter,enterFr,Tryz.ntmps45]
 refine wS ?_
 refine run_box (gK_box k) (by decide) ?_
 refine zv (vB false) ?_
 obtain ⟨a0,a1,a2,a3,a4,_⟩:=k_ld (σ:=[(0,some ⟨81,cK k,none⟩)]) (j:=0) (k:=k) rfl
 refine wN ?_
 refine ex_region_k (fun s => ∃ fr',s = ⟨39,gl,fr',[(0,some ⟨81,cK k,none⟩)],1,0,false⟩ ∧ FrOk fr' [(1,.ref 0 0),(3,vB (okK k.p))]) ?_ ?_
 ·refine zv (.ref 0 5) ?_
  refine zt (vU k.p) a3 ?_
  refine run_bin rfl rfl (geU (a:=k.p) (b:=1)) (by decide) ?_
  by_cases h1:1 ≤ k.p
  ·rw [decide_eq_true h1,show okK k.p = decide (k.p ≤ 2305843009213693949) from decide_eq_decide.2 ⟨And.right,fun h => ⟨h1,h⟩⟩]
   refine zv (vB true) ?_
   refine zg (.ref 0 5) ?_
   refine ged_v (g:=vU k.p) (by kernel_rfl) (Eq.trans (by kernel_rfl) (a3)) (by decide) ?_
   refine ged_bin (by kernel_rfl) rfl rfl (leU (a:=k.p) (b:=2305843009213693949)) (by decide) ?_
   refine zv (vB (decide ((k.p:Nat) ≤ 2305843009213693949))) ?_
   refine zv (vB (decide ((k.p:Nat) ≤ 2305843009213693949))) ?_
   exact run_nil ⟨_,rfl,(by repeat' (first|exact ⟨⟩|refine ⟨rfl,?_⟩))⟩
  ·rw [decide_eq_false h1,show okK k.p = false from decide_eq_false fun h => h1 h.1]
   refine zv (vB false) ?_
   refine zn ?_
   refine zn ?_
   refine zn ?_
   refine zv (vB false) ?_
   refine zv (vB false) ?_
   exact run_nil ⟨_,rfl,(by repeat' (first|exact ⟨⟩|refine ⟨rfl,?_⟩))⟩
 rintro s' ⟨fr',rfl,hfr⟩
 apply thn_n
 refine Ex.le ?_ (le_frs hfr)
 obtain ⟨sc,hsc⟩:∃ sc,sc = okK k.p:=⟨_,rfl⟩
 obtain ⟨le,hle⟩:∃ l,l = k.lead:=⟨_,rfl⟩
 have eM:mayK k = (sc && (le || (nmdI k.i && decide (k.i.b ≤ 1000 ∧ 0 ≤ k.n ∧ k.n ≤ 63)))):=by rw [hsc,hle]; rfl
 rw [← hsc]
 rw [← hle] at a0
 refine wS ?_
 refine zv (.ref 0 0) ?_
 refine zt (vB le) a0 ?_
 refine wS ?_
 refine ex_condB (t:=le) rfl (fun hb => ?_) (fun hb => ?_)
 ·subst hb
  refine wS ?_
  refine zv (vB sc) ?_
  refine zv (vB sc) ?_
  refine wS ?_
  refine ended_r rfl (frz_bool ?_)
  rw [eM]; simp
 ·subst hb
  refine wS ?_
  obtain ⟨nm,hnm⟩:∃ x,x = nmdI k.i:=⟨_,rfl⟩
  have hN:=named_fn gl k.i
  rw [← hnm] at hN
  rw [← hnm,Bool.false_or] at eM
  refine zv (.ref 0 1) ?_
  refine zt (vIdn k.i) a1 ?_
  refine run_c hN (by kernel_rfl) (by decide) rfl (im1 (imm_id ..)) ?_
  refine zv (vB nm) ?_
  refine wS ?_
  cases sc with
  | false =>
   refine zv (vB false) ?_
   refine zv (vB false) ?_
   refine zn ?_
   refine zv (vB false) ?_
   refine zv (vB false) ?_
   refine zn ?_
   refine zn ?_
   refine zn ?_
   refine zn ?_
   refine zv (vB false) ?_
   refine zv (vB false) ?_
   refine zn ?_
   refine zn ?_
   refine zn ?_
   refine zv (vB false) ?_
   refine zv (vB false) ?_
   refine zn ?_
   refine zn ?_
   refine zn ?_
   refine zv (vB false) ?_
   refine zv (vB false) ?_
   refine wS ?_
   refine ended_r rfl (frz_bool ?_)
   rw [eM]; rfl
  | true =>
   cases nm with
   | false =>
    refine zv (vB true) ?_
    refine zv (vB true) ?_
    refine zg (vB false) ?_
    refine zv (vB false) ?_
    refine zv (vB false) ?_
    refine zn ?_
    refine zn ?_
    refine zn ?_
    refine zn ?_
    refine zv (vB false) ?_
    refine zv (vB false) ?_
    refine zn ?_
    refine zn ?_
    refine zn ?_
    refine zv (vB false) ?_
    refine zv (vB false) ?_
    refine zn ?_
    refine zn ?_
    refine zn ?_
    refine zv (vB false) ?_
    refine zv (vB false) ?_
    refine wS ?_
    refine ended_r rfl (frz_bool ?_)
    rw [eM]; rfl
   | true =>
    refine zv (vB true) ?_
    refine zv (vB true) ?_
    refine zg (vB true) ?_
    refine zv (vB true) ?_
    refine zv (vB true) ?_
    refine zg (.ref 0 1) ?_
    refine zg (.ref 0 2) ?_
    refine ged_v (g:=vI k.i.b) (by kernel_rfl) (Eq.trans (by kernel_rfl) (a4)) (by decide) ?_
    refine ged_bin (by kernel_rfl) rfl rfl (leI (a:=k.i.b) (b:=1000)) (by decide) ?_
    by_cases h2:k.i.b ≤ 1000
    ·rw [decide_eq_true h2]
     refine zv (vB true) ?_
     refine zv (vB true) ?_
     refine zg (.ref 0 4) ?_
     refine ged_v (g:=vI k.n) (by kernel_rfl) (Eq.trans (by kernel_rfl) (a2)) (by decide) ?_
     refine ged_bin (by kernel_rfl) rfl rfl (geI (a:=k.n) (b:=0)) (by decide) ?_
     by_cases h3:0 ≤ k.n
     ·rw [decide_eq_true h3]
      refine zv (vB true) ?_
      refine zv (vB true) ?_
      refine zg (.ref 0 4) ?_
      refine ged_v (g:=vI k.n) (by kernel_rfl) (Eq.trans (by kernel_rfl) (a2)) (by decide) ?_
      refine ged_bin (by kernel_rfl) rfl rfl (leI (a:=k.n) (b:=63)) (by decide) ?_
      refine zv (vB (decide ((k.n:Int) ≤ 63))) ?_
      refine zv (vB (decide ((k.n:Int) ≤ 63))) ?_
      refine wS ?_
      refine ended_r rfl (frz_bool ?_)
      rw [eM]; exact decide_eq_decide.2 ⟨fun h => ⟨h2,h3,h⟩,fun h => h.2.2⟩
     ·rw [decide_eq_false h3]
      refine zv (vB false) ?_
      refine zv (vB false) ?_
      refine zn ?_
      refine zn ?_
      refine zn ?_
      refine zv (vB false) ?_
      refine zv (vB false) ?_
      refine wS ?_
      refine ended_r rfl (frz_bool ?_)
      rw [eM]; exact (decide_eq_false fun h => h3 h.2.1).symm
    ·rw [decide_eq_false h2]
     refine zv (vB false) ?_
     refine zv (vB false) ?_
     refine zn ?_
     refine zn ?_
     refine zn ?_
     refine zv (vB false) ?_
     refine zv (vB false) ?_
     refine zn ?_
     refine zn ?_
     refine zn ?_
     refine zv (vB false) ?_
     refine zv (vB false) ?_
     refine wS ?_
     refine ended_r rfl (frz_bool ?_)
     rw [eM]; exact (decide_eq_false fun h => h2 h.1).symm
end
section
open Go.RowKit
attribute [local irreducible] Tr Run RunD RunF GS TG Le Wk Frz Fn' ImmG Flat WkFr WkSt EndM Ex EndX McK FnM gNm gK
abbrev idO (a b:Int) (s:Nat):Ob:=⟨61,[vI a,vI b,vU s],none⟩
theorem id_sta {σ:Sto} {k:Nat} {a b:Int} {s:Nat} {x:Int} (h:sget σ k = some (idO a b s)):gsto Tryz.prog σ 3 (.ref k 0) (vI x) = some (k,idO x b s):=by
 simp only [gsto,h]; kernel_rfl
theorem id_stb {σ:Sto} {k:Nat} {a b:Int} {s:Nat} {x:Int} (h:sget σ k = some (idO a b s)):gsto Tryz.prog σ 3 (.ref k 1) (vI x) = some (k,idO a x s):=by
 simp only [gsto,h]; kernel_rfl
theorem id_stc {σ:Sto} {k:Nat} {a b:Int} {s:Nat} {x:Nat} (h:sget σ k = some (idO a b s)):gsto Tryz.prog σ 23 (.ref k 2) (vU x) = some (k,idO a b x):=by
 simp only [gsto,h]; kernel_rfl
set_option maxHeartbeats 2000000 in
theorem ident_rd4 (gl:List (Nat × List G)) {i j at':Nat} {L:List UInt8} {e:Int} {σ:Sto} (c:Nat) (h:I4At σ i j L at' e) (hi:i < c) (hj:j < c) :
  ∃ (a2:Nat) (e2:Int) (σ':Sto),a2 ≤ L.length ∧ curOf L a2 e2 = (cId (curOf L at' e)).2 ∧ (∀ k,k < c → sget σ' k = sget ((i,some (i4O j L.length a2 e2)) :: σ) k) ∧ McK Tryz.prog gl 43 [.ref i 0] σ c (vIdn (cId (curOf L at' e)).1) σ' (c + 2):=by
 suffices hM:Mc Tryz.prog gl 43 [.ref i 0] σ c (fun v σ' c' => ∃ (a2:Nat) (e2:Int),a2 ≤ L.length ∧ curOf L a2 e2 = (cId (curOf L at' e)).2 ∧ (∀ k,k < c → sget σ' k = sget ((i,some (i4O j L.length a2 e2)) :: σ) k) ∧ v = vIdn (cId (curOf L at' e)).1 ∧ c' = c + 2) by
  obtain ⟨v,σ',c',⟨a2,e2,h1,h2,h3,rfl,rfl⟩,hM⟩:=hM
  exact ⟨a2,e2,σ',h1,h2,h3,hM⟩
 obtain ⟨σ0,e0⟩:∃ σ0:Sto,σ0 = (c + 1,some (idO 0 0 0)) :: (c + 1,some (idO 0 0 0)) :: (c,some (idO 0 0 0)) :: σ:=⟨_,rfl⟩
 have z0:∀ k,k < c → sget σ0 k = sget σ k:=fun k hk => by rw [e0,sget_ne (by omega),sget_ne (by omega),sget_ne (by omega)]
 have h0:I4At σ0 i j L at' e:=h.of (z0 i hi) (z0 j hj)
 have hh:I4At ((c,some (idO 0 0 0)) :: σ) i j L at' e:=h.of (sget_ne (by omega)) (sget_ne (by omega))
 obtain ⟨l0,l1,l2⟩:=i4_ld hh.i
 have hne:=h.ne
 obtain ⟨a1,e1,p1,p2,hM1⟩:=int_rd4 gl (c + 2) h0
 obtain ⟨x1,ex1⟩:∃ x,x = (cInt (curOf L at' e)).1:=⟨_,rfl⟩
 rw [← ex1] at hM1
 obtain ⟨σ1,s1⟩:∃ σ1:Sto,σ1 = (c + 1,some (idO x1 0 0)) :: (i,some (i4O j L.length a1 e1)) :: σ0:=⟨_,rfl⟩
 have hA:I4At σ1 i j L a1 e1:=(h0.next p1).of (by rw [s1,sget_ne (by omega)]) (by rw [s1,sget_ne (by omega)])
 have i1:sget σ1 (c + 1) = some (idO x1 0 0):=by rw [s1,sget_eq rfl]
 obtain ⟨a2,e2,q1,q2,hM2⟩:=int_rd4 gl (c + 2) hA
 rw [p2] at q2 hM2
 obtain ⟨x2,ex2⟩:∃ x,x = (cInt (cInt (curOf L at' e)).2).1:=⟨_,rfl⟩
 rw [← ex2] at hM2
 obtain ⟨σ2,s2⟩:∃ σ2:Sto,σ2 = (c + 1,some (idO x1 x2 0)) :: (i,some (i4O j L.length a2 e2)) :: σ1:=⟨_,rfl⟩
 have hB:I4At σ2 i j L a2 e2:=(hA.next q1).of (by rw [s2,sget_ne (by omega)]) (by rw [s2,sget_ne (by omega)])
 have i2:sget σ2 (c + 1) = some (idO x1 x2 0):=by rw [s2,sget_eq rfl]
 obtain ⟨a3,e3,r1,r2,hM3⟩:=num_rd4 gl (c + 2) hB
 rw [q2] at r2 hM3
 obtain ⟨x3,ex3⟩:∃ x,x = (cNum (cInt (cInt (curOf L at' e)).2).2).1:=⟨_,rfl⟩
 rw [← ex3] at hM3
 obtain ⟨σ3,s3⟩:∃ σ3:Sto,σ3 = (c + 1,some (idO x1 x2 x3)) :: (i,some (i4O j L.length a3 e3)) :: σ2:=⟨_,rfl⟩
 have hC:I4At σ3 i j L a3 e3:=(hB.next r1).of (by rw [s3,sget_ne (by omega)]) (by rw [s3,sget_ne (by omega)])
 have i3:sget σ3 (c + 1) = some (idO x1 x2 x3):=by rw [s3,sget_eq rfl]
 have b3:sget σ3 c = some (idO 0 0 0):=by rw [s3,sget_ne (by omega),sget_ne (by omega),s2,sget_ne (by omega),sget_ne (by omega),s1,sget_ne (by omega),sget_ne (by omega),e0,sget_ne (by omega),sget_ne (by omega),sget_eq rfl]
 have k3:∀ k,k < c → k ≠ i → sget σ3 k = sget σ k:=fun k hk h2 => by rw [s3,sget_ne (by omega),sget_ne (by omega),s2,sget_ne (by omega),sget_ne (by omega),s1,sget_ne (by omega),sget_ne (by omega),z0 k hk]
 obtain ⟨m0,m1,m2⟩:=i4_ld hC.i
 have eid:cId (curOf L at' e) = if e3 = 0 then (⟨x1,x2,x3⟩,curOf L a3 e3) else (.zero,curOf L a3 e3):=by
  unfold cId
  rw [← r2,ex1,ex2,ex3]
  by_cases h3:e3 = 0
  ·rw [if_pos h3,h3,curOf_ok]
  ·rw [if_neg h3,curOf_err h3]
 rw [eid]
 refine mc_enter (by kernel_rfl) Tryz.func43 rfl (by simp [Tryz.ntmps43]) ?_
 simp only [enterFr,Tryz.ntmps43]
 refine wS ?_
 refine run_alloc (l:=[vI 0,vI 0,vU 0]) (by kernel_rfl) (by decide) ?_
 refine wS ?_
 refine zv (.ref i 0) ?_
 refine zv (.ref i 0) ?_
 refine zv (.ref i 1) ?_
 refine zt (vI at') l1 ?_
 refine zv (vI at') ?_
 refine wS ?_
 refine run_build (g:=vId 0 0 0) (by kernel_rfl) (by decide) ?_
 refine run_alloc (l:=[vI 0,vI 0,vU 0]) (by kernel_rfl) (by decide) ?_
 refine run_sto (id_st (l:=[vI 0,vI 0,vU 0]) (sget_eq rfl) rfl) ?_
 rw [← e0]
 refine wS ?_
 refine zv (.ref i 0) ?_
 refine run_m hM1 [] [] (by kernel_rfl) (by kernel_rfl) (by decide) ?_
 refine zv (.ref (c + 1) 0) ?_
 refine run_sto (id_sta (a:=0) (b:=0) (s:=0) (x:=x1) (by rw [sget_ne (by omega),e0]; exact sget_eq rfl)) ?_
 rw [← s1]
 refine wS ?_
 refine zv (.ref i 0) ?_
 refine run_m hM2 [] [] (by kernel_rfl) (by kernel_rfl) (by decide) ?_
 refine zv (.ref (c + 1) 1) ?_
 refine run_sto (id_stb (x:=x2) (by rw [sget_ne (by omega)]; exact i1)) ?_
 rw [← s2]
 refine wS ?_
 refine zv (.ref i 0) ?_
 refine run_m hM3 [] [] (by kernel_rfl) (by kernel_rfl) (by decide) ?_
 refine zv (.ref (c + 1) 2) ?_
 refine run_sto (id_stc (x:=x3) (by rw [sget_ne (by omega)]; exact i2)) ?_
 rw [← s3]
 refine wS ?_
 refine zv (.ref i 0) ?_
 refine zv (.ref i 0) ?_
 refine zv (.ref i 2) ?_
 refine zt (vI e3) m2 ?_
 refine run_bin rfl rfl (neI (a:=e3) (b:=0)) (by decide) ?_
 refine wS ?_
 refine ex_condP (p:=e3 ≠ 0) rfl (fun h3 => ?_) (fun h3 => ?_)
 ·
  refine wS ?_
  refine zv (.ref i 0) ?_
  refine zv (vI at') ?_
  refine zv (.ref i 0) ?_
  refine zv (.ref i 1) ?_
  refine run_sto (i4_st1 hC.i) ?_
  refine wS ?_
  refine run_build (g:=vId 0 0 0) (by kernel_rfl) (by decide) ?_
  refine run_sto (id_st (l:=[vI 0,vI 0,vU 0]) (by rw [sget_ne (by omega)]; exact b3) rfl) ?_
  refine wS ?_
  rw [if_neg h3]
  refine endx (.inr rfl) (gs:=[vId 0 0 0]) (res_cell (a:=2) (t:=61) rfl (id_ld (sget_eq rfl))) ⟨at',e3,h.at',by rw [curOf_err h3,curOf_err h3],fun k hk => ?_,rfl,rfl⟩
  rw [sget_ne (by omega)]
  by_cases hki:k = i
  ·subst hki; rw [sget_eq rfl,sget_eq rfl]
  ·rw [sget_ne (by omega),sget_ne (by omega),k3 k hk hki]
 ·rw [if_pos (Decidable.of_not_not h3)]
  refine wS ?_
  refine run_ld rfl (id_ld i3) (by decide) ?_
  refine run_sto (id_st (l:=[vI 0,vI 0,vU 0]) b3 rfl) ?_
  refine wS ?_
  refine endx (.inr rfl) (gs:=[vId x1 x2 x3]) (res_cell (a:=2) (t:=61) rfl (id_ld (sget_eq rfl))) ⟨a3,e3,r1,rfl,fun k hk => ?_,rfl,rfl⟩
  rw [sget_ne (by omega)]
  by_cases hki:k = i
  ·subst hki; rw [hC.i,sget_eq rfl]
  ·rw [sget_ne (by omega),k3 k hk hki]
end
section
open Go.RowKit
attribute [local irreducible] Tr Run RunD RunF GS TG Le Wk Frz Fn' ImmG Flat WkFr WkSt EndM Ex EndX McK FnM gNm gK
def keyOf (x:It):KK:=⟨false,x.i,x.n,x.p⟩
def leadK (R:Raw):List KK:=if R.lead then [⟨true,.zero,0,R.p⟩] else []
def keysR (R:Raw):List KK:=leadK R ++ R.its.map keyOf
def riseK:List KK → Bool
 | [] => true
 | [_] => true
 | a :: b :: r => aheadK a b && riseK (b :: r)
theorem riseK_iff:∀ (l:List KK),riseK l = true ↔ ∀ i a b,l[i]? = some a → l[i + 1]? = some b → aheadK a b = true
 | [] => by simp [riseK]
 | [x] => by simp [riseK]
 | x :: y :: r => by
  rw [riseK,Bool.and_eq_true,riseK_iff (y :: r)]
  constructor
  ·rintro ⟨h1,h2⟩ i a b ha hb
   cases i with
   | zero => simp at ha hb; subst ha; subst hb; exact h1
   | succ i => exact h2 i a b (by simpa using ha) (by simpa using hb)
  ·intro h
   exact ⟨h 0 x y rfl rfl,fun i a b ha hb => h (i + 1) a b (by simpa using ha) (by simpa using hb)⟩
def errR (R:Raw):Int:=if endOf R.s ≠ 0 then endOf R.s else if R.d < 1 ∨ 12 < R.d then 8 else if (keysR R).all mayK = false then 8 else if riseK (keysR R) = false then 6 else 0
abbrev hO (d:Int) (g:G):Ob:=⟨36,[vI d,g],none⟩
theorem hO_ld {σ:Sto} {k:Nat} {d:Int} {g:G} (h:sget σ k = some (hO d g)):gload Tryz.prog σ 3 (.ref k 0) = some (vI d) ∧ gload Tryz.prog σ 34 (.ref k 1) = some g ∧ gload Tryz.prog σ 36 (.ref k 0) = some (.agg [vI d,g]):=by
 simp only [gload,h]
 exact ⟨by kernel_rfl,by kernel_rfl,by kernel_rfl⟩
theorem hO_st {σ:Sto} {k q n:Nat} {d:Int} {g:G} (h:sget σ k = some (hO d g)):gsto Tryz.prog σ 34 (.ref k 1) (.rsl q 0 n) = some (k,hO d (.rsl q 0 n)):=by
 simp only [gsto,h]; kernel_rfl
theorem hO_stw {σ:Sto} {k:Nat} {d e:Int} {g g':G} (h:sget σ k = some (hO d g)):gsto Tryz.prog σ 36 (.ref k 0) (.agg [vI e,g']) = some (k,hO e g'):=by
 simp only [gsto,h]; kernel_rfl
abbrev gN0:G:=.lit (.slice none 0 0)
abbrev kO (k:KK):Ob:=⟨81,cK k,none⟩
theorem k_stw {σ:Sto} {j:Nat} {k k':KK} (h:sget σ j = some (kO k)):gsto Tryz.prog σ 81 (.ref j 0) (gK k') = some (j,kO k'):=by
 simp only [gsto,h]; kernel_rfl
theorem k_stn {σ:Sto} {j:Nat} {b:Bool} {i:Idn} {n m:Int} {p:Nat} (h:sget σ j = some (kO ⟨b,i,n,p⟩)):gsto Tryz.prog σ 3 (.ref j 4) (vI m) = some (j,kO ⟨b,i,m,p⟩):=by
 simp only [gsto,h]; kernel_rfl
theorem k_stp {σ:Sto} {j:Nat} {b:Bool} {i:Idn} {n:Int} {p q:Nat} (h:sget σ j = some (kO ⟨b,i,n,p⟩)):gsto Tryz.prog σ 23 (.ref j 5) (vU q) = some (j,kO ⟨b,i,n,q⟩):=by
 simp only [gsto,h]; kernel_rfl
theorem kRow_app {σ:Sto} {g:G} {l:List KK} {r:Option Nat} (h:RowA cK 6 81 σ g l r) {q:Nat} {x:KK} (hq:sget σ q = some (kO x)) (hb:l.length ≤ 100000) (c:Nat) :
  ∃ q',gapp Tryz.prog σ c 34 g (.rsl q 0 1) = some (81,q',(l ++ [x]).length,(l ++ [x]).flatMap cK) ∧ (q' = c ∨ r = some q') :=
 rowA_app len_cK (b:=48) (zs:=[.bool false,.int .i64 0,.int .i64 0,.int .u64 0,.int .i64 0,.int .u64 0]) (by kernel_rfl) (by kernel_rfl) (by omega) (by kernel_rfl) rfl (by kernel_rfl) h (one_view len_cK hq) (by simp; omega) (by simp; omega) c
theorem kRow_bs (x:KK):gbs Tryz.prog 34 1 [(0,gK x)] = some (81,cK x):=by kernel_rfl
structure RGt (σ σ1:Sto) (c c1 j:Nat) (L:List UInt8) (a:Nat) (e d:Int) (g:G) (l:List KK) (r:Option Nat):Prop where
 hI:I4At σ1 (c + 1) j L a e
 h0:sget σ1 c = some (hO 0 gN0)
 hH:sget σ1 (c + 2) = some (hO d g)
 hr:RowA cK 6 81 σ1 g l r
 hq:∀ q,r = some q → c + 2 < q ∧ q < c1
 hc:c + 2 < c1
 hj:j < c
 hk:∀ k,k < c → sget σ1 k = sget σ k
theorem RGt.more {σ σ1 σ2:Sto} {c c1 c2 j:Nat} {L:List UInt8} {a:Nat} {e d:Int} {g:G} {l:List KK} {r:Option Nat} (h:RGt σ σ1 c c1 j L a e d g l r) (hc:c1 ≤ c2) (hs:∀ k,k < c1 → sget σ2 k = sget σ1 k):RGt σ σ2 c c2 j L a e d g l r:=by
 have h1:=h.hc
 have h2:=h.hj
 exact ⟨h.hI.of (hs _ (by omega)) (hs _ (by omega)),(hs _ (by omega)).trans h.h0,(hs _ (by omega)).trans h.hH,rowA_more h.hr fun q e => hs _ (h.hq q e).2,fun q e => by have:=h.hq q e; omega,by omega,h2,fun k hk => (hs k (by omega)).trans (h.hk k hk)⟩
theorem RGt.read {σ σ1 σ2:Sto} {c c1 c2 j:Nat} {L:List UInt8} {a a2:Nat} {e e2 d:Int} {g:G} {l:List KK} {r:Option Nat} (h:RGt σ σ1 c c1 j L a e d g l r) (ha:a2 ≤ L.length) (hc:c1 ≤ c2) (hs:∀ k,k < c1 → sget σ2 k = sget ((c + 1,some (i4O j L.length a2 e2)) :: σ1) k):RGt σ σ2 c c2 j L a2 e2 d g l r:=by
 have h1:=h.hc
 have h2:=h.hj
 have hs':∀ k,k < c1 → k ≠ c + 1 → sget σ2 k = sget σ1 k:=fun k k1 k2 => by rw [hs k k1,sget_ne (by omega)]
 exact ⟨(h.hI.next ha).of (hs _ (by omega)) (hs _ (by omega)),(hs' _ (by omega) (by omega)).trans h.h0,(hs' _ (by omega) (by omega)).trans h.hH,rowA_more h.hr fun q e => hs' _ (h.hq q e).2 (by have:=h.hq q e; omega),fun q e => by have:=h.hq q e; omega,by omega,h2,fun k hk => (hs' k (by omega) (by omega)).trans (h.hk k hk)⟩
theorem cIts_more:∀ (q r:Nat) (s:Cur),(cIts (q + r) s).2 = (cIts r (cIts q s).2).2
 | 0,r,s => by rw [Nat.zero_add]; rfl
 | q + 1,r,s => by
  rw [Nat.add_right_comm,cIts,cIts]
  exact cIts_more q r _
theorem rf_in4 {gl:List (Nat × List G)} {ops:Array Oper} {K:St → Prop} {rest:List Oper} {inf:List DI} {st:St} {d:Tmp} {ty:TypeId} {xs:Array Operand} {ats:Array TypeId} {pos:String} {af:Array Edge} {fid:FuncId} {i j a a2:Nat} {L:List UInt8} {e e2:Int} {r:G} {c c':Nat} (σ':Sto) (hgl:st.gl = gl) (hc:st.c = c) (h:I4At st.σ i j L a e) (hi:i < c) (hj:j < c) (hd:d < st.n) (hg:xs.toList.map (gev st) = [.ref i 0])
  (hM:McK Tryz.prog gl fid [.ref i 0] [(i,some (i4O j L.length a e)),(j,some ⟨5,L.map gY,none⟩)] c r σ' c') (hs:∀ k,k < c → sget σ' k = sget [(i,some (i4O j L.length a2 e2)),(i,some (i4O j L.length a e)),(j,some ⟨5,L.map gY,none⟩)] k)
  (hK:RunF Tryz.prog ops K rest inf ({ st with σ:=(i,some (i4O j L.length a2 e2)) :: st.σ,c:=c' }.put (some d) r)) :
  RunF Tryz.prog ops K (⟨some d,.call { callee:=.value (.func fid),args:=xs,argTypes:=ats },ty,pos,af,none⟩ :: rest) (.wr [i,j] [(i,some (i4O j L.length a2 e2))] [(i,some (i4O j L.length a e))] true :: inf) st:=by
 subst hgl
 refine rf_m hc ?_ hM [] [] rfl (by simpa using hg) hd ?_ ?_ hK
 ·simp [h.i]
 ·intro k o hk
  simp only [sget_cons,sget_nil] at hk
  split at hk
  ·rename_i e; subst e; cases hk; exact ⟨by simp,h.i⟩
  ·split at hk
   ·rename_i e; subst e; cases hk; exact ⟨by simp,h.j⟩
   ·cases hk
 ·intro σ hb hR k o hk
  have hne:=h.ne
  simp only [List.singleton_append,sget_cons] at hk
  split at hk
  ·rename_i e1
   cases hk
   subst e1
   left
   rw [hs _ hi]
   exact sget_eq rfl
  ·rename_i e1
   by_cases e2:k = j
   ·subst e2
    have hjj:=hR k ⟨5,L.map gY,none⟩ (by rw [sget_ne hne]; exact sget_eq rfl)
    rw [hk] at hjj
    cases hjj
    left
    rw [hs _ hj,sget_ne hne,sget_ne hne]
    exact sget_eq rfl
   ·right
    exact ⟨hk,by rw [sget_ne e1,sget_ne (by omega)]; rfl⟩
theorem in4_small {σ:Sto} {i j a:Nat} {L:List UInt8} {e:Int} (h:I4At σ i j L a e):I4At [(i,some (i4O j L.length a e)),(j,some ⟨5,L.map gY,none⟩)] i j L a e:=⟨h.ne,sget_eq rfl,by rw [sget_ne h.ne]; exact sget_eq rfl,h.at',h.L⟩
set_option maxHeartbeats 16000000 in
theorem rget_mc (gl:List (Nat × List G)) (j:Nat) (L:List UInt8) (σ:Sto) (c:Nat) (hj:sget σ j = some ⟨5,L.map gY,none⟩) (hjc:j < c) (hL:L.length ≤ 1000000000000) :
  Mc Tryz.prog gl 10 [.rsl j 0 L.length] σ c (fun v σ' c' => c ≤ c' ∧ (∀ k,k < c → sget σ' k = sget σ k) ∧ ∃ d' g,v = .tup [.agg [vI d',g],vI (errR (rawOf L))] ∧ (errR (rawOf L) = 0 → d' = (rawOf L).d ∧ ∃ r,RowA cK 6 81 σ' g (keysR (rawOf L)) r ∧ (∀ q,r = some q → c ≤ q ∧ q < c'))):=by
 obtain ⟨σ0,e0⟩:∃ σ0:Sto,σ0 = (c + 1,some (i4O j L.length 0 0)) :: (c,some (hO 0 gN0)) :: σ:=⟨_,rfl⟩
 have z0:∀ k,k < c → sget σ0 k = sget σ k:=fun k hk => by rw [e0,sget_ne (by omega),sget_ne (by omega)]
 have I0:I4At σ0 (c + 1) j L 0 0:=⟨by omega,by rw [e0]; exact sget_eq rfl,(z0 j hjc).trans hj,by omega,hL⟩
 have S1:curOf L 0 0 = .ok L:=by rw [curOf_ok]; rfl
 obtain ⟨a1,v1,q1,r1,hM1⟩:=int_rd4 gl (c + 2) I0
 rw [S1] at r1 hM1
 obtain ⟨d,hd⟩:∃ d,d = (cInt (.ok L)).1:=⟨_,rfl⟩
 obtain ⟨s2,es2⟩:∃ s2,s2 = (cInt (.ok L)).2:=⟨_,rfl⟩
 rw [← hd] at hM1
 rw [← es2] at r1
 obtain ⟨σ1,e1⟩:∃ σ1:Sto,σ1 = (c + 2,some (hO d gN0)) :: (c + 2,some (hO 0 gN0)) :: (c + 1,some (i4O j L.length a1 v1)) :: σ0:=⟨_,rfl⟩
 have R1:RGt σ σ1 c (c + 3) j L a1 v1 d gN0 [] none:=by
  refine ⟨(I0.next q1).of (by rw [e1,sget_ne (by omega),sget_ne (by omega)]) (by rw [e1,sget_ne (by omega),sget_ne (by omega)]),?_,?_,rowA_nil,fun q e => (by cases e),by omega,hjc,fun k hk => ?_⟩
  ·rw [e1,sget_ne (by omega),sget_ne (by omega),sget_ne (by omega),e0,sget_ne (by omega),sget_eq rfl]
  ·rw [e1,sget_eq rfl]
  ·rw [e1,sget_ne (by omega),sget_ne (by omega),sget_ne (by omega)]; exact z0 k hk
 refine mc_enter (by kernel_rfl) Tryz.func10 rfl (by simp [Tryz.ntmps10]) ?_
 simp only [enterFr,Tryz.ntmps10]
 refine wS ?_
 refine run_alloc (l:=[vI 0,gN0]) (by kernel_rfl) (by decide) ?_
 refine zv (vI 0) ?_
 refine wS ?_
 refine zv (.rsl j 0 L.length) ?_
 refine run_build (g:=.agg [.rsl j 0 L.length,vI 0,vI 0]) (by kernel_rfl) (by decide) ?_
 refine run_box (l:=[.rsl j 0 L.length,vI ((0:Nat):Int),vI 0]) (by kernel_rfl) (by decide) ?_
 refine zv (.ref (c + 1) 0) ?_
 rw [← e0]
 refine wS ?_
 refine zv (.ref (c + 1) 0) ?_
 refine run_m hM1 [] [] (by kernel_rfl) (by kernel_rfl) (by decide) ?_
 refine run_build (g:=.agg [vI d,gN0]) (by kernel_rfl) (by decide) ?_
 refine run_alloc (l:=[vI 0,gN0]) (by kernel_rfl) (by decide) ?_
 refine run_sto (hO_stw (sget_eq rfl)) ?_
 rw [← e1]
 obtain ⟨a2,v2,q2,r2,hM2⟩:=bool_rd4 gl (c + 3) R1.hI
 rw [r1] at r2 hM2
 obtain ⟨bl,ebl⟩:∃ bl,bl = (cBool s2).1:=⟨_,rfl⟩
 obtain ⟨s4,es4⟩:∃ s4,s4 = (cBool s2).2:=⟨_,rfl⟩
 rw [← ebl] at hM2
 rw [← es4] at r2
 obtain ⟨σ2,e2⟩:∃ σ2:Sto,σ2 = (c + 1,some (i4O j L.length a2 v2)) :: σ1:=⟨_,rfl⟩
 have R2:RGt σ σ2 c (c + 3) j L a2 v2 d gN0 [] none:=R1.read q2 (by omega) (fun k hk => by rw [e2])
 refine wS ?_
 refine zv (.ref (c + 1) 0) ?_
 refine run_m hM2 [] [] (by kernel_rfl) (by kernel_rfl) (by decide) ?_
 refine zv (vB bl) ?_
 rw [← e2]
 refine wS ?_
 refine zv (vB bl) ?_
 refine wS ?_
 obtain ⟨pp0,epp⟩:∃ p:Nat × Cur,p = if bl then cNum s4 else (0,s4):=⟨_,rfl⟩
 refine ex_thn (K:=fun s => ∃ fr' σ5 c5 a5 v5 g5 r5,s = ⟨113,gl,fr',σ5,c5,c,false⟩ ∧ FrOk fr' [(2,.ref c 0),(4,.ref (c + 1) 0),(5,.ref (c + 2) 0)] ∧ curOf L a5 v5 = pp0.2 ∧ RGt σ σ5 c c5 j L a5 v5 d g5 (if bl then [⟨true,.zero,0,pp0.1⟩] else []) r5) ?_ ?_
 ·refine ex_condB (t:=bl) rfl (fun hb => ?_) (fun hb => ?_)
  ·
   refine wN ?_
   refine Ex.le ?_ (le_addResv 2 _)
   dsimp only [addResv]
   obtain ⟨σr,er⟩:∃ σr:Sto,σr = (c + 3 + 1,some resvOb) :: (c + 3,some resvOb) :: σ2:=⟨_,rfl⟩
   rw [← er]
   have Rr:RGt σ σr c (c + 3 + 1 + 1) j L a2 v2 d gN0 [] none:=R2.more (by omega) (fun k hk => by rw [er,sget_ne (by omega),sget_ne (by omega)])
   obtain ⟨a3,v3,q3,r3,hM3⟩:=num_rd4 gl (c + 3 + 1 + 1) (in4_small Rr.hI)
   rw [r2] at r3 hM3
   generalize eu:(cNum s4).1 = u at hM3
   obtain ⟨kx,ekx⟩:∃ kx:KK,kx = ⟨true,.zero,0,u⟩:=⟨_,rfl⟩
   refine ex_region_draw4 (inf:=[dR,.rd [c + 2] (fun _ => false),dR,.wr [c + 1,j] [(c + 1,some (i4O j L.length a3 v3))] [(c + 1,some (i4O j L.length a2 v2))] true,dR,.wr [c + 3] [(c + 3,some (kO kx))] [(c + 3,some resvOb)] false,.wr [c + 3 + 1,c + 3] [(c + 3 + 1,some ⟨81,[kx].flatMap cK,none⟩)] [(c + 3 + 1,some resvOb)] false,dR,.wr [c + 2] [(c + 2,some (hO d (.rsl (c + 3 + 1) 0 1)))] [(c + 2,some (hO d gN0))] false]) mixed ?_ ?_
   ·refine drawOk4_of (pairs:=[(1,3),(1,5)]) (by kernel_rfl) (by kernel_rfl) ?_
    have nb:∀ x y:Nat,x ≠ y → Nat.beq x y = false:=fun x y h => by
     cases hb:Nat.beq x y
     ·rfl
     ·exact absurd (Nat.eq_of_beq_eq_true hb) h
    intro x hx
    simp only [List.mem_cons,List.not_mem_nil,or_false] at hx
    rcases hx with rfl | rfl
    ·show okS (.rd _ _) (.wr _ _ _ _) = true
     simp (disch:=omega) [okS,meets,nb]
    ·show okS (.rd _ _) (.wr _ _ _ _) = true
     simp (disch:=omega) [okS,meets,nb]
   obtain ⟨_,lr,_⟩:=hO_ld Rr.hH
   refine rf_v (d:=23) (g:=.ref (c + 2) 1) rfl rfl (by show 23 < 113; decide) (by kernel_rfl) (fun t x h => by cases h) ?_
   refine rf_ld (d:=24) (i:=c + 2) (k:=1) (g:=gN0) (by show 24 < 113; decide) rfl lr ?_
   refine rf_v (d:=25) (g:=.ref (c + 1) 0) rfl rfl (by show 25 < 113; decide) (by kernel_rfl) (fun t x h => by cases h) ?_
   refine rf_in4 (c:=c + 3 + 1 + 1) _ rfl rfl Rr.hI (by omega) (by omega) (by show 26 < 113; decide) (by kernel_rfl) hM3 (fun k hk => rfl) ?_
   refine rf_b (d:=27) (g:=gK kx) rfl rfl rfl (by show 27 < 113; decide) (by rw [ekx]; kernel_rfl) ?_
   refine rf_w (d:=28) (g:=.rsl (c + 3) 0 1) (U:=[(c + 3,some (kO kx))]) (R:=[c + 3]) (c + 3) ?_ rfl rfl (by show 28 < 113; decide) rfl (xeff_bs rfl ?_ (Nat.ble_eq_true_of_le (show c ≤ c + 3 by omega)) (kRow_bs kx)) ?_
   ·show [(c + 3,some resvOb)] = [(c + 3,sget ((c + 1,some (i4O j L.length a3 v3)) :: σr) (c + 3))]
    rw [sget_ne (by omega),er,sget_ne (by omega),sget_eq rfl]
   ·show isResv (sget ((c + 1,some (i4O j L.length a3 v3)) :: σr) (c + 3)) = true
    rw [sget_ne (by omega),er,sget_ne (by omega),sget_eq rfl]; rfl
   obtain ⟨σu,eu'⟩:∃ σu:Sto,σu = (c + 3,some (kO kx)) :: (c + 1,some (i4O j L.length a3 v3)) :: σr:=⟨_,rfl⟩
   obtain ⟨q',hq',hq2⟩:=kRow_app (σ:=σu) (g:=gN0) (l:=[]) (r:=none) rowA_nil (q:=c + 3) (x:=kx) (by rw [eu']; exact sget_eq rfl) (by simp) (c + 3 + 1 + 1)
   refine rf_w (d:=29) (g:=.rsl (c + 3 + 1) 0 1) (U:=[(c + 3 + 1,some ⟨81,[kx].flatMap cK,none⟩)]) (R:=[c + 3 + 1,c + 3]) (c + 3 + 1) ?_ rfl rfl (by show 29 < 113; decide) rfl (xeff_app0 (i:=q') rfl ?_ (Nat.ble_eq_true_of_le (show c ≤ c + 3 + 1 by omega)) (by kernel_rfl) (by kernel_rfl) (by rw [eu'] at hq'; exact hq')) ?_
   ·show [(c + 3 + 1,some resvOb)] = [(c + 3 + 1,sget ((c + 3,some (kO kx)) :: (c + 1,some (i4O j L.length a3 v3)) :: σr) (c + 3 + 1))]
    rw [sget_ne (by omega),sget_ne (by omega),er,sget_eq rfl]
   ·show isResv (sget ((c + 3,some (kO kx)) :: (c + 1,some (i4O j L.length a3 v3)) :: σr) (c + 3 + 1)) = true
    rw [sget_ne (by omega),sget_ne (by omega),er,sget_eq rfl]; rfl
   refine rf_v (d:=30) (g:=.ref (c + 2) 1) rfl rfl (by show 30 < 113; decide) (by kernel_rfl) (fun t x h => by cases h) ?_
   have hhr:sget ((c + 3 + 1,some (⟨81,[kx].flatMap cK,none⟩:Ob)) :: (c + 3,some (kO kx)) :: (c + 1,some (i4O j L.length a3 v3)) :: σr) (c + 2) = some (hO d gN0):=by
    rw [sget_ne (by omega),sget_ne (by omega),sget_ne (by omega)]; exact Rr.hH
   refine rf_w0 (g:=.lit undef) (U:=[(c + 2,some (hO d (.rsl (c + 3 + 1) 0 1)))]) (R:=[c + 2]) (c + 2) ?_ rfl rfl rfl (xeff_sto rfl rfl (hO_st hhr)) ?_
   ·show [(c + 2,some (hO d gN0))] = [(c + 2,sget ((c + 3 + 1,some (⟨81,[kx].flatMap cK,none⟩:Ob)) :: (c + 3,some (kO kx)) :: (c + 1,some (i4O j L.length a3 v3)) :: σr) (c + 2))]
    rw [hhr]
   apply rf_nil
   refine ⟨rfl,_,_,c + 3 + 1 + 1,a3,v3,.rsl (c + 3 + 1) 0 1,some (c + 3 + 1),rfl,(by repeat' (first|exact ⟨⟩|refine ⟨rfl,?_⟩)),?_,?_⟩
   ·rw [epp,hb]; exact r3
   ·rw [hb,epp,hb]
    simp only [if_true]
    rw [eu,← ekx]
    have kk:∀ k,k < c + 3 → k ≠ c + 2 → sget ([(c + 2,some (hO d (.rsl (c + 3 + 1) 0 1)))] ++ ((c + 3 + 1,some (⟨81,[kx].flatMap cK,none⟩:Ob)) :: (c + 3,some (kO kx)) :: (c + 1,some (i4O j L.length a3 v3)) :: σr)) k = sget ((c + 1,some (i4O j L.length a3 v3)) :: σr) k:=fun k k1 k2 => by
     rw [List.singleton_append,sget_ne (by omega),sget_ne (by omega),sget_ne (by omega)]
    refine ⟨(Rr.hI.next q3).of (kk _ (by omega) (by omega)) (kk _ (by omega) (by omega)),?_,sget_eq rfl,rowA_new len_cK ?_ rfl,fun q e => (by cases e; omega),by omega,hjc,fun k hk => ?_⟩
    ·refine (kk _ (by omega) (by omega)).trans ?_
     rw [sget_ne (by omega)]; exact Rr.h0
    ·show sget ((c + 2,some (hO d (.rsl (c + 3 + 1) 0 1))) :: (c + 3 + 1,some (⟨81,[kx].flatMap cK,none⟩:Ob)) :: (c + 3,some (kO kx)) :: (c + 1,some (i4O j L.length a3 v3)) :: σr) (c + 3 + 1) = _
     rw [sget_ne (by omega),sget_eq rfl]
    ·refine (kk _ (by omega) (by omega)).trans ?_
     rw [sget_ne (by omega)]; exact Rr.hk k hk
  ·
   refine wS ?_
   refine ⟨rfl,_,_,_,a2,v2,gN0,none,rfl,(by repeat' (first|exact ⟨⟩|refine ⟨rfl,?_⟩)),?_,?_⟩
   ·rw [epp,hb]; exact r2
   ·rw [hb]
    exact R2
 rintro s ⟨fr',σ5,c5,a5,v5,g5,r5',rfl,hfr,r5,G5⟩
 refine Ex.le ?_ (le_frs hfr)
 have hc5:=G5.hc
 obtain ⟨l0,el0⟩:∃ l0:List KK,l0 = if bl then [⟨true,.zero,0,pp0.1⟩] else []:=⟨_,rfl⟩
 rw [← el0] at G5
 have hl0:l0.length ≤ 1:=by rw [el0]; split <;> simp
 obtain ⟨a7,v7,q7,r7,hM7⟩:=many_rd4 gl c5 1000 (by decide) G5.hI
 rw [r5] at r7 hM7
 obtain ⟨hm0,hm1⟩:=cMany_bd (m:=1000) (by decide) pp0.2
 obtain ⟨n0,en0⟩:∃ n0:Nat,n0 = (cMany 1000 pp0.2).1.toNat:=⟨_,rfl⟩
 have en1:(cMany 1000 pp0.2).1 = (n0:Int):=by rw [en0]; omega
 obtain ⟨s7,es7⟩:∃ s7,s7 = (cMany 1000 pp0.2).2:=⟨_,rfl⟩
 rw [en1] at hM7 hm1
 rw [← es7] at r7
 have eR:rawOf L = ⟨d,bl,pp0.1,(cIts n0 s7).1,(cIts n0 s7).2⟩:=by
  unfold rawOf
  simp only [← es2,← ebl,← es4,← epp,← en0,← es7,← hd]
 have eK:keysR (rawOf L) = l0 ++ (cIts n0 s7).1.map keyOf:=by
  unfold keysR leadK
  rw [eR,el0]
 obtain ⟨σ7,e7⟩:∃ σ7:Sto,σ7 = (c + 1,some (i4O j L.length a7 v7)) :: σ5:=⟨_,rfl⟩
 have G7:RGt σ σ7 c c5 j L a7 v7 d g5 l0 r5':=G5.read q7 (by omega) (fun k hk => by rw [e7])
 refine wS ?_
 refine zv (.ref (c + 1) 0) ?_
 refine run_m hM7 [] [] (by kernel_rfl) (by kernel_rfl) (by decide) ?_
 refine zv (vI ((n0:Nat):Int)) ?_
 rw [← e7]
 refine wN ?_
 refine ex_bthn (K:=fun s => ∃ fr' σ8 c8 a8 v8 g8 r8,s = ⟨113,gl,fr',σ8,c8,c,false⟩ ∧ FrOk fr' [(2,.ref c 0),(4,.ref (c + 1) 0),(5,.ref (c + 2) 0)] ∧ ∃ q,q ≤ n0 ∧ (q = n0 ∨ v8 ≠ 0) ∧ RGt σ σ8 c c8 j L a8 v8 d g8 (l0 ++ (cIts q s7).1.map keyOf) r8 ∧ curOf L a8 v8 = (cIts q s7).2) ?_ ?_
 ·refine ex_loop (fun t s => ∃ (q:Nat) (σ1:Sto) (c1 a:Nat) (e:Int) (g:G) (r:Option Nat),s = ⟨113,gl,[(2,.ref c 0),(4,.ref (c + 1) 0),(5,.ref (c + 2) 0),(7,vI ((n0 - q:Nat):Int))],σ1,c1,c,false⟩ ∧ t = n0 - q ∧ q ≤ n0 ∧ RGt σ σ1 c c1 j L a e d g (l0 ++ (cIts q s7).1.map keyOf) r ∧ curOf L a e = (cIts q s7).2) n0 (le_frs (fr':=[(2,.ref c 0),(4,.ref (c + 1) 0),(5,.ref (c + 2) 0),(7,vI ((n0 - 0:Nat):Int))]) (by repeat' (first|exact ⟨⟩|refine ⟨rfl,?_⟩))) ⟨0,σ7,c5,a7,v7,g5,r5',rfl,rfl,by omega,by simpa [cIts] using G7,r7⟩ ?_
  clear hM7 hM1 hM2 e0 e1 e2 R1 R2 G5 G7
  rintro t s ⟨q,σ1,c1,a,e,g,r,rfl,rfl,hq,hG,hcur⟩
  obtain ⟨m0,m1,m2⟩:=i4_ld hG.hI.i
  have hc1:=hG.hc
  refine wN ?_
  refine ex_region_k (fun s => ∃ fr',s = ⟨113,gl,fr',σ1,c1,c,false⟩ ∧ FrOk fr' [(2,.ref c 0),(4,.ref (c + 1) 0),(5,.ref (c + 2) 0),(7,vI ((n0 - q:Nat):Int)),(41,vB (decide (q < n0 ∧ e = 0)))]) ?_ ?_
  ·refine zv (vI ((n0 - q:Nat):Int)) ?_
   refine run_bin rfl rfl (gtI (a:=((n0 - q:Nat):Int)) (b:=0)) (by decide) ?_
   by_cases hlt:(0:Int) < ((n0 - q:Nat):Int)
   ·rw [decide_eq_true hlt,show decide (q < n0 ∧ e = 0) = decide (e = 0) from decide_eq_decide.2 ⟨And.right,fun h => ⟨by omega,h⟩⟩]
    refine zv (vB true) ?_
    refine zg (.ref (c + 1) 0) ?_
    refine zg (.ref (c + 1) 0) ?_
    refine zg (.ref (c + 1) 2) ?_
    refine ged_v (g:=vI e) (by kernel_rfl) (Eq.trans (by kernel_rfl) (m2)) (by decide) ?_
    refine ged_bin (by kernel_rfl) rfl rfl (eqI (a:=e) (b:=0)) (by decide) ?_
    refine zv (vB (decide ((e:Int) = 0))) ?_
    exact run_nil ⟨_,rfl,(by repeat' (first|exact ⟨⟩|refine ⟨rfl,?_⟩))⟩
   ·rw [decide_eq_false hlt,show decide (q < n0 ∧ e = 0) = false from decide_eq_false fun h => by omega]
    refine zv (vB false) ?_
    refine zn ?_
    refine zn ?_
    refine zn ?_
    refine zn ?_
    refine zn ?_
    refine zv (vB false) ?_
    exact run_nil ⟨_,rfl,(by repeat' (first|exact ⟨⟩|refine ⟨rfl,?_⟩))⟩
  rintro s' ⟨fr',rfl,hfr⟩
  apply thn_n
  refine Ex.le ?_ (le_frs hfr)
  refine ex_condP (p:=q < n0 ∧ e = 0) rfl (fun hgo => ?_) (fun hst => ?_)
  ·refine wS ?_
   have hcj:=hG.hj
   have hs':∀ {σx:Sto} {cx:Nat},True:=trivial
   obtain ⟨a1,v1,σ',q1,r1,k1,hMa⟩:=ident_rd4 gl c1 hG.hI (by omega) (by omega)
   rw [hcur] at r1 hMa
   generalize eid:(cId (cIts q s7).2).1 = id at hMa
   obtain ⟨σa,ea⟩:∃ σa:Sto,σa = (c1 + 2,some (kO ⟨false,id,0,0⟩)) :: (c1 + 2,some (kO .zero)) :: σ':=⟨_,rfl⟩
   have Ga:RGt σ σa c (c1 + 2 + 1) j L a1 v1 d g _ r:=hG.read q1 (by omega) (fun k hk => by rw [ea,sget_ne (by omega),sget_ne (by omega)]; exact k1 k hk)
   have ta:sget σa (c1 + 2) = some (kO ⟨false,id,0,0⟩):=by rw [ea]; exact sget_eq rfl
   obtain ⟨a2,v2,q2,r2,hMb⟩:=int_rd4 gl (c1 + 2 + 1) Ga.hI
   rw [r1] at r2 hMb
   generalize enn:(cInt (cId (cIts q s7).2).2).1 = nn at hMb
   obtain ⟨σb,eb⟩:∃ σb:Sto,σb = (c1 + 2,some (kO ⟨false,id,nn,0⟩)) :: (c + 1,some (i4O j L.length a2 v2)) :: σa:=⟨_,rfl⟩
   have hup:∀ {σx σy:Sto} {ax:Nat} {vx:Int} {kx:KK} {a0:Nat} {v0:Int},RGt σ σx c (c1 + 2 + 1) j L a0 v0 d g (l0 ++ (cIts q s7).1.map keyOf) r → ax ≤ L.length → σy = (c1 + 2,some (kO kx)) :: (c + 1,some (i4O j L.length ax vx)) :: σx → RGt σ σy c (c1 + 2 + 1) j L ax vx d g (l0 ++ (cIts q s7).1.map keyOf) r:=by
    intro σx σy ax vx kx a0 v0 hR hax ey
    have hp:=hR.read (σ2:=(c + 1,some (i4O j L.length ax vx)) :: σx) hax (Nat.le_refl _) (fun k hk => rfl)
    have kk:∀ k,k ≠ c1 + 2 → sget σy k = sget ((c + 1,some (i4O j L.length ax vx)) :: σx) k:=fun k hk => by rw [ey,sget_ne (by omega)]
    have hgr:∀ z,r = some z → z < c1:=fun z hz => (hG.hq z hz).2
    exact ⟨hp.hI.of (kk _ (by omega)) (kk _ (by omega)),(kk _ (by omega)).trans hp.h0,(kk _ (by omega)).trans hp.hH,rowA_more hp.hr fun z hz => kk _ (by have:=hgr z hz; omega),hp.hq,hp.hc,hp.hj,fun k hk => (kk _ (by omega)).trans (hp.hk k hk)⟩
   have Gb:RGt σ σb c (c1 + 2 + 1) j L a2 v2 d g _ r:=hup Ga q2 eb
   have tb:sget σb (c1 + 2) = some (kO ⟨false,id,nn,0⟩):=by rw [eb]; exact sget_eq rfl
   obtain ⟨a3,v3,q3,r3,hMc⟩:=num_rd4 gl (c1 + 2 + 1) Gb.hI
   rw [r2] at r3 hMc
   generalize epn:(cNum (cInt (cId (cIts q s7).2).2).2).1 = pn at hMc
   obtain ⟨σd,ed⟩:∃ σd:Sto,σd = (c1 + 2,some (kO ⟨false,id,nn,pn⟩)) :: (c + 1,some (i4O j L.length a3 v3)) :: σb:=⟨_,rfl⟩
   have Gd:RGt σ σd c (c1 + 2 + 1) j L a3 v3 d g _ r:=hup Gb q3 ed
   obtain ⟨kx,ekx⟩:∃ kx:KK,kx = ⟨false,id,nn,pn⟩:=⟨_,rfl⟩
   have td:sget σd (c1 + 2) = some (kO kx):=by rw [ed,ekx]; exact sget_eq rfl
   have ecI:cIt (cIts q s7).2 = (⟨id,nn,pn⟩,curOf L a3 v3):=by
    unfold cIt
    rw [eid,enn,epn,r3]
   obtain ⟨_,lg,_⟩:=hO_ld Gd.hH
   obtain ⟨_,_,_,_,_,lk⟩:=k_ld td
   refine zv (.ref (c + 1) 0) ?_
   refine run_m hMa [] [] (by kernel_rfl) (by kernel_rfl) (by decide) ?_
   refine run_build (g:=gK ⟨false,id,0,0⟩) (by kernel_rfl) (by decide) ?_
   refine run_alloc (l:=cK .zero) (by kernel_rfl) (by decide) ?_
   refine run_sto (k_stw (k:=.zero) (sget_eq rfl)) ?_
   rw [← ea]
   refine wS ?_
   refine zv (.ref (c + 1) 0) ?_
   refine run_m hMb [] [] (by kernel_rfl) (by kernel_rfl) (by decide) ?_
   refine zv (.ref (c1 + 2) 4) ?_
   refine run_sto (k_stn (b:=false) (i:=id) (n:=0) (p:=0) (by rw [sget_ne (by omega)]; exact ta)) ?_
   rw [← eb]
   refine wS ?_
   refine zv (.ref (c + 1) 0) ?_
   refine run_m hMc [] [] (by kernel_rfl) (by kernel_rfl) (by decide) ?_
   refine zv (.ref (c1 + 2) 5) ?_
   refine run_sto (k_stp (b:=false) (i:=id) (n:=nn) (p:=0) (by rw [sget_ne (by omega)]; exact tb)) ?_
   rw [← ed]
   refine wS ?_
   obtain ⟨lx,elx⟩:∃ lx,lx = l0 ++ (cIts q s7).1.map keyOf:=⟨_,rfl⟩
   rw [← elx] at Gd
   have hlx:lx.length ≤ 1001:=by rw [elx]; simp [cIts_len]; omega
   obtain ⟨σe,ee⟩:∃ σe:Sto,σe = (c1 + 2 + 1,some (kO kx)) :: σd:=⟨_,rfl⟩
   obtain ⟨q',hq',hq2⟩:=kRow_app (σ:=σe) (rowA_more Gd.hr fun z hz => by rw [ee,sget_ne (by have:=Gd.hq z hz; omega)]) (q:=c1 + 2 + 1) (x:=kx) (by rw [ee]; exact sget_eq rfl) (by omega) (c1 + 2 + 1 + 1)
   have hqr:q' > c + 2 ∧ q' < c1 + 2 + 1 + 1 + 1:=by
    rcases hq2 with rfl | hq2
    ·omega
    ·have:=Gd.hq q' hq2; omega
   refine zv (.ref (c + 2) 1) ?_
   refine run_ld rfl lg (by decide) ?_
   refine run_ld rfl lk (by decide) ?_
   refine run_bs (kRow_bs _) (by decide) ?_
   refine run_app (by rw [← ee]; exact hq') (by decide) ?_
   refine zv (.ref (c + 2) 1) ?_
   refine run_sto (hO_st (d:=d) (g:=g) (by rw [sget_ne (by omega),sget_ne (by omega),sget_ne (by omega)]; exact Gd.hH)) ?_
   refine wS ?_
   refine zv (vI ((n0 - q:Nat):Int)) ?_
   refine run_v (g:=vI ((n0 - (q + 1):Nat):Int)) (Eq.trans (by kernel_rfl) (congrArg some (show G.lit (.int .i64 (IntKind.i64.wrap (((n0 - q:Nat):Int) - 1))) = _ by rw [w64 (by omega),show ((n0 - q:Nat):Int) - 1 = ((n0 - (q + 1):Nat):Int) by omega]))) (by decide) ?_
   refine zv (vI ((n0 - (q + 1):Nat):Int)) ?_
   refine wS ?_
   have eL:l0 ++ (cIts (q + 1) s7).1.map keyOf = lx ++ [kx]:=by
    rw [cIts_snoc,ecI,List.map_append,← List.append_assoc,← elx,ekx]; rfl
   refine ⟨n0 - (q + 1),_,by omega,le_frs (fr':=[(2,.ref c 0),(4,.ref (c + 1) 0),(5,.ref (c + 2) 0),(7,vI ((n0 - (q + 1):Nat):Int))]) (by repeat' (first|exact ⟨⟩|refine ⟨rfl,?_⟩)),q + 1,_,c1 + 2 + 1 + 1 + 1,a3,v3,.rsl (c1 + 2 + 1 + 1) 0 (lx ++ [kx]).length,some (c1 + 2 + 1 + 1),rfl,rfl,by omega,?_,?_⟩
   ·rw [eL]
    have kk:∀ k,k < c1 → k ≠ c + 2 → k ≠ q' → sget ((c + 2,some (hO d (.rsl (c1 + 2 + 1 + 1) 0 (lx ++ [kx]).length))) :: (c1 + 2 + 1 + 1,some ⟨81,(lx ++ [kx]).flatMap cK,none⟩) :: (q',none) :: (c1 + 2 + 1,some (kO kx)) :: σd) k = sget σd k:=fun k k1 k2 k3 => by
     rw [sget_ne (by omega),sget_ne (by omega),sget_ne (by omega),sget_ne (by omega)]
    refine ⟨Gd.hI.of (kk _ (by omega) (by omega) (by omega)) (kk _ (by omega) (by omega) (by omega)),?_,sget_eq rfl,rowA_new len_cK ?_ rfl,fun z hz => (by cases hz; omega),by omega,hcj,fun k hk => ?_⟩
    ·exact (kk _ (by omega) (by omega) (by omega)).trans Gd.h0
    ·rw [sget_ne (by omega)]; exact sget_eq rfl
    ·exact (kk _ (by omega) (by omega) (by omega)).trans (Gd.hk k hk)
   ·rw [cIts_snoc,ecI]
  ·refine wS ?_
   refine ⟨rfl,_,σ1,c1,a,e,g,r,rfl,(by repeat' (first|exact ⟨⟩|refine ⟨rfl,?_⟩)),q,hq,?_,hG,hcur⟩
   by_cases hqn:q = n0
   ·exact .inl hqn
   ·exact .inr fun h => hst ⟨by omega,h⟩
 rintro s ⟨fr',σ8,c8,a8,v8,g8,r8,rfl,hfr,q,hq,hqv,G8,hcur⟩
 refine Ex.le ?_ (le_frs hfr)
 clear hM7 hM1 hM2 e0 e1 e2 R1 R2 G5 G7 hfr
 have hs9:curOf L a8 v8 = (cIts n0 s7).2:=by
  rcases hqv with hqv | hqv
  ·rw [hcur,hqv]
  ·rw [show n0 = q + (n0 - q) by omega,cIts_more,← hcur,curOf_err hqv,cIts_err]
 have hMe:=end4_mc gl c8 G8.hI
 obtain ⟨ee,eee⟩:∃ ee,ee = endOf (rawOf L).s:=⟨_,rfl⟩
 have eE:errR (rawOf L) = if ee ≠ 0 then ee else if d < 1 ∨ 12 < d then 8 else if (keysR (rawOf L)).all mayK = false then 8 else if riseK (keysR (rawOf L)) = false then 6 else 0:=by
  unfold errR
  rw [← eee,eR]
 rw [hs9,show (cIts n0 s7).2 = (rawOf L).s by rw [eR],← eee] at hMe
 have hdd:(rawOf L).d = d:=by rw [eR]
 obtain ⟨hc8,hj8⟩:c + 2 < c8 ∧ j < c:=⟨G8.hc,G8.hj⟩
 obtain ⟨ld8,lg8,lh8⟩:=hO_ld G8.hH
 have wr:∀ {e':Int} {g':G} {fr:Fr} {k:Int},True:=trivial
 have ldz:∀ σx:Sto,gload Tryz.prog ((c,some (hO 0 gN0)) :: σx) 36 (.ref c 0) = some (.agg [vI 0,gN0]):=fun σx => (hO_ld (sget_eq rfl)).2.2
 refine wS ?_
 refine zv (.ref (c + 1) 0) ?_
 refine run_m hMe [] [] (by kernel_rfl) (by kernel_rfl) (by decide) ?_
 refine zv (vI ee) ?_
 refine wS ?_
 refine zv (vI ee) ?_
 refine run_bin rfl rfl (neI (a:=ee) (b:=0)) (by decide) ?_
 refine wS ?_
 refine ex_condP (p:=ee ≠ 0) rfl (fun he => ?_) (fun he => ?_)
 ·
  refine wS ?_
  refine run_build (g:=.agg [vI 0,gN0]) (by kernel_rfl) (by decide) ?_
  refine zv (vI ee) ?_
  refine run_sto (hO_stw G8.h0) ?_
  refine zv (vI ee) ?_
  refine wS ?_
  rw [if_pos he] at eE
  refine endx (.inr rfl) (gs:=[.agg [vI 0,gN0],vI ee]) (res_cell2 (a:=2) (b:=3) rfl (ldz _) rfl) ⟨by omega,fun k hk => by rw [sget_ne (by omega)]; exact G8.hk k hk,0,gN0,by rw [eE]; rfl,fun h0 => absurd (eE ▸ h0) he⟩
 ·rw [if_neg he] at eE
  have he0:ee = 0:=Decidable.of_not_not he
  -- no error: the whole list was read
  have hqn:q = n0:=by
   rcases hqv with hqv | hqv
   ·exact hqv
   ·exfalso
    rw [curOf_err hqv] at hs9
    have:(rawOf L).s = .error v8:=by rw [eR,← hs9]
    rw [this] at eee
    exact hqv (by rw [← he0,eee]; rfl)
  subst hqn
  rw [← eK] at G8
  obtain ⟨l,el⟩:∃ l,l = keysR (rawOf L):=⟨_,rfl⟩
  rw [← el] at G8 eE
  have hll:l.length ≤ 1001:=by rw [el,eK]; simp [cIts_len]; omega
  have hlen:glen g8 = some (l.length:Int):=rowA_len G8.hr
  refine wN ?_
  refine ex_region_k (fun s => ∃ fr',s = ⟨113,gl,fr',σ8,c8,c,false⟩ ∧ FrOk fr' [(2,.ref c 0),(5,.ref (c + 2) 0),(72,vB (decide (d < 1 ∨ 12 < d)))]) ?_ ?_
  ·refine zv (.ref (c + 2) 0) ?_
   refine zt (vI d) ld8 ?_
   refine run_bin rfl rfl (ltI (a:=d) (b:=1)) (by decide) ?_
   by_cases h1:d < 1
   ·rw [decide_eq_true h1,show decide (d < 1 ∨ 12 < d) = true from decide_eq_true (.inl h1)]
    refine zv (vB true) ?_
    refine zn ?_
    refine zn ?_
    refine zn ?_
    refine zv (vB true) ?_
    exact run_nil ⟨_,rfl,(by repeat' (first|exact ⟨⟩|refine ⟨rfl,?_⟩))⟩
   ·rw [decide_eq_false h1,show decide (d < 1 ∨ 12 < d) = decide (12 < d) from decide_eq_decide.2 ⟨fun h => h.resolve_left h1,.inr⟩]
    refine zv (vB false) ?_
    refine zg (.ref (c + 2) 0) ?_
    refine ged_v (g:=vI d) (by kernel_rfl) (Eq.trans (by kernel_rfl) (ld8)) (by decide) ?_
    refine ged_bin (by kernel_rfl) rfl rfl (gtI (a:=d) (b:=12)) (by decide) ?_
    refine zv (vB (decide ((12:Int) < d))) ?_
    exact run_nil ⟨_,rfl,(by repeat' (first|exact ⟨⟩|refine ⟨rfl,?_⟩))⟩
  rintro s' ⟨fr',rfl,hfr⟩
  apply thn_n
  refine Ex.le ?_ (le_frs hfr)
  refine ex_condP (p:=d < 1 ∨ 12 < d) rfl (fun hdr => ?_) (fun hdr => ?_)
  ·
   refine wS ?_
   refine run_build (g:=.agg [vI 0,gN0]) (by kernel_rfl) (by decide) ?_
   refine run_sto (hO_stw G8.h0) ?_
   refine zv (vI 8) ?_
   refine wS ?_
   rw [if_pos hdr] at eE
   refine endx (.inr rfl) (gs:=[.agg [vI 0,gN0],vI 8]) (res_cell2 (a:=2) (b:=3) rfl (ldz _) rfl) ⟨by omega,fun k hk => by rw [sget_ne (by omega)]; exact G8.hk k hk,0,gN0,by rw [eE]; rfl,fun h0 => absurd (eE ▸ h0) (by decide)⟩
  ·rw [if_neg hdr] at eE
   refine wN ?_
   apply ex_region
   refine zv (vI ((0:Nat):Int)) ?_
   apply run_nil
   apply thn_n
   apply ex_block
   have hld9:∀ {fr:Fr} {k:Int},True:=trivial
   refine ex_bthnR (K:=fun s => ∃ fr',s = ⟨113,gl,fr',σ8,c8,c,false⟩ ∧ FrOk fr' [(2,.ref c 0),(5,.ref (c + 2) 0)] ∧ l.all mayK = true) ?_ ?_
   ·refine ex_loop (fun t s => ∃ q:Nat,s = ⟨113,gl,[(2,.ref c 0),(5,.ref (c + 2) 0),(10,vI (q:Int))],σ8,c8,c,false⟩ ∧ t = l.length - q ∧ q ≤ l.length ∧ ∀ i x,i < q → l[i]? = some x → mayK x = true) l.length (le_frs (fr':=[(2,.ref c 0),(5,.ref (c + 2) 0),(10,vI ((0:Nat):Int))]) (by repeat' (first|exact ⟨⟩|refine ⟨rfl,?_⟩))) ⟨0,rfl,by omega,by omega,fun i x h => by omega⟩ ?_
    rintro t s ⟨q,rfl,rfl,hql,hall⟩
    refine wS ?_
    refine zv (vI (q:Int)) ?_
    refine zv (.ref (c + 2) 1) ?_
    refine zt (g8) lg8 ?_
    refine run_ln rfl (by kernel_rfl) hlen (by decide) ?_
    refine run_bin rfl rfl (ltI (a:=(q:Int)) (b:=(l.length:Int))) (by decide) ?_
    refine wS ?_
    refine ex_condP (p:=(q:Int) < (l.length:Int)) rfl (fun hlt => ?_) (fun hlt => ?_)
    ·obtain ⟨x,hx⟩:∃ x,l[q]? = some x:=⟨_,List.getElem?_eq_getElem (by omega)⟩
     obtain ⟨q0,hq0,hix,hrw⟩:=rowA_ix (P:=Tryz.prog) (t:=34) (e:=81) len_cK (by kernel_rfl) (by kernel_rfl) G8.hr hx
     have hldx:gload Tryz.prog σ8 81 (.ref q0 (q * 6)) = some (gK x):=by
      rw [gK_c]
      exact rowA_ld (P:=Tryz.prog) (e:=81) len_cK (by kernel_rfl) (by kernel_rfl) hrw hx
     refine wS ?_
     refine zv (.ref (c + 2) 1) ?_
     refine zt (g8) lg8 ?_
     refine zv (vI (q:Int)) ?_
     refine zt (.ref q0 (q * 6)) hix ?_
     refine run_ld rfl hldx (by decide) ?_
     refine run_c (may_fn gl x) (by kernel_rfl) (by decide) rfl (im1 (gK_imm x)) ?_
     refine zv (vB (mayK x)) ?_
     refine wS ?_
     refine zv (vB (mayK x)) ?_
     refine zv (vB (!(mayK x))) ?_
     refine wS ?_
     refine ex_condB (t:=!mayK x) rfl (fun hm => ?_) (fun hm => ?_)
     ·
      refine wS ?_
      refine run_build (g:=.agg [vI 0,gN0]) (by kernel_rfl) (by decide) ?_
      refine run_sto (hO_stw G8.h0) ?_
      refine zv (vI 8) ?_
      refine wS ?_
      have hnall:l.all mayK = false:=by
       rw [List.all_eq_false]
       exact ⟨x,List.mem_of_getElem? hx,by simpa using hm⟩
      rw [if_pos hnall] at eE
      exact .inr ⟨rfl,endx (.inr rfl) (gs:=[.agg [vI 0,gN0],vI 8]) (res_cell2 (a:=2) (b:=3) rfl (ldz _) rfl) ⟨by omega,fun k hk => by rw [sget_ne (by omega)]; exact G8.hk k hk,0,gN0,by rw [eE]; rfl,fun h0 => absurd (eE ▸ h0) (by decide)⟩⟩
     ·
      refine wS ?_
      refine zv (vI (q:Int)) ?_
      refine run_v (g:=vI ((q + 1:Nat):Int)) (Eq.trans (by kernel_rfl) (congrArg some (show G.lit (.int .i64 (IntKind.i64.wrap ((q:Int) + 1))) = _ by rw [w64 (by omega)]; rfl))) (by decide) ?_
      refine zv (vI ((q + 1:Nat):Int)) ?_
      refine wS ?_
      refine ⟨l.length - (q + 1),_,by omega,le_frs (fr':=[(2,.ref c 0),(5,.ref (c + 2) 0),(10,vI ((q + 1:Nat):Int))]) (by repeat' (first|exact ⟨⟩|refine ⟨rfl,?_⟩)),q + 1,rfl,rfl,by omega,fun i y hi hy => ?_⟩
      by_cases hiq:i = q
      ·subst hiq; rw [hx] at hy; cases hy; simpa using hm
      ·exact hall i y (by omega) hy
    ·refine wS ?_
     refine .inl ⟨rfl,_,rfl,(by repeat' (first|exact ⟨⟩|refine ⟨rfl,?_⟩)),?_⟩
     rw [List.all_eq_true]
     intro x hx
     obtain ⟨i,hi,hix⟩:=List.getElem_of_mem hx
     exact hall i x (by omega) (by rw [← hix]; exact List.getElem?_eq_getElem hi)
   rintro s ⟨fr',rfl,hfr,hall⟩
   refine Ex.le ?_ (le_frs hfr)
   rw [if_neg (by rw [hall]; decide)] at eE
   refine wN ?_
   apply ex_region
   refine zv (vI ((1:Nat):Int)) ?_
   apply run_nil
   apply thn_n
   apply ex_block
   refine ex_bthnR (K:=fun s => ∃ fr',s = ⟨113,gl,fr',σ8,c8,c,false⟩ ∧ FrOk fr' [(2,.ref c 0),(5,.ref (c + 2) 0)] ∧ riseK l = true) ?_ ?_
   ·refine ex_loop (fun t s => ∃ q:Nat,s = ⟨113,gl,[(2,.ref c 0),(5,.ref (c + 2) 0),(12,vI (q:Int))],σ8,c8,c,false⟩ ∧ t = l.length - q ∧ 1 ≤ q ∧ q ≤ 1002 ∧ ∀ i x y,i + 1 < q → l[i]? = some x → l[i + 1]? = some y → aheadK x y = true) (l.length - 1) (le_frs (fr':=[(2,.ref c 0),(5,.ref (c + 2) 0),(12,vI ((1:Nat):Int))]) (by repeat' (first|exact ⟨⟩|refine ⟨rfl,?_⟩))) ⟨1,rfl,rfl,by omega,by omega,fun i x y h => by omega⟩ ?_
    rintro t s ⟨q,rfl,rfl,hq1,hql,hall2⟩
    refine wS ?_
    refine zv (vI (q:Int)) ?_
    refine zv (.ref (c + 2) 1) ?_
    refine zt (g8) lg8 ?_
    refine run_ln rfl (by kernel_rfl) hlen (by decide) ?_
    refine run_bin rfl rfl (ltI (a:=(q:Int)) (b:=(l.length:Int))) (by decide) ?_
    refine wS ?_
    refine ex_condP (p:=(q:Int) < (l.length:Int)) rfl (fun hlt => ?_) (fun hlt => ?_)
    ·obtain ⟨x,hx⟩:∃ x,l[q - 1]? = some x:=⟨_,List.getElem?_eq_getElem (by omega)⟩
     obtain ⟨y,hy⟩:∃ y,l[q]? = some y:=⟨_,List.getElem?_eq_getElem (by omega)⟩
     obtain ⟨q0,hq0,hix,hrw⟩:=rowA_ix (P:=Tryz.prog) (t:=34) (e:=81) len_cK (by kernel_rfl) (by kernel_rfl) G8.hr hx
     obtain ⟨q0',hq0',hiy,_⟩:=rowA_ix (P:=Tryz.prog) (t:=34) (e:=81) len_cK (by kernel_rfl) (by kernel_rfl) G8.hr hy
     rw [hq0] at hq0'
     cases hq0'
     have hldx:gload Tryz.prog σ8 81 (.ref q0 ((q - 1) * 6)) = some (gK x):=by
      rw [gK_c]
      exact rowA_ld (P:=Tryz.prog) (e:=81) len_cK (by kernel_rfl) (by kernel_rfl) hrw hx
     have hldy:gload Tryz.prog σ8 81 (.ref q0 (q * 6)) = some (gK y):=by
      rw [gK_c]
      exact rowA_ld (P:=Tryz.prog) (e:=81) len_cK (by kernel_rfl) (by kernel_rfl) hrw hy
     refine wN ?_
     refine ex_region_draw (bars:=[]) mixed (by kernel_rfl) ?_
     refine zd (.ref (c + 2) 1) ?_
     refine rund_v (g:=g8) (Eq.trans (by kernel_rfl) (lg8)) (by decide) ?_
     refine zd (vI (q:Int)) ?_
     refine rund_v (g:=vI ((q - 1:Nat):Int)) (Eq.trans (by kernel_rfl) (congrArg some (show G.lit (.int .i64 (IntKind.i64.wrap ((q:Int) - 1))) = _ by rw [w64 (by omega),show (q:Int) - 1 = ((q - 1:Nat):Int) by omega]))) (by decide) ?_
     refine rund_v (g:=.ref q0 ((q - 1) * 6)) (Eq.trans (by kernel_rfl) hix) (by decide) ?_
     refine rund_ld rfl hldx (by decide) ?_
     refine zd (.ref (c + 2) 1) ?_
     refine rund_v (g:=g8) (Eq.trans (by kernel_rfl) (lg8)) (by decide) ?_
     refine zd (vI (q:Int)) ?_
     refine rund_v (g:=.ref q0 (q * 6)) (Eq.trans (by kernel_rfl) hiy) (by decide) ?_
     refine rund_ld rfl hldy (by decide) ?_
     refine rund_c (ahead_fn gl x y) (by kernel_rfl) (by decide) rfl (im2 (gK_imm x) (gK_imm y)) ?_
     refine zd (vB (aheadK x y)) ?_
     apply rund_nil
     refine wS ?_
     refine zv (vB (aheadK x y)) ?_
     refine zv (vB (!(aheadK x y))) ?_
     refine wS ?_
     refine ex_condB (t:=!aheadK x y) rfl (fun hm => ?_) (fun hm => ?_)
     ·
      refine wS ?_
      refine run_build (g:=.agg [vI 0,gN0]) (by kernel_rfl) (by decide) ?_
      refine run_sto (hO_stw G8.h0) ?_
      refine zv (vI 6) ?_
      refine wS ?_
      have hnr:riseK l = false:=by
       cases hr:riseK l with
       | false => rfl
       | true =>
        have:=(riseK_iff l).1 hr (q - 1) x y hx (by rw [show q - 1 + 1 = q by omega]; exact hy)
        rw [this] at hm; cases hm
      rw [if_pos hnr] at eE
      exact .inr ⟨rfl,endx (.inr rfl) (gs:=[.agg [vI 0,gN0],vI 6]) (res_cell2 (a:=2) (b:=3) rfl (ldz _) rfl) ⟨by omega,fun k hk => by rw [sget_ne (by omega)]; exact G8.hk k hk,0,gN0,by rw [eE]; rfl,fun h0 => absurd (eE ▸ h0) (by decide)⟩⟩
     ·
      refine wS ?_
      refine zv (vI (q:Int)) ?_
      refine run_v (g:=vI ((q + 1:Nat):Int)) (Eq.trans (by kernel_rfl) (congrArg some (show G.lit (.int .i64 (IntKind.i64.wrap ((q:Int) + 1))) = _ by rw [w64 (by omega)]; rfl))) (by decide) ?_
      refine zv (vI ((q + 1:Nat):Int)) ?_
      refine wS ?_
      refine ⟨l.length - (q + 1),_,by omega,le_frs (fr':=[(2,.ref c 0),(5,.ref (c + 2) 0),(12,vI ((q + 1:Nat):Int))]) (by repeat' (first|exact ⟨⟩|refine ⟨rfl,?_⟩)),q + 1,rfl,rfl,by omega,by omega,fun i a b hi ha hb => ?_⟩
      by_cases hiq:i + 1 = q
      ·rw [hiq] at hb
       rw [show q - 1 = i by omega,ha] at hx
       rw [hb] at hy
       cases hx; cases hy
       simpa using hm
      ·exact hall2 i a b (by omega) ha hb
    ·refine wS ?_
     refine .inl ⟨rfl,_,rfl,(by repeat' (first|exact ⟨⟩|refine ⟨rfl,?_⟩)),?_⟩
     rw [riseK_iff]
     intro i a b ha hb
     have:=(List.getElem?_eq_some_iff.1 hb).1
     exact hall2 i a b (by omega) ha hb
   rintro s ⟨fr',rfl,hfr,hrise⟩
   refine Ex.le ?_ (le_frs hfr)
   rw [if_neg (by rw [hrise]; decide)] at eE
   refine wS ?_
   refine run_ld rfl lh8 (by decide) ?_
   refine run_sto (hO_stw G8.h0) ?_
   refine zv (vI 0) ?_
   refine wS ?_
   refine endx (.inr rfl) (gs:=[.agg [vI d,g8],vI 0]) (res_cell2 (a:=2) (b:=3) rfl (hO_ld (sget_eq rfl)).2.2 rfl) ⟨by omega,fun k hk => by rw [sget_ne (by omega)]; exact G8.hk k hk,d,g8,by rw [eE]; rfl,fun _ => ⟨hdd.symm,r8,?_,fun z hz => by have:=G8.hq z hz; omega⟩⟩
   rw [← el]
   exact rowA_more G8.hr fun z hz => by rw [sget_ne (by have:=G8.hq z hz; omega)]
end
end Go.Proofs.YtpehhhbmobmedaaGreatDoor
