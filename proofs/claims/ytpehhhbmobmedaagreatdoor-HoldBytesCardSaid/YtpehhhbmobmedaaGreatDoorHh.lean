/- hold.Put: walked. -/
import Derived.Test.YtpehhhbmobmedaaGreatDoorHo
import Derived.Test.YtpehhhbmobmedaaGreatDoorMY
namespace Go.Proofs.YtpehhhbmobmedaaGreatDoor
set_option linter.unusedVariables false
set_option linter.unusedSimpArgs false
set_option linter.unusedSectionVars false
section
open Go.RowKit
attribute [local irreducible] Tr Run RunD GS TG Le Wk Frz Fn' ImmG Flat WkFr WkSt EndM Ex EndX McK FnM gNm
structure PW (σ σ1:Sto) (c c1:Nat) (l:List UInt8) (r:Option Nat):Prop where
 ho:OutAt σ1 c r l
 hr:∀ k,r = some k → c < k ∧ k < c1
 hc:c < c1
 hk:∀ k,k < c → sget σ1 k = sget σ k
theorem PW.of {gl:List (Nat × List G)} {f:FuncId} {gs:List G} {σ σ1:Sto} {c c1:Nat} {l m:List UInt8} {r:Option Nat} (h:PW σ σ1 c c1 l r) (hM:Mc Tryz.prog gl f gs σ1 c1 (fun v σ' c' => Wrote σ1 σ' c1 c' c r l m v)) :
  ∃ σ2 c2 j,PW σ σ2 c c2 (l ++ m) (some j) ∧ c1 ≤ j ∧ c1 ≤ c2 ∧ (∀ k,k < c1 → k ≠ c → r ≠ some k → sget σ2 k = sget σ1 k) ∧ McK Tryz.prog gl f gs σ1 c1 (.tup []) σ2 c2:=by
 obtain ⟨v,σ2,c2,⟨rfl,h2,j,h3,h4,h5,h6⟩,hM⟩:=hM
 have hc:=h.hc
 exact ⟨σ2,c2,j,⟨h5,fun k hk => by cases hk; omega,by omega,fun k hk => (h6 k (by omega) (by omega) (fun e => by have:=h.hr k e; omega)).trans (h.hk k hk)⟩,h3,h2,h6,hM⟩
theorem PW.more {σ σ1 σ2:Sto} {c c1 c2:Nat} {l:List UInt8} {r:Option Nat} (h:PW σ σ1 c c1 l r) (hc:c1 ≤ c2) (hk:∀ k,k < c1 → sget σ2 k = sget σ1 k):PW σ σ2 c c2 l r:=by
 have hc1:=h.hc
 exact ⟨h.ho.more (hk _ hc1) (fun k e => hk k (h.hr k e).2),fun k e => by have:=h.hr k e; omega,by omega,fun k hk' => (hk k (by omega)).trans (h.hk k hk')⟩
theorem look_mem {kp:List (Nm × Nat)} {x:Nm} (h:(lookM kp x).isSome = true):x ∈ kp.map (·.1):=by
 unfold lookM at h
 cases ha:atN x (kp.map (·.1)) with
 | none => rw [ha] at h; cases h
 | some j => exact List.mem_of_getElem? (atN_some ha)
theorem sliceN1 (q n:Nat) (hn:0 < n):gsliceOf Tryz.prog 106 (.rsl q 0 n) (some (some 1)) (some none) = some (.rsl q (1 * 4) (n - 1)):=by
 simp only [gsliceOf,Option.bind_some,gslice]
 rw [show telem Tryz.prog 106 = some 92 by kernel_rfl]
 simp only [Option.bind_some]
 rw [show tsize Tryz.prog 92 = some 4 by kernel_rfl]
 simp only [Option.bind_some]
 rw [if_neg (by decide),if_pos (by omega)]
 simp
set_option maxHeartbeats 4000000 in
theorem put_mc (gl:List (Nat × List G)) {i m:Nat} {d:Int} {kp:List (Nm × Nat)} {σ:Sto} (c:Nat) (h:HoldAt σ i m d kp) (hi:i < c) (hm:m < c) (srt:List Nm) (hsp:(kp.map (·.1)).Perm srt) (hss:srt.Pairwise fun a b => ltN a b) (hsb:∀ m ∈ srt,SmallN m) (hk:kp.length < 100000) (hd:Is64 d) (hw:∀ x ∈ srt,WfN x) (hp:∀ x,(lookM kp x).getD 0 < 18446744073709551616) :
  Mc Tryz.prog gl 14 [.ref i 0] σ c (fun v σ' c' => ∃ j,v = .rsl j 0 (putB d kp srt).length ∧ sget σ' j = some ⟨5,(putB d kp srt).map gY,none⟩ ∧ c ≤ j ∧ j < c' ∧ ∀ k,k < c → sget σ' k = sget σ k):=by
 have hsl:srt.length < 100000:=by rw [← hsp.length_eq]; simpa using hk
 have him:=h.ne
 obtain ⟨b,hb⟩:∃ b,b = (lookM kp .zero).isSome:=⟨_,rfl⟩
 obtain ⟨ld,hld⟩:∃ ld,ld = (lookM kp .zero).getD 0:=⟨_,rfl⟩
 have hldb:=hp .zero
 rw [← hld] at hldb
 have hdl:=nb_len64 (zig_lt hd)
 have hll:=nb_len64 hldb
 -- the writer, then the device and the lead's sign
 obtain ⟨σ0,e0⟩:∃ σ0:Sto,σ0 = (c,some ⟨111,[.lit (.slice none 0 0)],none⟩) :: σ:=⟨_,rfl⟩
 have g0:∀ k,k < c → sget σ0 k = sget σ k:=fun k hk => by rw [e0,sget_ne (by omega)]
 have p0:PW σ σ0 c (c + 1) [] none:=⟨⟨by rw [e0]; exact sget_eq rfl,rfl⟩,fun k hk => (by cases hk),by omega,g0⟩
 have h0:HoldAt σ0 i m d kp:=h.of (g0 i hi) (g0 m hm)
 obtain ⟨l0,_⟩:=hold_ld h0.i
 obtain ⟨σ1,c1,j1,p1,q1,r1,k1,hM1⟩:=p0.of (int_mc gl c none [] d σ0 (c + 1) hd p0.ho p0.hc (fun k e => by cases e) (by simp))
 have h1:HoldAt σ1 i m d kp:=h.of (p1.hk i hi) (p1.hk m hm)
 obtain ⟨_,l1⟩:=hold_ld h1.i
 have hc1:=p1.hc
 obtain ⟨σ2,c2,j2,p2,q2,r2,k2,hM2⟩:=p1.of (outBool_mc gl c (some j1) _ b σ1 c1 p1.ho p1.hc (fun k e => (p1.hr k e).2) (by simp; omega))
 have h2:HoldAt σ2 i m d kp:=h.of (p2.hk i hi) (p2.hk m hm)
 have hc2:=p2.hc
 have hN:=names_mc gl c2 h2 (by omega) (by omega) srt hsp hss hsb hk
 obtain ⟨σ3,e3⟩:∃ σ3:Sto,σ3 = (c2 + 1,some (rowN srt)) :: (c2,none) :: σ2:=⟨_,rfl⟩
 rw [← e3] at hN
 have p3:PW σ σ3 c (c2 + 2) _ (some j2):=p2.more (by omega) (fun k hk => by rw [e3,sget_ne (by omega),sget_ne (by omega)])
 have hrow:sget σ3 (c2 + 1) = some (rowN srt):=by rw [e3]; exact sget_eq rfl
 refine mc_enter (by kernel_rfl) Tryz.func14 rfl (by simp [Tryz.ntmps14]) ?_
 simp only [enterFr,Tryz.ntmps14]
 refine wS ?_
 refine zv (.lit (.slice none 0 0)) ?_
 refine wS ?_
 refine run_alloc (l:=[.lit (.slice none 0 0)]) (by kernel_rfl) (by decide) ?_
 rw [← e0]
 refine wS ?_
 refine zv (.ref i 0) ?_
 refine zv (.ref i 0) ?_
 refine zv (.ref i 0) ?_
 refine zt (vI d) l0 ?_
 refine run_m hM1 [] [] (by kernel_rfl) (by kernel_rfl) (by decide) ?_
 refine wS ?_
 refine zv (.ref i 0) ?_
 refine zv (.ref i 0) ?_
 refine zv (.ref i 1) ?_
 refine zt (.mref m) l1 ?_
 refine run_build (g:=gNm .zero) (by kernel_rfl) (by decide) ?_
 refine run_lk rfl rfl (lookN2 h1.m .zero) (by decide) ?_
 refine run_v (g:=.tup [vU ld,vB b]) (by rw [hld,hb]; kernel_rfl) (by decide) ?_
 refine zv (vU ld) ?_
 refine zv (vB b) ?_
 refine zv (vU ld) ?_
 refine zv (vB b) ?_
 refine wS ?_
 refine zv (vB b) ?_
 refine run_m hM2 [] [] (by kernel_rfl) (by kernel_rfl) (by decide) ?_
 refine wS ?_
 refine zv (.ref i 0) ?_
 refine run_m hN [] [] (by kernel_rfl) (by kernel_rfl) (by decide) ?_
 refine zv (.rsl (c2 + 1) 0 srt.length) ?_
 refine wS ?_
 refine zv (vB b) ?_
 refine wS ?_
 have hz:b = true → 0 < srt.length:=fun hbt => by
  have:=hsp.mem_iff.1 (look_mem (hb ▸ hbt))
  exact List.length_pos_of_mem this
 obtain ⟨k0,hk0⟩:∃ k0,k0 = if b then 1 else 0:=⟨_,rfl⟩
 have hk0l:k0 ≤ srt.length:=by
  rw [hk0]; split
  ·rename_i hbt; have:=hz hbt; omega
  ·omega
 obtain ⟨hd3,ehd3⟩:∃ x,x = (([] ++ nb (zig d)) ++ nb (if b then 2 else 0)) ++ (if b then nb ld else []):=⟨_,rfl⟩
 have hd3l:hd3.length ≤ 30:=by
  have h2:=nb_len64 (k:=2) (by omega)
  have h0:=nb_len64 (k:=0) (by omega)
  rw [ehd3]
  simp only [List.length_append,List.length_nil]
  cases b <;> simp <;> omega
 refine ex_thn (K:=fun s => ∃ fr' σ4 c4 j4,s = ⟨56,gl,fr',σ4,c4,c,false⟩ ∧ FrOk fr' [(0,.ref i 0),(3,.ref c 0),(6,.rsl (c2 + 1) (k0 * 4) (srt.length - k0))] ∧ PW σ σ4 c c4 hd3 (some j4) ∧ j4 ≠ c2 + 1 ∧ c2 + 1 < c4 ∧ sget σ4 (c2 + 1) = some (rowN srt)) ?_ ?_
 ·refine ex_condB (t:=b) rfl (fun hbt => ?_) (fun hbt => ?_)
  ·obtain ⟨σ4,c4,j4,p4,q4,r4,k4,hM4⟩:=p3.of (num_mc gl c (some j2) _ ld σ3 (c2 + 2) hldb p3.ho p3.hc (fun k e => (p3.hr k e).2) (by
    have:=nb_len64 (k:=if b then 2 else 0) (by split <;> omega)
    simp only [List.length_append,List.length_nil]
    omega))
   refine wS ?_
   refine zv (vU ld) ?_
   refine run_m hM4 [] [] (by kernel_rfl) (by kernel_rfl) (by decide) ?_
   refine wS ?_
   have hz1:=hz hbt
   have ek:k0 = 1:=by rw [hk0,if_pos hbt]
   refine zv (.rsl (c2 + 1) 0 srt.length) ?_
   refine run_v (g:=.rsl (c2 + 1) (1 * 4) (srt.length - 1)) (Eq.trans (ev_slice_rsl rfl) (sliceN1 (c2 + 1) srt.length hz1)) (by decide) ?_
   refine zv (.rsl (c2 + 1) (1 * 4) (srt.length - 1)) ?_
   refine wS ?_
   refine ⟨rfl,_,σ4,c4,j4,rfl,?_,?_,?_,by omega,?_⟩
   ·rw [ek]; exact (by repeat' (first|exact ⟨⟩|refine ⟨rfl,?_⟩))
   ·rw [ehd3]; simp only [hbt,if_true] at p4 ⊢; exact p4
   ·omega
   ·have hj2:=p2.hr j2 rfl
    rw [k4 (c2 + 1) (by omega) (by omega) (fun e => by cases e; omega)]; exact hrow
  ·
   refine wS ?_
   have ek:k0 = 0:=by rw [hk0,hbt]; rfl
   have hj2:=p2.hr j2 rfl
   refine ⟨rfl,_,σ3,c2 + 2,j2,rfl,?_,?_,?_,by omega,hrow⟩
   ·rw [ek]; exact (by repeat' (first|exact ⟨⟩|refine ⟨rfl,?_⟩))
   ·rw [ehd3,hbt]
    simp only [Bool.false_eq_true,if_false,List.append_nil]
    rw [hbt] at p3
    simpa using p3
   ·omega
 rintro s ⟨fr',σ4,c4,j4,rfl,hfr,p4,hj4,hn4,hrow4⟩
 refine Ex.le ?_ (le_frs hfr)
 obtain ⟨oth,eoth⟩:∃ oth,oth = srt.drop k0:=⟨_,rfl⟩
 have hol:oth.length = srt.length - k0:=by rw [eoth,List.length_drop]
 rw [← hol]
 refine wS ?_
 obtain ⟨σ5,c5,j5,p5,q5,r5,k5,hM5⟩:=p4.of (int_mc gl c (some j4) _ (oth.length:Int) σ4 c4 (by unfold Is64; omega) p4.ho p4.hc (fun k e => (p4.hr k e).2) (by omega))
 have hrow5:sget σ5 (c2 + 1) = some (rowN srt):=by
  have:=p1.hc
  rw [k5 (c2 + 1) (by omega) (by omega) (fun e => by cases e; omega)]; exact hrow4
 refine zv (.rsl (c2 + 1) (k0 * 4) oth.length) ?_
 refine zv (vI oth.length) ?_
 refine run_m hM5 [] [] (by kernel_rfl) (by kernel_rfl) (by decide) ?_
 refine wS ?_
 refine zv (.rsl (c2 + 1) (k0 * 4) oth.length) ?_
 refine zv (vI oth.length) ?_
 refine zv (vI ((0:Nat):Int)) ?_
 refine wS ?_
 obtain ⟨hB,ehB⟩:∃ x,x = hd3 ++ nb (zig oth.length):=⟨_,rfl⟩
 have hBl:hB.length ≤ 40:=by
  have:=nb_len64 (zig_lt (n:=(oth.length:Int)) (by unfold Is64 at *; omega))
  rw [ehB,List.length_append]; omega
 have hB':headB d kp srt = hB:=by
  unfold headB
  rw [ehB,ehd3,eoth,← hb,← hld]
  have:othersN kp srt = srt.drop k0:=by
   unfold othersN
   rw [← hb,hk0]
   cases b <;> simp
  rw [this]
  simp only [List.append_assoc,List.nil_append]
 have hO':othersN kp srt = oth:=by
  unfold othersN
  rw [← hb,eoth,hk0]
  cases b <;> simp
 have hfl:∀ q,((oth.take q).flatMap (nmB kp)).length ≤ 5000000:=fun q => by
  have h1:=flat_len (f:=nmB kp) (m:=50) (oth.take q) (fun x hx => nmB_len (hw x (List.mem_of_mem_drop (eoth ▸ List.mem_of_mem_take hx))) (hp x))
  have h2:(oth.take q).length ≤ 100000:=by rw [List.length_take]; omega
  have h3:=Nat.mul_le_mul_right 50 h2
  omega
 rw [← ehB] at p5
 refine ex_loop (fun t s => ∃ (q:Nat) (σ6:Sto) (c6 j6:Nat),s = ⟨56,gl,[(0,.ref i 0),(3,.ref c 0),(35,.rsl (c2 + 1) (k0 * 4) oth.length),(36,vI oth.length),(37,vI (q:Int))],σ6,c6,c,false⟩ ∧ t = oth.length - q ∧ q ≤ oth.length ∧ PW σ σ6 c c6 (hB ++ (oth.take q).flatMap (nmB kp)) (some j6) ∧ j6 ≠ c2 + 1 ∧ c2 + 1 < c6 ∧ sget σ6 (c2 + 1) = some (rowN srt)) oth.length (le_frs (fr':=[(0,.ref i 0),(3,.ref c 0),(35,.rsl (c2 + 1) (k0 * 4) oth.length),(36,vI oth.length),(37,vI ((0:Nat):Int))]) (by repeat' (first|exact ⟨⟩|refine ⟨rfl,?_⟩))) ⟨0,σ5,c5,j5,rfl,rfl,by omega,by simpa using p5,by omega,by omega,hrow5⟩ ?_
 rintro t s ⟨q,σ6,c6,j6,rfl,rfl,hq,p6,hj6,hn6,hrow6⟩
 refine wS ?_
 refine run_bin rfl rfl (ltI (a:=(q:Int)) (b:=oth.length)) (by decide) ?_
 refine wS ?_
 refine ex_condP (p:=(q:Int) < oth.length) rfl (fun hlt => ?_) (fun hlt => ?_)
 ·obtain ⟨x,hx⟩:∃ x,oth[q]? = some x:=⟨_,List.getElem?_eq_getElem (by omega)⟩
  have hxs:srt[k0 + q]? = some x:=by rw [← hx,eoth,List.getElem?_drop]
  have hwx:=hw x (List.mem_of_getElem? hxs)
  have hix:gindex Tryz.prog 106 (.rsl (c2 + 1) (k0 * 4) oth.length) (q:Int) = some (.ref (c2 + 1) ((k0 + q) * 4)):=by
   simp only [gindex]
   rw [show telem Tryz.prog 106 = some 92 by kernel_rfl,show tarr Tryz.prog 106 = none by kernel_rfl]
   simp only []
   rw [show tsize Tryz.prog 92 = some 4 by kernel_rfl]
   simp only [Option.bind_some]
   rw [if_pos (by omega),Nat.add_mul]
   simp
  have hldn:gload Tryz.prog σ6 92 (.ref (c2 + 1) ((k0 + q) * 4)) = some (gNm x):=by
   rw [gNm_c]
   exact rowA_ld (P:=Tryz.prog) (e:=92) len_cN (by kernel_rfl) (by kernel_rfl) hrow6 hxs
  have hc6:=p6.hc
  have hlen6:(hB ++ (oth.take q).flatMap (nmB kp)).length ≤ 5000040:=by
   have:=hfl q
   rw [List.length_append]; omega
  obtain ⟨σ7,e7⟩:∃ σ7:Sto,σ7 = (c6,some (⟨92,cN x,none⟩:Ob)) :: (c6,some ⟨92,cN .zero,none⟩) :: σ6:=⟨_,rfl⟩
  have p7:PW σ σ7 c (c6 + 1) _ (some j6):=p6.more (by omega) (fun k hk => by rw [e7,sget_ne (by omega),sget_ne (by omega)])
  have t7:sget σ7 c6 = some ⟨92,cN x,none⟩:=by rw [e7]; exact sget_eq rfl
  have w7:sget σ7 (c2 + 1) = some (rowN srt):=by rw [e7,sget_ne (by omega),sget_ne (by omega)]; exact hrow6
  have hj6b:=p6.hr j6 rfl
  obtain ⟨σ8,c8,j8,p8,q8,r8,k8,hM8⟩:=p7.of (ident_mc gl c (some j6) _ x.i.a x.i.b x.i.c σ7 (c6 + 1) hwx.a hwx.b hwx.c p7.ho p7.hc (fun k e => (p7.hr k e).2) (by omega))
  have t8:sget σ8 c6 = some ⟨92,cN x,none⟩:=by rw [k8 c6 (by omega) (by omega) (fun e => by cases e; omega)]; exact t7
  have w8:sget σ8 (c2 + 1) = some (rowN srt):=by rw [k8 (c2 + 1) (by omega) (by omega) (fun e => by cases e; omega)]; exact w7
  have hi8:=nb_len64 (zig_lt hwx.a)
  have hi9:=nb_len64 (zig_lt hwx.b)
  have hi10:=nb_len64 hwx.c
  have hi11:=nb_len64 (zig_lt hwx.n)
  have hidl:(idB x.i.a x.i.b x.i.c).length ≤ 30:=by unfold idB; simp only [List.length_append]; omega
  obtain ⟨σ9,c9,j9,p9,q9,r9,k9,hM9⟩:=p8.of (int_mc gl c (some j8) _ x.n σ8 c8 hwx.n p8.ho p8.hc (fun k e => (p8.hr k e).2) (by rw [List.length_append]; omega))
  have hj8b:=p8.hr j8 rfl
  have t9:sget σ9 c6 = some ⟨92,cN x,none⟩:=by rw [k9 c6 (by omega) (by omega) (fun e => by cases e; omega)]; exact t8
  have w9:sget σ9 (c2 + 1) = some (rowN srt):=by rw [k9 (c2 + 1) (by omega) (by omega) (fun e => by cases e; omega)]; exact w8
  have h9:HoldAt σ9 i m d kp:=h.of (p9.hk i hi) (p9.hk m hm)
  obtain ⟨_,l9⟩:=hold_ld h9.i
  obtain ⟨σa,ca,ja,pa,qa,ra,ka,hMa⟩:=p9.of (num_mc gl c (some j9) _ ((lookM kp x).getD 0) σ9 c9 (hp x) p9.ho p9.hc (fun k e => (p9.hr k e).2) (by rw [List.length_append,List.length_append]; omega))
  have hj9b:=p9.hr j9 rfl
  have wa:sget σa (c2 + 1) = some (rowN srt):=by rw [ka (c2 + 1) (by omega) (by omega) (fun e => by cases e; omega)]; exact w9
  obtain ⟨_,n8,_⟩:=nm_ld t7
  obtain ⟨_,_,n9,_⟩:=nm_ld t8
  obtain ⟨na,_⟩:=nm_ld t9
  refine wS ?_
  refine run_v (g:=.ref (c2 + 1) ((k0 + q) * 4)) (Eq.trans (by kernel_rfl) hix) (by decide) ?_
  refine run_ld rfl hldn (by decide) ?_
  refine run_alloc (l:=cN .zero) (by kernel_rfl) (by decide) ?_
  refine run_sto (nm_st (q:=.zero) (sget_eq rfl)) ?_
  rw [← e7]
  refine wS ?_
  refine zv (.ref c6 0) ?_
  refine run_ld rfl n8 (by decide) ?_
  refine run_m hM8 [] [] (by kernel_rfl) (by kernel_rfl) (by decide) ?_
  refine wS ?_
  refine zv (.ref c6 3) ?_
  refine run_ld rfl n9 (by decide) ?_
  refine run_m hM9 [] [] (by kernel_rfl) (by kernel_rfl) (by decide) ?_
  refine wN ?_
  refine ex_region_draw (bars:=[6]) mixed (by kernel_rfl) ?_
  refine zd (.ref i 0) ?_
  refine zd (.ref i 0) ?_
  refine zd (.ref i 1) ?_
  refine rund_v (g:=.mref m) (Eq.trans (by kernel_rfl) (l9)) (by decide) ?_
  refine rund_ld rfl na (by decide) ?_
  refine rund_lk rfl rfl (lookN h9.m x) (by decide) ?_
  refine rund_m rfl hMa [] [] (by kernel_rfl) (by kernel_rfl) (by decide) ?_
  apply rund_nil
  refine wS ?_
  refine run_v (g:=vI ((q + 1:Nat):Int)) (Eq.trans (by kernel_rfl) (congrArg some (show G.lit (.int .i64 (IntKind.i64.wrap ((q:Int) + 1))) = _ by rw [w64 (by omega)]; rfl))) (by decide) ?_
  refine zv (vI ((q + 1:Nat):Int)) ?_
  refine wS ?_
  have htk:oth.take (q + 1) = oth.take q ++ [x]:=by rw [List.take_add_one,hx]; rfl
  have ebs:hB ++ (oth.take (q + 1)).flatMap (nmB kp) = hB ++ (oth.take q).flatMap (nmB kp) ++ idB x.i.a x.i.b x.i.c ++ nb (zig x.n) ++ nb ((lookM kp x).getD 0):=by
   rw [htk,List.flatMap_append]
   simp [nmB]
  refine ⟨oth.length - (q + 1),_,by omega,le_frs (fr':=[(0,.ref i 0),(3,.ref c 0),(35,.rsl (c2 + 1) (k0 * 4) oth.length),(36,vI oth.length),(37,vI ((q + 1:Nat):Int))]) (by repeat' (first|exact ⟨⟩|refine ⟨rfl,?_⟩)),q + 1,_,_,ja,rfl,rfl,by omega,by rw [ebs]; exact pa,by omega,by omega,wa⟩
 ·
  refine wS ?_
  rw [List.take_of_length_le (by omega)] at p6
  have hfo:=hfl oth.length
  rw [List.take_of_length_le (Nat.le_refl _)] at hfo
  have hMz:=outBytes_mc gl c j6 _ σ6 c6 p6.ho (by rw [List.length_append]; omega)
  refine run_m hMz [] [] (by kernel_rfl) (by kernel_rfl) (by decide) ?_
  refine zv (.rsl c6 0 (hB ++ oth.flatMap (nmB kp)).length) ?_
  refine wS ?_
  have hc6:=p6.hc
  refine endx (.inr rfl) (gs:=[.rsl c6 0 (hB ++ oth.flatMap (nmB kp)).length]) (by kernel_rfl) ⟨c6,?_,?_,by omega,by omega,fun k hk => ?_⟩
  ·unfold putB; rw [hB',hO']; rfl
  ·unfold putB; rw [hB',hO']; exact sget_eq rfl
  ·rw [sget_ne (by omega)]; exact p6.hk k hk
end
section
open Go.RowKit
attribute [local irreducible] Tr Run RunD GS TG Le Wk Frz Fn' ImmG Flat WkFr WkSt EndM Ex EndX McK FnM gNm
structure GA (σ σ1:Sto) (c c1:Nat) (L:List UInt8) (a:Nat) (e d:Int) (kp:List (Nm × Nat)) (rt:Bool):Prop where
 hI:InAt σ1 (c + 1) c L a e
 h2:sget σ1 (c + 2) = some ⟨85,[.ref (c + 1) 0],none⟩
 h3:sget σ1 (c + 3) = some (mapN kp)
 h4:sget σ1 (c + 4) = some (holdO d (c + 3))
 h5:sget σ1 (c + 5) = some ⟨33,[.ref (c + 4) 0],none⟩
 h6:sget σ1 (c + 6) = some ⟨4,[vB rt],none⟩
 hc:c + 6 < c1
 hk:∀ k,k < c → sget σ1 k = sget σ k
theorem GA.more {σ σ1 σ2:Sto} {c c1 c2:Nat} {L:List UInt8} {a:Nat} {e d:Int} {kp:List (Nm × Nat)} {rt:Bool} (h:GA σ σ1 c c1 L a e d kp rt) (hc:c1 ≤ c2) (hs:∀ k,k < c1 → sget σ2 k = sget σ1 k):GA σ σ2 c c2 L a e d kp rt:=by
 have:=h.hc
 exact ⟨h.hI.of (hs _ (by omega)) (hs _ (by omega)),(hs _ (by omega)).trans h.h2,(hs _ (by omega)).trans h.h3,(hs _ (by omega)).trans h.h4,(hs _ (by omega)).trans h.h5,(hs _ (by omega)).trans h.h6,by omega,fun k hk => (hs k (by omega)).trans (h.hk k hk)⟩
theorem cell_in {σ:Sto} {k i:Nat} (h:sget σ k = some ⟨85,[.ref i 0],none⟩):gload Tryz.prog σ 85 (.ref k 0) = some (.ref i 0):=by
 simp only [gload,h]; kernel_rfl
theorem cell_ho {σ:Sto} {k i:Nat} (h:sget σ k = some ⟨33,[.ref i 0],none⟩):gload Tryz.prog σ 33 (.ref k 0) = some (.ref i 0):=by
 simp only [gload,h]; kernel_rfl
theorem cell_b {σ:Sto} {k:Nat} {b:Bool} (h:sget σ k = some ⟨4,[vB b],none⟩):gload Tryz.prog σ 4 (.ref k 0) = some (vB b):=by
 simp only [gload,h]; kernel_rfl
theorem st_b {σ:Sto} {k:Nat} {x:G} {b:Bool} (h:sget σ k = some ⟨4,[x],none⟩):gsto Tryz.prog σ 4 (.ref k 0) (vB b) = some (k,⟨4,[vB b],none⟩):=by
 simp only [gsto,h]; kernel_rfl
def okK (p:Nat):Bool:=decide (1 ≤ p ∧ p ≤ 2305843009213693949)
set_option maxHeartbeats 2000000 in
theorem priv_mc (gl:List (Nat × List G)) {σ σ1:Sto} {c c1:Nat} {L:List UInt8} {a:Nat} {e d:Int} {kp:List (Nm × Nat)} {rt:Bool} (h:GA σ σ1 c c1 L a e d kp rt) (x:Nm) :
  ∃ σ2 a2 e2,curOf L a2 e2 = (cNum (curOf L a e)).2 ∧ GA σ σ2 c (c1 + 1) L a2 e2 d (putM kp x (cNum (curOf L a e)).1) (rt && okK (cNum (curOf L a e)).1) ∧ (∀ k,k < c1 → k ≠ c + 1 → k ≠ c + 3 → k ≠ c + 6 → sget σ2 k = sget σ1 k) ∧
   McK Tryz.prog gl 32 [gNm x,.ref (c + 2) 0,.ref (c + 6) 0,.ref (c + 5) 0] σ1 c1 (.tup []) σ2 (c1 + 1):=by
 suffices hM:Mc Tryz.prog gl 32 [gNm x,.ref (c + 2) 0,.ref (c + 6) 0,.ref (c + 5) 0] σ1 c1 (fun v σ2 c' => v = .tup [] ∧ c' = c1 + 1 ∧ ∃ a2 e2,curOf L a2 e2 = (cNum (curOf L a e)).2 ∧ GA σ σ2 c (c1 + 1) L a2 e2 d (putM kp x (cNum (curOf L a e)).1) (rt && okK (cNum (curOf L a e)).1) ∧ (∀ k,k < c1 → k ≠ c + 1 → k ≠ c + 3 → k ≠ c + 6 → sget σ2 k = sget σ1 k)) by
  obtain ⟨v,σ',c',⟨rfl,rfl,a2,e2,h1,h2,h3⟩,hM⟩:=hM
  exact ⟨σ',a2,e2,h1,h2,h3,hM⟩
 have hc:=h.hc
 have ha:=h.more (σ2:=(c1,some ⟨92,cN x,none⟩) :: σ1) (c2:=c1 + 1) (by omega) (fun k hk => sget_ne (by omega))
 obtain ⟨a2,e2,p1,p2,hM1⟩:=num_rd gl (c1 + 1) ha.hI
 generalize cNum (curOf L a e) = q at *
 obtain ⟨u,s⟩:=q
 dsimp only at *
 have l1:=cell_in ha.h2
 refine mc_enter (by kernel_rfl) Tryz.func32 rfl (by simp [Tryz.ntmps32]) ?_
 simp only [enterFr,Tryz.ntmps32]
 refine wS ?_
 refine run_box (gNm_box x) (by decide) ?_
 refine wS ?_
 refine zt (.ref (c + 1) 0) l1 ?_
 refine run_m hM1 [] [] (by kernel_rfl) (by kernel_rfl) (by decide) ?_
 refine zv (vU u) ?_
 refine wN ?_
 have hb:sget ((c + 1,some (inO c L.length a2 e2)) :: (c1,some ⟨92,cN x,none⟩) :: σ1) (c + 6) = some ⟨4,[vB rt],none⟩:=by rw [sget_ne (by omega)]; exact ha.h6
 have l2:=cell_b hb
 refine ex_region_k (fun s => ∃ fr',s = ⟨23,gl,fr',(c + 6,some ⟨4,[vB (rt && okK u)],none⟩) :: (c + 1,some (inO c L.length a2 e2)) :: (c1,some ⟨92,cN x,none⟩) :: σ1,c1 + 1,c1,false⟩ ∧ FrOk fr' [(3,.ref (c + 5) 0),(4,.ref c1 0),(5,vU u)]) ?_ ?_
 ·
  refine zt (vB rt) l2 ?_
  cases rt with
  | false =>
   refine zv (vB false) ?_
   refine zn ?_
   refine zn ?_
   refine zv (vB false) ?_
   refine zv (vB false) ?_
   refine zn ?_
   refine zn ?_
   refine zv (vB false) ?_
   refine run_sto (st_b (b:=false) hb) ?_
   exact run_nil ⟨_,rfl,rfl,rfl,rfl,trivial⟩
  | true =>
   refine zv (vB true) ?_
   refine zg (vU u) ?_
   refine ged_bin (by kernel_rfl) rfl rfl (geU (a:=u) (b:=1)) (by decide) ?_
   by_cases c1':1 ≤ u
   ·rw [decide_eq_true c1']
    refine zv (vB true) ?_
    refine zv (vB true) ?_
    refine zg (vU u) ?_
    refine ged_bin (by kernel_rfl) rfl rfl (leU (a:=u) (b:=2305843009213693949)) (by decide) ?_
    by_cases c2':u ≤ 2305843009213693949
    ·rw [decide_eq_true c2']
     refine zv (vB true) ?_
     rw [show (true && okK u) = true from decide_eq_true ⟨c1',c2'⟩]
     refine run_sto (st_b (b:=true) hb) ?_
     exact run_nil ⟨_,rfl,rfl,rfl,rfl,trivial⟩
    ·rw [decide_eq_false c2']
     rw [show (true && okK u) = false from decide_eq_false fun h => c2' h.2]
     refine zv (vB false) ?_
     refine run_sto (st_b (b:=false) hb) ?_
     exact run_nil ⟨_,rfl,rfl,rfl,rfl,trivial⟩
   ·rw [decide_eq_false c1']
    rw [show (true && okK u) = false from decide_eq_false fun h => c1' h.1]
    refine zv (vB false) ?_
    refine zv (vB false) ?_
    refine zn ?_
    refine zn ?_
    refine zv (vB false) ?_
    refine run_sto (st_b (b:=false) hb) ?_
    exact run_nil ⟨_,rfl,rfl,rfl,rfl,trivial⟩
 ·rintro s' ⟨fr',rfl,hfr⟩
  apply thn_n
  refine Ex.le ?_ (le_frs hfr)
  generalize (rt && okK u) = rt'
  obtain ⟨σc,ec⟩:∃ σc:Sto,σc = (c + 6,some ⟨4,[vB rt'],none⟩) :: (c + 1,some (inO c L.length a2 e2)) :: (c1,some ⟨92,cN x,none⟩) :: σ1:=⟨_,rfl⟩
  rw [← ec]
  have kc:∀ k,k < c1 → k ≠ c + 1 → k ≠ c + 6 → sget σc k = sget σ1 k:=fun k k1 k2 k3 => by rw [ec,sget_ne (by omega),sget_ne (by omega),sget_ne (by omega)]
  have i1:sget σc (c + 1) = some (inO c L.length a2 e2):=by rw [ec,sget_ne (by omega),sget_eq rfl]
  have i6:sget σc (c + 6) = some ⟨4,[vB rt'],none⟩:=by rw [ec,sget_eq rfl]
  have in':sget σc c1 = some ⟨92,cN x,none⟩:=by rw [ec,sget_ne (by omega),sget_ne (by omega),sget_eq rfl]
  have i5:=(kc (c + 5) (by omega) (by omega) (by omega)).trans h.h5
  have i4:=(kc (c + 4) (by omega) (by omega) (by omega)).trans h.h4
  have i3:=(kc (c + 3) (by omega) (by omega) (by omega)).trans h.h3
  have m5:=cell_ho i5
  obtain ⟨_,m4⟩:=hold_ld i4
  obtain ⟨mn,_⟩:=nm_ld in'
  refine ex_region_draw (bars:=[6]) mixed (by kernel_rfl) ?_
  refine rund_v (g:=.ref (c + 4) 0) (Eq.trans (by kernel_rfl) (m5)) (by decide) ?_
  refine zd (.ref (c + 4) 0) ?_
  refine zd (.ref (c + 4) 1) ?_
  refine rund_v (g:=.mref (c + 3)) (Eq.trans (by kernel_rfl) (m4)) (by decide) ?_
  refine rund_ld rfl mn (by decide) ?_
  refine zd (vU u) ?_
  refine rund_mu rfl rfl rfl rfl (putN i3 x u) ?_
  apply rund_nil
  refine endx (.inl rfl) (gs:=[]) rfl ⟨rfl,rfl,a2,e2,p2,⟨?_,?_,?_,?_,?_,?_,by omega,fun k hk => ?_⟩,fun k k1 k2 k3 k4 => ?_⟩
  ·refine ⟨by omega,by rw [sget_ne (by omega)]; exact i1,by rw [sget_ne (by omega),kc c (by omega) (by omega) (by omega)]; exact h.hI.j,p1,h.hI.L⟩
  ·rw [sget_ne (by omega),kc (c + 2) (by omega) (by omega) (by omega)]; exact h.h2
  ·exact sget_eq rfl
  ·rw [sget_ne (by omega)]; exact i4
  ·rw [sget_ne (by omega)]; exact i5
  ·rw [sget_ne (by omega)]; exact i6
  ·rw [sget_ne (by omega),kc k (by omega) (by omega) (by omega)]; exact h.hk k hk
  ·rw [sget_ne (by omega),kc k k1 k2 k4]
end
section
open Go.RowKit
attribute [local irreducible] Tr Run RunD RunF GS TG Le Wk Frz Fn' ImmG Flat WkFr WkSt EndM Ex EndX McK FnM gNm
def okI (x:It):Bool:=decide (0 ≤ x.n ∧ x.n ≤ 63 ∧ 1 ≤ x.i.a ∧ x.i.a ≤ 12 ∧ 1 ≤ x.i.b ∧ x.i.b ≤ 1000 ∧ x.i.c < 2305843009213693951)
def nmOf (x:It):Nm:=⟨x.i,x.n⟩
structure Acc where
 kp:List (Nm × Nat)
 rt:Bool
 ri:Bool
 la:Nm
def upN (la x:Nm):Bool:=decide (la = .zero ∨ cmpN la x < 0)
def accS (A:Acc) (x:It):Acc:=⟨putM A.kp (nmOf x) x.p,A.rt && okI x && okK x.p,A.ri && upN A.la (nmOf x),nmOf x⟩
theorem rf_in {gl:List (Nat × List G)} {ops:Array Oper} {K:St → Prop} {rest:List Oper} {inf:List DI} {st:St} {d:Tmp} {ty:TypeId} {xs:Array Operand} {ats:Array TypeId} {pos:String} {af:Array Edge} {fid:FuncId} {i j a a2:Nat} {L:List UInt8} {e e2:Int} {r:G} {c c':Nat} (σ':Sto) (hgl:st.gl = gl) (hc:st.c = c) (h:InAt st.σ i j L a e) (hi:i < c) (hj:j < c) (hd:d < st.n) (hg:xs.toList.map (gev st) = [.ref i 0])
  (hM:McK Tryz.prog gl fid [.ref i 0] [(i,some (inO j L.length a e)),(j,some ⟨5,L.map gY,none⟩)] c r σ' c') (hs:∀ k,k < c → sget σ' k = sget [(i,some (inO j L.length a2 e2)),(i,some (inO j L.length a e)),(j,some ⟨5,L.map gY,none⟩)] k)
  (hK:RunF Tryz.prog ops K rest inf ({ st with σ:=(i,some (inO j L.length a2 e2)) :: st.σ,c:=c' }.put (some d) r)) :
  RunF Tryz.prog ops K (⟨some d,.call { callee:=.value (.func fid),args:=xs,argTypes:=ats },ty,pos,af,none⟩ :: rest) (.wr [i,j] [(i,some (inO j L.length a2 e2))] [(i,some (inO j L.length a e))] true :: inf) st:=by
 subst hgl
 refine rf_m hc ?_ hM [] [] rfl (by simpa using hg) hd ?_ ?_ hK
 ·simp [h.i]
 ·intro k o hk
  simp only [sget_cons,sget_nil] at hk
  split at hk
  ·rename_i e; subst e; cases hk; exact ⟨by simp,h.i⟩
  ·split at hk
   ·rename_i e; subst e; cases hk; exact ⟨by simp,h.j⟩
   ·cases hk
 ·intro σ hb hR k o hk
  have hne:=h.ne
  simp only [List.singleton_append,sget_cons] at hk
  split at hk
  ·rename_i e1
   cases hk
   subst e1
   left
   rw [hs _ hi]
   exact sget_eq rfl
  ·rename_i e1
   by_cases e2:k = j
   ·subst e2
    have hjj:=hR k ⟨5,L.map gY,none⟩ (by rw [sget_ne hne]; exact sget_eq rfl)
    rw [hk] at hjj
    cases hjj
    left
    rw [hs _ hj,sget_ne hne,sget_ne hne]
    exact sget_eq rfl
   ·right
    exact ⟨hk,by rw [sget_ne e1,sget_ne (by omega)]; rfl⟩
theorem in_small {σ:Sto} {i j a:Nat} {L:List UInt8} {e:Int} (h:InAt σ i j L a e):InAt [(i,some (inO j L.length a e)),(j,some ⟨5,L.map gY,none⟩)] i j L a e:=⟨h.ne,sget_eq rfl,by rw [sget_ne h.ne]; exact sget_eq rfl,h.at',h.L⟩
structure GL (σ σ1:Sto) (c c1 ln:Nat) (L:List UInt8) (a:Nat) (e d:Int) (A:Acc):Prop where
 g:GA σ σ1 c c1 L a e d A.kp A.rt
 l:sget σ1 ln = some ⟨92,cN A.la,none⟩
 b:c + 6 < ln ∧ ln < c1
abbrev gclo (c:Nat):G:=.clo (.func 32) [] [.ref (c + 2) 0,.ref (c + 6) 0,.ref (c + 5) 0]
def accOf (R:Raw):Acc:=R.its.foldl accS ⟨if R.lead then [(.zero,R.p)] else [],decide (1 ≤ R.d ∧ R.d ≤ 12) && (!R.lead || okK R.p),true,.zero⟩
def errP (R:Raw):Int:=if endOf R.s ≠ 0 then endOf R.s else if (accOf R).rt = false then 8 else if (accOf R).ri = false then 6 else 0
theorem cell_st_in {σ:Sto} {k i:Nat} {x:G} (h:sget σ k = some ⟨85,[x],none⟩):gsto Tryz.prog σ 85 (.ref k 0) (.ref i 0) = some (k,⟨85,[.ref i 0],none⟩):=by
 simp only [gsto,h]; kernel_rfl
theorem cell_st_ho {σ:Sto} {k i:Nat} {x:G} (h:sget σ k = some ⟨33,[x],none⟩):gsto Tryz.prog σ 33 (.ref k 0) (.ref i 0) = some (k,⟨33,[.ref i 0],none⟩):=by
 simp only [gsto,h]; kernel_rfl
set_option maxHeartbeats 16000000 in
theorem get_mc (gl:List (Nat × List G)) (gb:G) (L:List UInt8) (σ:Sto) (c:Nat) (hv:gview σ 1 gb = some (L.map gY,L.length)) (hL:L.length ≤ 1000000000000) :
  Mc Tryz.prog gl 9 [gb] σ c (fun v σ' c' => c ≤ c' ∧ (∀ k,k < c → sget σ' k = sget σ k) ∧ ∃ i,v = .tup [i,vI (errP (rawOf L))] ∧ if errP (rawOf L) = 0 then (i = .ref (c + 4) 0 ∧ c + 4 < c' ∧ HoldAt σ' (c + 4) (c + 3) (rawOf L).d (accOf (rawOf L)).kp) else i = .lit (.pointer none)):=by
 have hO:=open_mc gl gb L σ c hv hL
 refine mc_enter (by kernel_rfl) Tryz.func9 rfl (by simp [Tryz.ntmps9]) ?_
 simp only [enterFr,Tryz.ntmps9]
 refine wS ?_
 refine zv (.lit (.pointer none)) ?_
 refine zv (vI 0) ?_
 refine wS ?_
 refine zv (gb) ?_
 refine run_m hO [] [] (by kernel_rfl) (by kernel_rfl) (by decide) ?_
 refine run_alloc (l:=[.lit (.pointer none)]) (by kernel_rfl) (by decide) ?_
 refine run_sto (cell_st_in (sget_eq rfl)) ?_
 obtain ⟨σ1,e1⟩:∃ σ1:Sto,σ1 = (c + 2,some ⟨85,[.ref (c + 1) 0],none⟩) :: (c + 2,some ⟨85,[.lit (.pointer none)],none⟩) :: (c + 1,some (inO c L.length 0 0)) :: (c,some ⟨5,L.map gY,none⟩) :: σ:=⟨_,rfl⟩
 rw [← e1]
 have I1:InAt σ1 (c + 1) c L 0 0:=⟨by omega,by rw [e1,sget_ne (by omega),sget_ne (by omega),sget_eq rfl],by rw [e1,sget_ne (by omega),sget_ne (by omega),sget_ne (by omega),sget_eq rfl],by omega,hL⟩
 have P1:sget σ1 (c + 2) = some ⟨85,[.ref (c + 1) 0],none⟩:=by rw [e1,sget_eq rfl]
 have K1:∀ k,k < c → sget σ1 k = sget σ k:=fun k hk => by rw [e1,sget_ne (by omega),sget_ne (by omega),sget_ne (by omega),sget_ne (by omega)]
 have S1:curOf L 0 0 = .ok L:=by rw [curOf_ok]; rfl
 obtain ⟨a2,v2,q2,r2,hM2⟩:=int_rd gl (c + 3) I1
 rw [S1] at r2 hM2
 have ci:=cell_in P1
 obtain ⟨d,hd⟩:∃ d,d = (cInt (.ok L)).1:=⟨_,rfl⟩
 rw [← hd] at hM2
 refine wS ?_
 refine zt (.ref (c + 1) 0) ci ?_
 refine run_m hM2 [] [] (by kernel_rfl) (by kernel_rfl) (by decide) ?_
 refine run_mk (by kernel_rfl) (by decide) ?_
 refine run_build (g:=.agg [vI d,.mref (c + 3)]) (by kernel_rfl) (by decide) ?_
 refine run_box (l:=[vI d,.mref (c + 3)]) (by kernel_rfl) (by decide) ?_
 refine run_alloc (l:=[.lit (.pointer none)]) (by kernel_rfl) (by decide) ?_
 refine run_sto (cell_st_ho (sget_eq rfl)) ?_
 obtain ⟨σ2,e2⟩:∃ σ2:Sto,σ2 = (c + 5,some ⟨33,[.ref (c + 4) 0],none⟩) :: (c + 5,some ⟨33,[.lit (.pointer none)],none⟩) :: (c + 4,some (holdO d (c + 3))) :: (c + 3,some (mapN [])) :: (c + 1,some (inO c L.length a2 v2)) :: σ1:=⟨_,rfl⟩
 have P2:sget σ2 (c + 5) = some ⟨33,[.ref (c + 4) 0],none⟩:=by rw [e2,sget_eq rfl]
 have P3:sget σ2 (c + 4) = some (holdO d (c + 3)):=by rw [e2,sget_ne (by omega),sget_ne (by omega),sget_eq rfl]
 have P4:sget σ2 (c + 3) = some (mapN []):=by rw [e2,sget_ne (by omega),sget_ne (by omega),sget_ne (by omega),sget_eq rfl]
 have P5:sget σ2 (c + 1) = some (inO c L.length a2 v2):=by rw [e2,sget_ne (by omega),sget_ne (by omega),sget_ne (by omega),sget_ne (by omega),sget_eq rfl]
 have P6:∀ k,k ≤ c + 2 → k ≠ c + 1 → sget σ2 k = sget σ1 k:=fun k h1 h2 => by rw [e2,sget_ne (by omega),sget_ne (by omega),sget_ne (by omega),sget_ne (by omega),sget_ne (by omega)]
 have ch:=cell_ho P2
 obtain ⟨ld,_⟩:=hold_ld P3
 refine wN ?_
 refine ex_region_k (fun s => ∃ fr',s = ⟨119,gl,fr',(c + 6,some ⟨4,[vB (decide (1 ≤ d ∧ d ≤ 12))],none⟩) :: (c + 6,some ⟨4,[vB false],none⟩) :: σ2,c + 7,c,false⟩ ∧ FrOk fr' [(4,.ref (c + 2) 0),(5,.ref (c + 5) 0),(6,.ref (c + 6) 0)]) ?_ ?_
 ·rw [show ((c + 5,some (⟨33,[.ref (c + 4) 0],none⟩:Ob)) :: (c + 5,some ⟨33,[.lit (.pointer none)],none⟩) :: (c + 4,some ⟨90,[vI d,.mref (c + 3)],none⟩) :: (c + 3,some ⟨88,[],some (.map [] 0)⟩) :: (c + 1,some (inO c L.length a2 v2)) :: σ1:Sto) = σ2 from e2.symm]
  refine zt (.ref (c + 4) 0) ch ?_
  refine zv (.ref (c + 4) 0) ?_
  refine zv (.ref (c + 4) 0) ?_
  refine zt (vI d) ld ?_
  refine run_bin rfl rfl (geI (a:=d) (b:=1)) (by decide) ?_
  by_cases k1:1 ≤ d
  ·rw [decide_eq_true k1]
   rw [show decide (1 ≤ d ∧ d ≤ 12) = decide (d ≤ 12) from decide_eq_decide.2 ⟨And.right,fun h => ⟨k1,h⟩⟩]
   refine zv (vB true) ?_
   refine ged_v (g:=.ref (c + 4) 0) (by kernel_rfl) (Eq.trans (by kernel_rfl) (ch)) (by decide) ?_
   refine zg (.ref (c + 4) 0) ?_
   refine zg (.ref (c + 4) 0) ?_
   refine ged_v (g:=vI d) (by kernel_rfl) (Eq.trans (by kernel_rfl) (ld)) (by decide) ?_
   refine ged_bin (by kernel_rfl) rfl rfl (leI (a:=d) (b:=12)) (by decide) ?_
   refine zv (vB (decide ((d:Int) ≤ 12))) ?_
   refine run_alloc (l:=[vB false]) (by kernel_rfl) (by decide) ?_
   refine run_sto (st_b (sget_eq rfl)) ?_
   exact run_nil ⟨_,rfl,(by repeat' (first|exact ⟨⟩|refine ⟨rfl,?_⟩))⟩
  ·rw [decide_eq_false k1,show decide (1 ≤ d ∧ d ≤ 12) = false from decide_eq_false fun h => k1 h.1]
   refine zv (vB false) ?_
   refine zn ?_
   refine zn ?_
   refine zn ?_
   refine zn ?_
   refine zn ?_
   refine zv (vB false) ?_
   refine run_alloc (l:=[vB false]) (by kernel_rfl) (by decide) ?_
   refine run_sto (st_b (sget_eq rfl)) ?_
   exact run_nil ⟨_,rfl,(by repeat' (first|exact ⟨⟩|refine ⟨rfl,?_⟩))⟩
 rintro s' ⟨fr',rfl,hfr⟩
 apply thn_n
 refine Ex.le ?_ (le_frs hfr)
 obtain ⟨od,eod⟩:∃ od,od = decide (1 ≤ d ∧ d ≤ 12):=⟨_,rfl⟩
 rw [← eod]
 obtain ⟨σ3,e3⟩:∃ σ3:Sto,σ3 = (c + 6,some ⟨4,[vB od],none⟩) :: (c + 6,some ⟨4,[vB false],none⟩) :: σ2:=⟨_,rfl⟩
 rw [← e3]
 have k3:∀ k,k ≠ c + 6 → sget σ3 k = sget σ2 k:=fun k hk => by rw [e3,sget_ne (by omega),sget_ne (by omega)]
 have G3:GA σ σ3 c (c + 7) L a2 v2 d [] od:=by
  refine ⟨⟨by omega,by rw [k3 _ (by omega)]; exact P5,by rw [k3 _ (by omega),P6 _ (by omega) (by omega)]; exact I1.j,q2,hL⟩,?_,?_,?_,?_,?_,by omega,fun k hk => ?_⟩
  ·rw [k3 _ (by omega),P6 _ (by omega) (by omega)]; exact P1
  ·rw [k3 _ (by omega)]; exact P4
  ·rw [k3 _ (by omega)]; exact P3
  ·rw [k3 _ (by omega)]; exact P2
  ·rw [e3,sget_eq rfl]
  ·rw [k3 _ (by omega),P6 _ (by omega) (by omega)]; exact K1 k hk
 obtain ⟨s2,es2⟩:∃ s2,s2 = (cInt (.ok L)).2:=⟨_,rfl⟩
 rw [← es2] at r2
 obtain ⟨a4,v4,q4,r4,hM4⟩:=bool_rd gl (c + 7) G3.hI
 rw [r2] at r4 hM4
 obtain ⟨bl,ebl⟩:∃ bl,bl = (cBool s2).1:=⟨_,rfl⟩
 obtain ⟨s4,es4⟩:∃ s4,s4 = (cBool s2).2:=⟨_,rfl⟩
 rw [← ebl] at hM4
 rw [← es4] at r4
 have G4:GA σ ((c + 1,some (inO c L.length a4 v4)) :: σ3) c (c + 7) L a4 v4 d [] od:=by
  refine ⟨G3.hI.next q4,?_,?_,?_,?_,?_,by omega,fun k hk => ?_⟩
  ·rw [sget_ne (by omega)]; exact G3.h2
  ·rw [sget_ne (by omega)]; exact G3.h3
  ·rw [sget_ne (by omega)]; exact G3.h4
  ·rw [sget_ne (by omega)]; exact G3.h5
  ·rw [sget_ne (by omega)]; exact G3.h6
  ·rw [sget_ne (by omega)]; exact G3.hk k hk
 have ci3:=cell_in G3.h2
 refine wS ?_
 refine zv (gclo c) ?_
 refine zv (gclo c) ?_
 refine wS ?_
 refine zt (.ref (c + 1) 0) ci3 ?_
 refine run_m hM4 [] [] (by kernel_rfl) (by kernel_rfl) (by decide) ?_
 refine wS ?_
 obtain ⟨pp0,epp⟩:∃ p:Nat × Cur,p = if bl then cNum s4 else (0,s4):=⟨_,rfl⟩
 refine ex_thn (K:=fun s => ∃ fr' σ5 c5 a5 v5,s = ⟨119,gl,fr',σ5,c5,c,false⟩ ∧ FrOk fr' [(4,.ref (c + 2) 0),(5,.ref (c + 5) 0),(6,.ref (c + 6) 0),(7,gclo c)] ∧ curOf L a5 v5 = pp0.2 ∧ GA σ σ5 c c5 L a5 v5 d (if bl then [(.zero,pp0.1)] else []) (od && (!bl || okK pp0.1))) ?_ ?_
 ·refine ex_condB (t:=bl) rfl (fun hb => ?_) (fun hb => ?_)
  ·obtain ⟨σ5,a5,v5,r5,G5,k5,hM5⟩:=priv_mc gl G4 .zero
   rw [r4] at r5 G5
   refine wS ?_
   refine zv (gclo c) ?_
   refine run_build (g:=gNm .zero) (by kernel_rfl) (by decide) ?_
   refine run_m hM5 [] [.ref (c + 2) 0,.ref (c + 6) 0,.ref (c + 5) 0] (by kernel_rfl) (by kernel_rfl) (by decide) ?_
   refine wS ?_
   refine ⟨rfl,_,σ5,_,a5,v5,rfl,(by repeat' (first|exact ⟨⟩|refine ⟨rfl,?_⟩)),?_,?_⟩
   ·rw [epp,hb]; exact r5
   ·rw [epp,hb]
    simpa [putM,atN] using G5
  ·
   refine wS ?_
   refine ⟨rfl,_,_,_,a4,v4,rfl,(by repeat' (first|exact ⟨⟩|refine ⟨rfl,?_⟩)),?_,?_⟩
   ·rw [epp,hb]; exact r4
   ·rw [epp,hb]
    simpa using G4
 rintro s ⟨fr',σ5,c5,a5,v5,rfl,hfr,r5,G5⟩
 refine Ex.le ?_ (le_frs hfr)
 have hc5:=G5.hc
 have G6:GA σ ((c5,some ⟨92,cN .zero,none⟩) :: σ5) c (c5 + 1) L a5 v5 d _ _:=G5.more (by omega) (fun k hk => sget_ne (by omega))
 obtain ⟨a7,v7,q7,r7,hM7⟩:=many_rd gl (c5 + 1) 1000 G6.hI
 rw [r5] at r7 hM7
 obtain ⟨hm0,hm1⟩:=cMany_bd (m:=1000) (by decide) pp0.2
 obtain ⟨n0,en0⟩:∃ n0:Nat,n0 = (cMany 1000 pp0.2).1.toNat:=⟨_,rfl⟩
 have en1:(cMany 1000 pp0.2).1 = (n0:Int):=by rw [en0]; omega
 obtain ⟨s7,es7⟩:∃ s7,s7 = (cMany 1000 pp0.2).2:=⟨_,rfl⟩
 rw [en1] at hM7 hm1
 rw [← es7] at r7
 have ci6:=cell_in G6.h2
 refine wS ?_
 refine zv (vB true) ?_
 refine wS ?_
 refine run_alloc (l:=cN .zero) (by kernel_rfl) (by decide) ?_
 refine wS ?_
 refine zt (.ref (c + 1) 0) ci6 ?_
 refine run_m hM7 [] [] (by kernel_rfl) (by kernel_rfl) (by decide) ?_
 refine zv (vI ((n0:Nat):Int)) ?_
 refine wS ?_
 obtain ⟨A0,eA0⟩:∃ A0:Acc,A0 = ⟨if bl then [(.zero,pp0.1)] else [],od && (!bl || okK pp0.1),true,.zero⟩:=⟨_,rfl⟩
 have L7:GL σ ((c + 1,some (inO c L.length a7 v7)) :: (c5,some ⟨92,cN .zero,none⟩) :: σ5) c (c5 + 1) c5 L a7 v7 d A0:=by
  rw [eA0]
  refine ⟨⟨G6.hI.next q7,?_,?_,?_,?_,?_,by omega,fun k hk => ?_⟩,?_,by omega⟩
  ·rw [sget_ne (by omega)]; exact G6.h2
  ·rw [sget_ne (by omega)]; exact G6.h3
  ·rw [sget_ne (by omega)]; exact G6.h4
  ·rw [sget_ne (by omega)]; exact G6.h5
  ·rw [sget_ne (by omega)]; exact G6.h6
  ·rw [sget_ne (by omega)]; exact G6.hk k hk
  ·rw [sget_ne (by omega)]; exact sget_eq rfl
 refine ex_loop (fun t s => ∃ (q:Nat) (σ1:Sto) (c1 a:Nat) (e:Int) (A:Acc),s = ⟨119,gl,[(4,.ref (c + 2) 0),(5,.ref (c + 5) 0),(6,.ref (c + 6) 0),(7,gclo c),(8,vB A.ri),(9,.ref c5 0),(10,vI ((n0 - q:Nat):Int))],σ1,c1,c,false⟩ ∧ t = n0 - q ∧ q ≤ n0 ∧ GL σ σ1 c c1 c5 L a e d A ∧ A = (cIts q s7).1.foldl accS A0 ∧ curOf L a e = (cIts q s7).2) n0 (le_frs (fr':=[(4,.ref (c + 2) 0),(5,.ref (c + 5) 0),(6,.ref (c + 6) 0),(7,gclo c),(8,vB A0.ri),(9,.ref c5 0),(10,vI ((n0 - 0:Nat):Int))]) (by rw [eA0]; exact (by repeat' (first|exact ⟨⟩|refine ⟨rfl,?_⟩)))) ⟨0,_,_,a7,v7,A0,rfl,rfl,by omega,L7,rfl,r7⟩ ?_
 clear hM7 hM4 hM2 hO ci ci3 ci6 P1 P2 P3 P4 P5 P6 I1 L7 G3 G4 G5 G6
 rintro t s ⟨q,σ1,c1,a,e,A,rfl,rfl,hq,hG,hA,hcur⟩
 refine wS ?_
 refine zv (vI ((n0 - q:Nat):Int)) ?_
 refine run_bin rfl rfl (gtI (a:=((n0 - q:Nat):Int)) (b:=0)) (by decide) ?_
 refine wS ?_
 have hc1:=hG.g.hc
 have hl1:=hG.b
 refine ex_condP (p:=(0:Int) < ((n0 - q:Nat):Int)) rfl (fun hlt => ?_) (fun hlt => ?_)
 ·refine wN ?_
  -- the name is read
  refine Ex.le ?_ (le_resv _)
  dsimp only
  have H1:=hG.g.hI
  obtain ⟨a1,v1,σ',q1,r1,k1,hMa⟩:=ident_rd gl (c1 + 1) (in_small H1) (by omega) (by omega)
  have HI1:InAt [(c + 1,some (inO c L.length a1 v1)),(c,some ⟨5,L.map gY,none⟩)] (c + 1) c L a1 v1:=⟨by omega,sget_eq rfl,by rw [sget_ne (by omega)]; exact sget_eq rfl,q1,hL⟩
  obtain ⟨a2,v2,q2,r2,hMb⟩:=int_rd gl (c1 + 1 + 2) HI1
  rw [hcur] at r1 hMa
  rw [r1] at r2 hMb
  generalize eid:(cId (cIts q s7).2).1 = id at hMa
  generalize enn:(cInt (cId (cIts q s7).2).2).1 = nn at hMb
  obtain ⟨σr,er⟩:∃ σr:Sto,σr = (c1,some resvOb) :: σ1:=⟨_,rfl⟩
  rw [← er]
  have Gr:GA σ σr c (c1 + 1) L a e d A.kp A.rt:=hG.g.more (by omega) (fun k hk => by rw [er,sget_ne (by omega)])
  have cr:=cell_in Gr.h2
  have rr:sget σr c1 = some resvOb:=by rw [er,sget_eq rfl]
  refine ex_region_draw4 (inf:=[.rd [c + 2] (fun _ => false),.wr [c + 1,c] [(c + 1,some (inO c L.length a1 v1))] [(c + 1,some (inO c L.length a e))] true,.rd [c + 2] (fun _ => false),.wr [c + 1,c] [(c + 1,some (inO c L.length a2 v2))] [(c + 1,some (inO c L.length a1 v1))] true,dR,.wr [c1] [(c1,some ⟨92,cN .zero,none⟩)] [(c1,some resvOb)] false,.wr [c1] [(c1,some ⟨92,cN ⟨id,nn⟩,none⟩)] [(c1,some ⟨92,cN .zero,none⟩)] false]) mixed ?_ ?_
  ·refine drawOk4_of (pairs:=[(0,2),(1,2),(0,5),(1,5),(2,5),(3,5)]) (by kernel_rfl) (by kernel_rfl) ?_
   have nb:∀ x y:Nat,x ≠ y → Nat.beq x y = false:=fun x y h => by
    cases hb:Nat.beq x y
    ·rfl
    ·exact absurd (Nat.eq_of_beq_eq_true hb) h
   intro x hx
   simp only [List.mem_cons,List.not_mem_nil,or_false] at hx
   rcases hx with rfl | rfl | rfl | rfl | rfl | rfl
   ·show okS (.rd _ _) (.rd _ _) = true
    rfl
   ·show okS (.wr _ _ _ _) (.rd _ _) = true
    simp (disch:=omega) [okS,meets,nb]
   ·show okS (.rd _ _) (.wr _ _ _ _) = true
    simp (disch:=omega) [okS,meets,nb]
   ·show okS (.wr _ _ _ _) (.wr _ _ _ _) = true
    simp (disch:=omega) [okS,meets,nb]
   ·show okS (.rd _ _) (.wr _ _ _ _) = true
    simp (disch:=omega) [okS,meets,nb]
   ·show okS (.wr _ _ _ _) (.wr _ _ _ _) = true
    simp (disch:=omega) [okS,meets,nb]
  refine rf_ld (d:=44) (i:=c + 2) (k:=0) (g:=.ref (c + 1) 0) (by show 44 < 119; decide) rfl cr ?_
  refine rf_in (c:=c1 + 1) σ' rfl rfl Gr.hI (by omega) (by omega) (by show 45 < 119; decide) (by kernel_rfl) hMa (fun k hk => k1 k hk) ?_
  have cr2:gload Tryz.prog ((c + 1,some (inO c L.length a1 v1)) :: σr) 85 (.ref (c + 2) 0) = some (.ref (c + 1) 0):=cell_in (by rw [sget_ne (by omega)]; exact Gr.h2)
  refine rf_ld (d:=46) (i:=c + 2) (k:=0) (g:=.ref (c + 1) 0) (by show 46 < 119; decide) rfl cr2 ?_
  refine rf_in (c:=c1 + 1 + 2) _ rfl rfl (Gr.hI.next q1) (by omega) (by omega) (by show 47 < 119; decide) (by kernel_rfl) hMb (fun k hk => rfl) ?_
  refine rf_b (d:=48) (g:=gNm ⟨id,nn⟩) rfl rfl rfl (by show 48 < 119; decide) (by kernel_rfl) ?_
  refine rf_w (d:=11) (g:=.ref c1 0) (U:=[(c1,some ⟨92,cN .zero,none⟩)]) (R:=[c1]) c1 ?_ rfl rfl (by show 11 < 119; decide) rfl ?_ ?_
  ·show [(c1,some resvOb)] = [(c1,sget ((c + 1,some (inO c L.length a2 v2)) :: (c + 1,some (inO c L.length a1 v1)) :: σr) c1)]
   rw [sget_ne (by omega),sget_ne (by omega),rr]
  ·exact xeff_alloc rfl (by
    show isResv (sget ((c + 1,some (inO c L.length a2 v2)) :: (c + 1,some (inO c L.length a1 v1)) :: σr) c1) = true
    rw [sget_ne (by omega),sget_ne (by omega),rr]; rfl) (Nat.ble_eq_true_of_le (show c ≤ c1 by omega)) (by kernel_rfl)
  refine rf_w0 (g:=.lit undef) (U:=[(c1,some ⟨92,cN ⟨id,nn⟩,none⟩)]) (R:=[c1]) c1 ?_ rfl rfl rfl ?_ ?_
  ·show [(c1,some _)] = [(c1,sget ((c1,some _) :: _) c1)]
   rw [sget_eq rfl]
  ·exact xeff_sto rfl rfl (nm_st (q:=.zero) (sget_eq rfl))
  apply rf_nil
  apply thn_n
  obtain ⟨σ4,e4⟩:∃ σ4:Sto,σ4 = (c1,some ⟨92,cN ⟨id,nn⟩,none⟩) :: (c1,some ⟨92,cN .zero,none⟩) :: (c + 1,some (inO c L.length a2 v2)) :: (c + 1,some (inO c L.length a1 v1)) :: σr:=⟨_,rfl⟩
  refine Ex.le (st':=⟨119,gl,[(4,.ref (c + 2) 0),(5,.ref (c + 5) 0),(6,.ref (c + 6) 0),(7,gclo c),(8,vB A.ri),(9,.ref c5 0),(10,vI ((n0 - q:Nat):Int)),(11,.ref c1 0)],σ4,c1 + 1 + 2,c,false⟩) ?_ (by rw [e4]; exact le_frs (by repeat' (first|exact ⟨⟩|refine ⟨rfl,?_⟩)))
  have k4:∀ k,k < c1 → k ≠ c + 1 → sget σ4 k = sget σ1 k:=fun k h1 h2 => by rw [e4,sget_ne (by omega),sget_ne (by omega),sget_ne (by omega),sget_ne (by omega),er,sget_ne (by omega)]
  have n4:sget σ4 c1 = some ⟨92,cN ⟨id,nn⟩,none⟩:=by rw [e4,sget_eq rfl]
  have l4:sget σ4 c5 = some ⟨92,cN A.la,none⟩:=by rw [k4 _ (by omega) (by omega)]; exact hG.l
  have g4:GA σ σ4 c (c1 + 1 + 2) L a2 v2 d A.kp A.rt:=by
   refine ⟨⟨by omega,by rw [e4,sget_ne (by omega),sget_ne (by omega),sget_eq rfl],by rw [k4 _ (by omega) (by omega)]; exact hG.g.hI.j,q2,hL⟩,?_,?_,?_,?_,?_,by omega,fun k hk => ?_⟩
   ·rw [k4 _ (by omega) (by omega)]; exact hG.g.h2
   ·rw [k4 _ (by omega) (by omega)]; exact hG.g.h3
   ·rw [k4 _ (by omega) (by omega)]; exact hG.g.h4
   ·rw [k4 _ (by omega) (by omega)]; exact hG.g.h5
   ·rw [k4 _ (by omega) (by omega)]; exact hG.g.h6
   ·rw [k4 _ (by omega) (by omega)]; exact hG.g.hk k hk
  obtain ⟨kp,rt,ri,la⟩:=A
  dsimp only at *
  -- do the names rise?
  obtain ⟨z0,_⟩:=nm_ld l4
  obtain ⟨n0',n1',n2',n3',n4',n5'⟩:=nm_ld n4
  refine wN ?_
  refine ex_region_k (fun s => ∃ fr',s = ⟨119,gl,fr',σ4,c1 + 1 + 2,c,false⟩ ∧ FrOk fr' [(4,.ref (c + 2) 0),(5,.ref (c + 5) 0),(6,.ref (c + 6) 0),(7,gclo c),(8,vB (ri && upN la ⟨id,nn⟩)),(9,.ref c5 0),(10,vI ((n0 - q:Nat):Int)),(11,.ref c1 0)]) ?_ ?_
  ·cases ri with
   | false =>
    refine zv (vB false) ?_
    refine zv (vB false) ?_
    refine zn ?_
    refine zn ?_
    refine zn ?_
    refine zn ?_
    refine zn ?_
    refine zn ?_
    refine zn ?_
    refine zn ?_
    refine zn ?_
    refine zv (vB false) ?_
    refine zv (vB false) ?_
    exact run_nil ⟨_,rfl,(by repeat' (first|exact ⟨⟩|refine ⟨rfl,?_⟩))⟩
   | true =>
    refine zv (vB true) ?_
    refine zv (vB true) ?_
    refine ged_v (g:=gNm la) (by kernel_rfl) (Eq.trans (by kernel_rfl) (z0)) (by decide) ?_
    refine ged_bd (g:=gNm .zero) (by kernel_rfl) (by kernel_rfl) (by decide) ?_
    refine ged_bin (by kernel_rfl) rfl rfl (eqlNm la .zero) (by decide) ?_
    by_cases hz:la = .zero
    ·rw [decide_eq_true hz,show (true && upN la ⟨id,nn⟩) = true from decide_eq_true (.inl hz)]
     refine zg (vB true) ?_
     refine zn ?_
     refine zn ?_
     refine zn ?_
     refine zn ?_
     refine zg (vB true) ?_
     refine zv (vB true) ?_
     refine zv (vB true) ?_
     exact run_nil ⟨_,rfl,(by repeat' (first|exact ⟨⟩|refine ⟨rfl,?_⟩))⟩
    ·rw [decide_eq_false hz,show (true && upN la ⟨id,nn⟩) = decide (cmpN la ⟨id,nn⟩ < 0) from decide_eq_decide.2 ⟨fun h => h.resolve_left hz,.inr⟩]
     refine zg (vB false) ?_
     refine ged_v (g:=gNm la) (by kernel_rfl) (Eq.trans (by kernel_rfl) (z0)) (by decide) ?_
     refine ged_v (g:=gNm ⟨id,nn⟩) (by kernel_rfl) (Eq.trans (by kernel_rfl) (n0')) (by decide) ?_
     refine ged_cf (by kernel_rfl) (less_fn gl la ⟨id,nn⟩) (by kernel_rfl) [] [] rfl rfl (im2 (gNm_imm _) (gNm_imm _)) (by decide) ?_
     refine ged_bin (by kernel_rfl) rfl rfl (ltI (a:=cmpN la ⟨id,nn⟩) (b:=0)) (by decide) ?_
     refine zg (vB (decide ((cmpN la ⟨id,nn⟩:Int) < 0))) ?_
     refine zv (vB (decide ((cmpN la ⟨id,nn⟩:Int) < 0))) ?_
     refine zv (vB (decide ((cmpN la ⟨id,nn⟩:Int) < 0))) ?_
     exact run_nil ⟨_,rfl,(by repeat' (first|exact ⟨⟩|refine ⟨rfl,?_⟩))⟩
  rintro s' ⟨fr',rfl,hfr⟩
  apply thn_n
  refine Ex.le ?_ (le_frs hfr)
  generalize hri:(ri && upN la ⟨id,nn⟩) = ri2
  -- may it be?
  obtain ⟨pp,epp2⟩:∃ pp,pp = (cNum (curOf L a2 v2)).1:=⟨_,rfl⟩
  have hbr:=g4.h6
  have c6:=cell_b hbr
  refine wN ?_
  refine ex_region_k (fun s => ∃ fr',s = ⟨119,gl,fr',(c + 6,some ⟨4,[vB (rt && okI ⟨id,nn,pp⟩)],none⟩) :: σ4,c1 + 1 + 2,c,false⟩ ∧ FrOk fr' [(4,.ref (c + 2) 0),(5,.ref (c + 5) 0),(6,.ref (c + 6) 0),(7,gclo c),(8,vB ri2),(9,.ref c5 0),(10,vI ((n0 - q:Nat):Int)),(11,.ref c1 0)]) ?_ ?_
  ·refine zt (vB rt) c6 ?_
   cases rt with
   | false =>
    refine zv (vB false) ?_
    refine zn ?_
    refine zn ?_
    refine zn ?_
    refine zv (vB false) ?_
    refine zv (vB false) ?_
    refine zn ?_
    refine zn ?_
    refine zn ?_
    refine zv (vB false) ?_
    refine zv (vB false) ?_
    refine zn ?_
    refine zn ?_
    refine zn ?_
    refine zn ?_
    refine zv (vB false) ?_
    refine zv (vB false) ?_
    refine zn ?_
    refine zn ?_
    refine zn ?_
    refine zn ?_
    refine zv (vB false) ?_
    refine zv (vB false) ?_
    refine zn ?_
    refine zn ?_
    refine zn ?_
    refine zn ?_
    refine zv (vB false) ?_
    refine zv (vB false) ?_
    refine zn ?_
    refine zn ?_
    refine zn ?_
    refine zn ?_
    refine zv (vB false) ?_
    refine zv (vB false) ?_
    refine zn ?_
    refine zn ?_
    refine zn ?_
    refine zn ?_
    refine zv (vB false) ?_
    refine run_sto (st_b (b:=false) hbr) ?_
    exact run_nil ⟨_,rfl,(by repeat' (first|exact ⟨⟩|refine ⟨rfl,?_⟩))⟩
   | true =>
    refine zv (vB true) ?_
    refine zg (.ref c1 3) ?_
    refine ged_v (g:=vI nn) (by kernel_rfl) (Eq.trans (by kernel_rfl) (n2')) (by decide) ?_
    refine ged_bin (by kernel_rfl) rfl rfl (geI (a:=nn) (b:=0)) (by decide) ?_
    by_cases k1:0 ≤ nn
    ·rw [decide_eq_true k1]
     refine zv (vB true) ?_
     refine zv (vB true) ?_
     refine zg (.ref c1 3) ?_
     refine ged_v (g:=vI nn) (by kernel_rfl) (Eq.trans (by kernel_rfl) (n2')) (by decide) ?_
     refine ged_bin (by kernel_rfl) rfl rfl (leI (a:=nn) (b:=63)) (by decide) ?_
     by_cases k2:nn ≤ 63
     ·rw [decide_eq_true k2]
      refine zv (vB true) ?_
      refine zv (vB true) ?_
      refine zg (.ref c1 0) ?_
      refine zg (.ref c1 0) ?_
      refine ged_v (g:=vI id.a) (by kernel_rfl) (Eq.trans (by kernel_rfl) (n3')) (by decide) ?_
      refine ged_bin (by kernel_rfl) rfl rfl (geI (a:=id.a) (b:=1)) (by decide) ?_
      by_cases k3:1 ≤ id.a
      ·rw [decide_eq_true k3]
       refine zv (vB true) ?_
       refine zv (vB true) ?_
       refine zg (.ref c1 0) ?_
       refine zg (.ref c1 0) ?_
       refine ged_v (g:=vI id.a) (by kernel_rfl) (Eq.trans (by kernel_rfl) (n3')) (by decide) ?_
       refine ged_bin (by kernel_rfl) rfl rfl (leI (a:=id.a) (b:=12)) (by decide) ?_
       by_cases k4:id.a ≤ 12
       ·rw [decide_eq_true k4]
        refine zv (vB true) ?_
        refine zv (vB true) ?_
        refine zg (.ref c1 0) ?_
        refine zg (.ref c1 1) ?_
        refine ged_v (g:=vI id.b) (by kernel_rfl) (Eq.trans (by kernel_rfl) (n4')) (by decide) ?_
        refine ged_bin (by kernel_rfl) rfl rfl (geI (a:=id.b) (b:=1)) (by decide) ?_
        by_cases k5:1 ≤ id.b
        ·rw [decide_eq_true k5]
         refine zv (vB true) ?_
         refine zv (vB true) ?_
         refine zg (.ref c1 0) ?_
         refine zg (.ref c1 1) ?_
         refine ged_v (g:=vI id.b) (by kernel_rfl) (Eq.trans (by kernel_rfl) (n4')) (by decide) ?_
         refine ged_bin (by kernel_rfl) rfl rfl (leI (a:=id.b) (b:=1000)) (by decide) ?_
         by_cases k6:id.b ≤ 1000
         ·rw [decide_eq_true k6]
          refine zv (vB true) ?_
          refine zv (vB true) ?_
          refine zg (.ref c1 0) ?_
          refine zg (.ref c1 2) ?_
          refine ged_v (g:=vU id.c) (by kernel_rfl) (Eq.trans (by kernel_rfl) (n5')) (by decide) ?_
          refine ged_bin (by kernel_rfl) rfl rfl (ltU (a:=id.c) (b:=2305843009213693951)) (by decide) ?_
          by_cases k7:id.c < 2305843009213693951
          ·rw [decide_eq_true k7]
           refine zv (vB true) ?_
           rw [show (true && okI ⟨id,nn,pp⟩) = true from decide_eq_true ⟨k1,k2,k3,k4,k5,k6,k7⟩]
           refine run_sto (st_b (b:=true) hbr) ?_
           exact run_nil ⟨_,rfl,(by repeat' (first|exact ⟨⟩|refine ⟨rfl,?_⟩))⟩
          ·rw [decide_eq_false k7]
           refine zv (vB false) ?_
           rw [show (true && okI ⟨id,nn,pp⟩) = false from decide_eq_false fun h => k7 h.2.2.2.2.2.2]
           refine run_sto (st_b (b:=false) hbr) ?_
           exact run_nil ⟨_,rfl,(by repeat' (first|exact ⟨⟩|refine ⟨rfl,?_⟩))⟩
         ·rw [decide_eq_false k6]
          refine zv (vB false) ?_
          refine zv (vB false) ?_
          refine zn ?_
          refine zn ?_
          refine zn ?_
          refine zn ?_
          refine zv (vB false) ?_
          rw [show (true && okI ⟨id,nn,pp⟩) = false from decide_eq_false fun h => k6 h.2.2.2.2.2.1]
          refine run_sto (st_b (b:=false) hbr) ?_
          exact run_nil ⟨_,rfl,(by repeat' (first|exact ⟨⟩|refine ⟨rfl,?_⟩))⟩
        ·rw [decide_eq_false k5]
         refine zv (vB false) ?_
         refine zv (vB false) ?_
         refine zn ?_
         refine zn ?_
         refine zn ?_
         refine zn ?_
         refine zv (vB false) ?_
         refine zv (vB false) ?_
         refine zn ?_
         refine zn ?_
         refine zn ?_
         refine zn ?_
         refine zv (vB false) ?_
         rw [show (true && okI ⟨id,nn,pp⟩) = false from decide_eq_false fun h => k5 h.2.2.2.2.1]
         refine run_sto (st_b (b:=false) hbr) ?_
         exact run_nil ⟨_,rfl,(by repeat' (first|exact ⟨⟩|refine ⟨rfl,?_⟩))⟩
       ·rw [decide_eq_false k4]
        refine zv (vB false) ?_
        refine zv (vB false) ?_
        refine zn ?_
        refine zn ?_
        refine zn ?_
        refine zn ?_
        refine zv (vB false) ?_
        refine zv (vB false) ?_
        refine zn ?_
        refine zn ?_
        refine zn ?_
        refine zn ?_
        refine zv (vB false) ?_
        refine zv (vB false) ?_
        refine zn ?_
        refine zn ?_
        refine zn ?_
        refine zn ?_
        refine zv (vB false) ?_
        rw [show (true && okI ⟨id,nn,pp⟩) = false from decide_eq_false fun h => k4 h.2.2.2.1]
        refine run_sto (st_b (b:=false) hbr) ?_
        exact run_nil ⟨_,rfl,(by repeat' (first|exact ⟨⟩|refine ⟨rfl,?_⟩))⟩
      ·rw [decide_eq_false k3]
       refine zv (vB false) ?_
       refine zv (vB false) ?_
       refine zn ?_
       refine zn ?_
       refine zn ?_
       refine zn ?_
       refine zv (vB false) ?_
       refine zv (vB false) ?_
       refine zn ?_
       refine zn ?_
       refine zn ?_
       refine zn ?_
       refine zv (vB false) ?_
       refine zv (vB false) ?_
       refine zn ?_
       refine zn ?_
       refine zn ?_
       refine zn ?_
       refine zv (vB false) ?_
       refine zv (vB false) ?_
       refine zn ?_
       refine zn ?_
       refine zn ?_
       refine zn ?_
       refine zv (vB false) ?_
       rw [show (true && okI ⟨id,nn,pp⟩) = false from decide_eq_false fun h => k3 h.2.2.1]
       refine run_sto (st_b (b:=false) hbr) ?_
       exact run_nil ⟨_,rfl,(by repeat' (first|exact ⟨⟩|refine ⟨rfl,?_⟩))⟩
     ·rw [decide_eq_false k2]
      refine zv (vB false) ?_
      refine zv (vB false) ?_
      refine zn ?_
      refine zn ?_
      refine zn ?_
      refine zn ?_
      refine zv (vB false) ?_
      refine zv (vB false) ?_
      refine zn ?_
      refine zn ?_
      refine zn ?_
      refine zn ?_
      refine zv (vB false) ?_
      refine zv (vB false) ?_
      refine zn ?_
      refine zn ?_
      refine zn ?_
      refine zn ?_
      refine zv (vB false) ?_
      refine zv (vB false) ?_
      refine zn ?_
      refine zn ?_
      refine zn ?_
      refine zn ?_
      refine zv (vB false) ?_
      refine zv (vB false) ?_
      refine zn ?_
      refine zn ?_
      refine zn ?_
      refine zn ?_
      refine zv (vB false) ?_
      rw [show (true && okI ⟨id,nn,pp⟩) = false from decide_eq_false fun h => k2 h.2.1]
      refine run_sto (st_b (b:=false) hbr) ?_
      exact run_nil ⟨_,rfl,(by repeat' (first|exact ⟨⟩|refine ⟨rfl,?_⟩))⟩
    ·rw [decide_eq_false k1]
     refine zv (vB false) ?_
     refine zv (vB false) ?_
     refine zn ?_
     refine zn ?_
     refine zn ?_
     refine zv (vB false) ?_
     refine zv (vB false) ?_
     refine zn ?_
     refine zn ?_
     refine zn ?_
     refine zn ?_
     refine zv (vB false) ?_
     refine zv (vB false) ?_
     refine zn ?_
     refine zn ?_
     refine zn ?_
     refine zn ?_
     refine zv (vB false) ?_
     refine zv (vB false) ?_
     refine zn ?_
     refine zn ?_
     refine zn ?_
     refine zn ?_
     refine zv (vB false) ?_
     refine zv (vB false) ?_
     refine zn ?_
     refine zn ?_
     refine zn ?_
     refine zn ?_
     refine zv (vB false) ?_
     refine zv (vB false) ?_
     refine zn ?_
     refine zn ?_
     refine zn ?_
     refine zn ?_
     refine zv (vB false) ?_
     rw [show (true && okI ⟨id,nn,pp⟩) = false from decide_eq_false fun h => k1 h.1]
     refine run_sto (st_b (b:=false) hbr) ?_
     exact run_nil ⟨_,rfl,(by repeat' (first|exact ⟨⟩|refine ⟨rfl,?_⟩))⟩
  rintro s' ⟨fr',rfl,hfr⟩
  apply thn_n
  refine Ex.le ?_ (le_frs hfr)
  generalize hrt:(rt && okI ⟨id,nn,pp⟩) = rt2
  obtain ⟨σ5,e5⟩:∃ σ5:Sto,σ5 = (c5,some ⟨92,cN ⟨id,nn⟩,none⟩) :: (c + 6,some ⟨4,[vB rt2],none⟩) :: σ4:=⟨_,rfl⟩
  have k5:∀ k,k ≠ c5 → k ≠ c + 6 → sget σ5 k = sget σ4 k:=fun k h1 h2 => by rw [e5,sget_ne (by omega),sget_ne (by omega)]
  have g5:GA σ σ5 c (c1 + 1 + 2) L a2 v2 d kp rt2:=by
   refine ⟨⟨by omega,by rw [k5 _ (by omega) (by omega)]; exact g4.hI.i,by rw [k5 _ (by omega) (by omega)]; exact g4.hI.j,q2,hL⟩,?_,?_,?_,?_,?_,by omega,fun k hk => ?_⟩
   ·rw [k5 _ (by omega) (by omega)]; exact g4.h2
   ·rw [k5 _ (by omega) (by omega)]; exact g4.h3
   ·rw [k5 _ (by omega) (by omega)]; exact g4.h4
   ·rw [k5 _ (by omega) (by omega)]; exact g4.h5
   ·rw [e5,sget_ne (by omega),sget_eq rfl]
   ·rw [k5 _ (by omega) (by omega)]; exact g4.hk k hk
  obtain ⟨σ6,a6,v6,r6,g6,k6,hM6⟩:=priv_mc gl g5 ⟨id,nn⟩
  rw [← epp2] at g6
  obtain ⟨w1,_⟩:=nm_ld (σ:=σ5) (k:=c1) (by rw [k5 _ (by omega) (by omega)]; exact n4)
  obtain ⟨w0,_⟩:=nm_ld (σ:=(c + 6,some (⟨4,[vB rt2],none⟩:Ob)) :: σ4) (k:=c1) (by rw [sget_ne (by omega)]; exact n4)
  refine wS ?_
  refine zt (gNm ⟨id,nn⟩) w0 ?_
  refine run_sto (nm_st (q:=la) (by rw [sget_ne (by omega)]; exact l4)) ?_
  rw [← e5]
  refine wS ?_
  refine zv (gclo c) ?_
  refine run_ld rfl w1 (by decide) ?_
  refine run_m hM6 [] [.ref (c + 2) 0,.ref (c + 6) 0,.ref (c + 5) 0] (by kernel_rfl) (by kernel_rfl) (by decide) ?_
  refine wS ?_
  refine zv (vI ((n0 - q:Nat):Int)) ?_
  refine run_v (g:=vI ((n0 - (q + 1):Nat):Int)) (Eq.trans (by kernel_rfl) (congrArg some (show G.lit (.int .i64 (IntKind.i64.wrap (((n0 - q:Nat):Int) - 1))) = _ by rw [w64 (by omega),show ((n0 - q:Nat):Int) - 1 = ((n0 - (q + 1):Nat):Int) by omega]))) (by decide) ?_
  refine zv (vI ((n0 - (q + 1):Nat):Int)) ?_
  refine wS ?_
  have ecI:(cIt (cIts q s7).2) = (⟨id,nn,pp⟩,(cNum (curOf L a2 v2)).2):=by
   unfold cIt
   rw [eid,enn,epp2,r2]
  refine ⟨n0 - (q + 1),_,by omega,le_frs (fr':=[(4,.ref (c + 2) 0),(5,.ref (c + 5) 0),(6,.ref (c + 6) 0),(7,gclo c),(8,vB ri2),(9,.ref c5 0),(10,vI ((n0 - (q + 1):Nat):Int))]) (by repeat' (first|exact ⟨⟩|refine ⟨rfl,?_⟩)),q + 1,σ6,_,a6,v6,⟨putM kp ⟨id,nn⟩ pp,rt2 && okK pp,ri2,⟨id,nn⟩⟩,rfl,rfl,by omega,⟨g6,?_,by omega⟩,?_,?_⟩
  ·rw [k6 _ (by omega) (by omega) (by omega) (by omega),e5]; exact sget_eq rfl
  ·rw [cIts_snoc,ecI,List.foldl_append,← hA]
   show _ = accS ⟨kp,rt,ri,la⟩ ⟨id,nn,pp⟩
   unfold accS nmOf
   dsimp only
   rw [hri,hrt]
  ·rw [cIts_snoc,ecI]; exact r6
 ·have eq:q = n0:=by omega
  rw [eq] at hA hcur
  have eR:rawOf L = ⟨d,bl,pp0.1,(cIts n0 s7).1,(cIts n0 s7).2⟩:=by
   unfold rawOf
   simp only [← es2,← ebl,← es4,← epp,← en0,← es7,← hd]
  have eA:accOf (rawOf L) = A:=by
   rw [hA,eR,eA0,eod]
   rfl
  have hM9:=end_mc gl c1 hG.g.hI
  rw [hcur,show (cIts n0 s7).2 = (rawOf L).s by rw [eR]] at hM9
  have eE:errP (rawOf L) = if endOf (rawOf L).s ≠ 0 then endOf (rawOf L).s else if A.rt = false then 8 else if A.ri = false then 6 else 0:=by unfold errP; rw [eA]
  generalize endOf (rawOf L).s = ee at *
  have hdd:(rawOf L).d = d:=by rw [eR]
  have ci9:=cell_in hG.g.h2
  have cb9:=cell_b hG.g.h6
  have ch9:=cell_ho hG.g.h5
  refine wS ?_
  refine zt (.ref (c + 1) 0) ci9 ?_
  refine run_m hM9 [] [] (by kernel_rfl) (by kernel_rfl) (by decide) ?_
  refine zv (vI ee) ?_
  refine wS ?_
  refine zv (vI ee) ?_
  refine run_bin rfl rfl (neI (a:=ee) (b:=0)) (by decide) ?_
  refine zv (vB (decide ((ee:Int) ≠ 0))) ?_
  refine wS ?_
  refine ex_condP (p:=ee ≠ 0) rfl (fun he => ?_) (fun he => ?_)
  ·
   refine wS ?_
   refine zv (vI ee) ?_
   refine zv (.lit (.pointer none)) ?_
   refine zv (vI ee) ?_
   refine wS ?_
   rw [if_pos he] at eE
   refine endx (.inr rfl) (gs:=[.lit (.pointer none),vI ee]) (by kernel_rfl) ⟨by omega,hG.g.hk,.lit (.pointer none),by rw [eE]; rfl,?_⟩
   rw [if_neg (by rw [eE]; exact he)]
  ·rw [if_neg he] at eE
   refine wS ?_
   refine zt (vB A.rt) cb9 ?_
   refine zv (vB (!A.rt)) ?_
   refine zv (vB (!A.rt)) ?_
   refine wS ?_
   refine ex_condB (t:=!A.rt) rfl (fun ht => ?_) (fun ht => ?_)
   ·
    refine wS ?_
    refine zv (.lit (.pointer none)) ?_
    refine zv (vI 8) ?_
    refine wS ?_
    rw [if_pos (by simpa using ht)] at eE
    refine endx (.inr rfl) (gs:=[.lit (.pointer none),vI 8]) (by kernel_rfl) ⟨by omega,hG.g.hk,.lit (.pointer none),by rw [eE]; rfl,?_⟩
    rw [if_neg (by rw [eE]; decide)]
   ·rw [if_neg (by simpa using ht)] at eE
    refine wS ?_
    refine zv (vB A.ri) ?_
    refine zv (vB (!A.ri)) ?_
    refine zv (vB (!A.ri)) ?_
    refine wS ?_
    refine ex_condB (t:=!A.ri) rfl (fun hi => ?_) (fun hi => ?_)
    ·
     refine wS ?_
     refine zv (.lit (.pointer none)) ?_
     refine zv (vI 6) ?_
     refine wS ?_
     rw [if_pos (by simpa using hi)] at eE
     refine endx (.inr rfl) (gs:=[.lit (.pointer none),vI 6]) (by kernel_rfl) ⟨by omega,hG.g.hk,.lit (.pointer none),by rw [eE]; rfl,?_⟩
     rw [if_neg (by rw [eE]; decide)]
    ·rw [if_neg (by simpa using hi)] at eE
     refine wS ?_
     refine zt (.ref (c + 4) 0) ch9 ?_
     refine zv (.ref (c + 4) 0) ?_
     refine zv (vI 0) ?_
     refine wS ?_
     refine endx (.inr rfl) (gs:=[.ref (c + 4) 0,vI 0]) (by kernel_rfl) ⟨by omega,hG.g.hk,.ref (c + 4) 0,by rw [eE]; rfl,?_⟩
     rw [if_pos eE,hdd,eA]
     exact ⟨rfl,by omega,by omega,hG.g.h4,hG.g.h3⟩
end
end Go.Proofs.YtpehhhbmobmedaaGreatDoor
